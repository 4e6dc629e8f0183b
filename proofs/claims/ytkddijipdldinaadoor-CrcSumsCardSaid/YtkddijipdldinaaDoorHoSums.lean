import Derived.Test.YtkddijipdldinaaDoorFrame
namespace Go.Proofs.YtkddijipdldinaaDoor
open Go.RowKit Crc
theorem crcSums_long (c : Int) (A : Option Addr) (len cap : Nat) (w : World) (hT : Tab w) (hl : 8192 < len) :
    Calls Tryd.prog 3 #[.int .u32 c, .slice A len cap] w fun e w' => e = .returned (.bool true) ∧ Below w.heap.size w w' := by
  have hle : 8192 < (len : Int) := by omega
  go_enter Tryd.func3, Tryd.ntmps3
  go_wp2_with (first | (go_at_call 8; refine (awake_any _ hT).mono ?_; rintro e w' ⟨rfl, rfl⟩))
  go_ret
  exact ⟨rfl, Below.refl _ _⟩
theorem crcSums_hole (a0 : Int) (a1 : Option Addr) (len1 cap1 : Nat) (z1 : List Int) (w : World) (hL : Laid w) (w0 : (Lit.int .u32 a0).wf = true) (w1 : IsRow .u8 w a1 len1 cap1 z1) :
    Calls Tryd.prog 3 #[.int .u32 a0, .slice a1 len1 cap1] w fun e w' => e = .returned (.bool true) ∧ Below w.heap.size w w' := by
  obtain ⟨c, rfl⟩ := u32_of_wf w0
  obtain ⟨l, rfl, hb⟩ := bytes_of_row w1
  by_cases h : l.length ≤ 8192
  · exact crcSums_walk c a1 l cap1 w hL hb h
  · exact crcSums_long _ a1 _ cap1 w hL (by omega)
end Go.Proofs.YtkddijipdldinaaDoor
