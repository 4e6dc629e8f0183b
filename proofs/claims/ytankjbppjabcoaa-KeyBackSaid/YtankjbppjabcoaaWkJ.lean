import Derived.Test.YtankjbppjabcoaaWkI
import Derived.Test.YtankjbppjabcoaaPlain2
namespace Go.Proofs.Ytankjbppjabcoaa
open Go.RowKit Ky

theorem byte_ok (g a : Nat) (s : Bs) (x : UInt8) (w : World) (h : Rd w g s a 0) (hs : s.length ≤ 140737488351232) (hn : a < s.length) (hx : (s.drop a).take 1 = [x]) :
    Calls Try.prog 21 #[.pointer (some ⟨g, 0, none⟩)] w fun e w' => e = .returned (.int .u8 (x.toNat : Int)) ∧ Rd w' g s ((a + 1 : Nat) : Int) 0 ∧ But g w w' := by
  have htl := S_tl
  have hsz := S_size
  go_enter Try.func21, Try.ntmps21
  go_wp2_with (go_at_call 26; refine (take_ok g 1 a s _ h hs (by omega)).mono ?_; rintro e w1 ⟨rfl, h1, hb1⟩; rw [hx])
  go_ret
  exact ⟨by simp [S]; rfl, h1, hb1⟩
theorem byte_short (g : Nat) (w : World) (h : Rd w g [] 0 0) :
    Calls Try.prog 21 #[.pointer (some ⟨g, 0, none⟩)] w fun e w' => e = .returned (.int .u8 0) ∧ Rd w' g [] 0 20 ∧ But g w w' := by
  have htl := S_tl
  have hsz := S_size
  go_enter Try.func21, Try.ntmps21
  go_wp2_with (go_at_call 26; refine (take_short g 1 [] 0 0 _ h rfl (by decide) (by omega) (by decide) (by decide)).mono ?_; rintro e w1 ⟨rfl, h1, hb1⟩)
  go_ret
  exact ⟨rfl, h1, hb1⟩

theorem val_snoc (l : Bs) (x : UInt8) : val (l ++ [x]) = val l * 256 + x.toNat := by
  induction l with
  | nil => simp [val]
  | cons y l ih =>
    have e : 256 ^ (l.length + 1) = 256 ^ l.length * 256 := Nat.pow_succ ..
    simp only [List.cons_append, val, List.length_append, List.length_cons, List.length_nil, ih]
    rw [Nat.zero_add, e, Nat.add_mul, Nat.mul_assoc, Nat.add_assoc]
theorem val_take {u : Bs} {k : Nat} (h : k < u.length) : val (u.take (k + 1)) = val (u.take k) * 256 + u[k].toNat := by
  rw [List.take_add_one, List.getElem?_eq_getElem h]
  exact val_snoc _ _
theorem val_take_lt {u : Bs} {k : Nat} (h : k < u.length) (h8 : u.length ≤ 8) : val (u.take k) < 72057594037927936 := by
  have h1 := val_lt (u.take k)
  rw [List.length_take, Nat.min_eq_left (by omega)] at h1
  have h2 : 256 ^ k ≤ 256 ^ 7 := Nat.pow_le_pow_right (by omega) (by omega)
  have h3 : 256 ^ 7 = 72057594037927936 := rfl
  omega
theorem fixed_ok (g a : Nat) (s : Bs) (u : Bs) (w : World) (h : Rd w g s a 0) (hs : s.length ≤ 140737488351232) (hn : a + 8 ≤ s.length) (hu : (s.drop a).take 8 = u) :
    Calls Try.prog 22 #[.pointer (some ⟨g, 0, none⟩)] w fun e w' => e = .returned (.int .u64 (val u : Int)) ∧ Rd w' g s ((a + 8 : Nat) : Int) 0 ∧ But g w w' := by
  have hul : u.length = 8 := by rw [← hu]; simp; omega
  have htl := S_tl
  have hsz := S_size
  go_enter Try.func22, Try.ntmps22
  go_wp2_with (go_at_call 26; refine (take_ok g 8 a s _ h hs hn).mono ?_; rintro e w1 ⟨rfl, h1, hb1⟩; rw [hu])
  clear h hu hn hs
  go_loop [3, 10] (fun cv i => ∃ k : Nat, k ≤ 8 ∧ i = .int .i64 k ∧ cv = .int .u64 (val (u.take k) : Int)) (fun _ i => 8 - (intOf i).toNat)
  case atStart => exact ⟨0, Nat.zero_le _, rfl, by simp [val]⟩
  case round =>
    obtain ⟨k, hk, rfl, rfl⟩ := hrel
    by_cases hlt : k < 8
    · have hlu : k < u.length := by omega
      have hv := val_take hlu
      have hv2 := val_take_lt hlu (by omega)
      have hx := u[k].toNat_lt
      have hg : (S u)[k]'(by rw [hsz]; exact hlu) = u[k] := rfl
      go_wp2
      go_round
      case rel => exact ⟨k + 1, by omega, by go_num, by rw [hv]; simp⟩
      case measure => simp [intOf]; omega
    · have e : k = 8 := by omega
      subst e
      go_wp2
      go_ret
      exact ⟨by rw [List.take_of_length_le (by omega)]; rfl, h1, hb1⟩
theorem fixed_short (g a : Nat) (s : Bs) (w : World) (h : Rd w g s a 0) (hs : s.length ≤ 140737488351232) (h1 : a ≤ s.length) (hn : s.length < a + 8) :
    Calls Try.prog 22 #[.pointer (some ⟨g, 0, none⟩)] w fun e w' => e = .returned (.int .u64 0) ∧ Rd w' g s a 20 ∧ But g w w' := by
  have htl := S_tl
  have hsz := S_size
  go_enter Try.func22, Try.ntmps22
  go_wp2_with (go_at_call 26; refine (take_short g 8 s a 0 _ h rfl hs (by omega) (by omega) (by omega)).mono ?_; rintro e w1 ⟨rfl, h1, hb1⟩)
  refine wp_loop_rounds 1 ?_
  rw [rounds_succ]
  go_wp2
  go_ret
  exact ⟨rfl, h1, hb1⟩
theorem fixed_fail (g : Nat) (a err : Int) (s : Bs) (w : World) (h : Rd w g s a err) (he : (err != 0) = true) :
    Calls Try.prog 22 #[.pointer (some ⟨g, 0, none⟩)] w fun e w' => e = .returned (.int .u64 0) ∧ w = w' := by
  have htl := S_tl
  have hsz := S_size
  go_enter Try.func22, Try.ntmps22
  go_wp2_with (go_at_call 26; refine (take_fail g 8 s a err _ h he).mono ?_; rintro e w1 ⟨rfl, rfl⟩)
  refine wp_loop_rounds 1 ?_
  rw [rounds_succ]
  go_wp2
  go_ret
  exact ⟨rfl, rfl⟩
end Go.Proofs.Ytankjbppjabcoaa
