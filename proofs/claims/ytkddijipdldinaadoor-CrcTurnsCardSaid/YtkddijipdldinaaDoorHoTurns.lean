import Derived.Test.YtkddijipdldinaaDoorFrame
import Derived.Test.YtkddijipdldinaaDoorWkF
import Derived.Test.YtkddijipdldinaaDoorPlain2
import Derived.Laws.OwnMore
import Derived.Deep.AppendLies
namespace Go.Proofs.YtkddijipdldinaaDoor
open Go.RowKit Crc

theorem test_bit (x : BitVec 32) (k : Nat) (b : Bool) (h : x.getLsbD k = b) : (bits .and .u32 (v x / 2 ^ k) 1 == 1) = b := by
  have e : v x / 2 ^ k = v (x >>> k) := by
    unfold v
    rw [BitVec.toNat_ushiftRight, Nat.shiftRight_eq_div_pow, Int.natCast_ediv, Int.natCast_pow]
    rfl
  rw [e, and1_v, BitVec.getLsbD_ushiftRight, Nat.add_zero, h]
  cases b <;> rfl
theorem xor_bit (y r : Nat) (hy : y < 256) (hr : r < 8) : ∃ u : UInt8, u.toNat = y ^^^ 2 ^ r ∧ bits .xor .u8 (y : Int) (2 ^ r % 256) = (u.toNat : Int) := by
  have h2 : 2 ^ r < 256 := Nat.lt_of_lt_of_le (Nat.pow_lt_pow_right (by decide) hr) (by decide)
  have hx : y ^^^ 2 ^ r < 2 ^ 8 := Nat.xor_lt_two_pow hy h2
  have hu : (UInt8.ofNat (y ^^^ 2 ^ r)).toNat = y ^^^ 2 ^ r := by rw [UInt8.toNat_ofNat']; exact Nat.mod_eq_of_lt hx
  refine ⟨UInt8.ofNat (y ^^^ 2 ^ r), hu, ?_⟩
  rw [hu]
  have e : ((2 : Int) ^ r % 256) = ((2 ^ r : Nat) : Int) := by
    have : ((2 : Int) ^ r) = ((2 ^ r : Nat) : Int) := by simp
    rw [this]; exact Int.emod_eq_of_lt (Int.natCast_nonneg _) (Int.ofNat_lt.2 h2)
  rw [e]
  unfold bits
  show IntKind.u8.wrap (((BitVec.ofInt 8 (y : Int) ^^^ BitVec.ofInt 8 ((2 ^ r : Nat) : Int)) : BitVec 8).toNat : Int) = _
  rw [BitVec.ofInt_natCast, BitVec.ofInt_natCast, BitVec.toNat_xor, BitVec.toNat_ofNat, BitVec.toNat_ofNat, Nat.mod_eq_of_lt (by omega), Nat.mod_eq_of_lt (by omega), IntKind.wrap_u8]
  omega
theorem vals_set (t : List UInt8) (q : Nat) (u : UInt8) : vals (t.set q u) = (vals t).set q (.int .u8 (u.toNat : Int)) := by
  unfold vals; rw [List.map_set]
theorem turn_step {w wr : World} {l t : List UInt8} {g d q r p k : Nat} {x : BitVec 32} (hT : Turned l p x k t) (hown : wr.ownsRow w.heap.size 5 1 (.slice (some ⟨g, 0, none⟩) l.length d) l.length (vals t)) (hbel : Below w.heap.size w wr) (hg : w.heap.size ≤ g)
    (hk : k < 32) (hp : p + 32 ≤ 8 * l.length) (hq : q = (p + k) / 8) (hr : r = (p + k) % 8) (hbit : x.getLsbD k = true) :
    ∃ t', Turned l p x (k + 1) t' ∧ ((wr.setCell ⟨g, q, none⟩ (.int .u8 (bits .xor .u8 (((t[q]?.getD 0).toNat : Nat) : Int) (2 ^ r % 256)))).drew).ownsRow w.heap.size 5 1 (.slice (some ⟨g, 0, none⟩) l.length d) l.length (vals t') ∧
      Below w.heap.size w ((wr.setCell ⟨g, q, none⟩ (.int .u8 (bits .xor .u8 (((t[q]?.getD 0).toNat : Nat) : Int) (2 ^ r % 256)))).drew) := by
  obtain ⟨u, hu, he⟩ := xor_bit (t[q]?.getD 0).toNat r (t[q]?.getD 0).toNat_lt (by omega)
  rw [he]
  refine ⟨t.set q u, ?_, ?_, (hbel.setCell hg _).drew⟩
  · rw [hq]
    refine hT.step hk hp u ?_
    rw [if_pos hbit, hu, hq, hr, List.getD_eq_getElem?_getD]
  · rw [vals_set]
    exact (hown.stored q _).1.drew
theorem turn_skip {l t : List UInt8} {p k : Nat} {x : BitVec 32} (hT : Turned l p x k t) (hk : k < 32) (hp : p + 32 ≤ 8 * l.length) (hbit : x.getLsbD k = false) : Turned l p x (k + 1) t := by
  have hq : (p + k) / 8 < t.length := by have := hT.1; omega
  have h := hT.step hk hp (t.getD ((p + k) / 8) 0) (by rw [hbit]; rfl)
  have e : t.set ((p + k) / 8) (t.getD ((p + k) / 8) 0) = t := by
    rw [List.getD_eq_getElem?_getD, List.getElem?_eq_getElem hq]
    exact List.set_getElem_self hq
  rwa [e] at h

theorem S2_mk {w wx : World} {A B : Option Addr} {l t : List UInt8} {n : Nat} (hb : Bytes w A l) (ht : Bytes w B t) (hn : t.length = n) (cap d : Nat) (hx : Below w.heap.size w wx) :
    Below w.heap.size w wx ∧ (convert 23 9 (.slice A l.length cap)).run Tryd.prog wx = .ok (.string ⟨l.toArray⟩) wx ∧ (convert 23 9 (.slice B n d)).run Tryd.prog wx = .ok (.string ⟨t.toArray⟩) wx := by
  subst hn
  exact ⟨hx, conv_any cap (hb.later hx), conv_any d (ht.later hx)⟩
theorem sum_one' {b o n : Nat} {A : Option Addr} {l : List UInt8} {c : Nat} {w : World} (hn : l.length = n) (hT : Tab w) (hc : w.cell? ⟨b, o, none⟩ = some (.slice A n c)) (hb : Bytes w A l) :
    Calls Tryd.prog 10 #[.slice (some ⟨b, o, none⟩) 1 1] w fun e w' => e = .returned (.int .u32 (v (sum l))) ∧ w = w' := by
  subst hn
  exact sum_one hT hc hb
set_option maxHeartbeats 4000000 in
set_option maxRecDepth 100000 in
theorem crcTurns_walk (A : Option Addr) (l : List UInt8) (cap : Nat) (p : Nat) (x : BitVec 32) (w : World) (hT : Tab w) (hb : Bytes w A l)
    (h1 : l.length ≤ 8192) (h2 : 4 ≤ l.length) (h3 : x ≠ 0#32) (h4 : p + 32 ≤ 8 * l.length) :
    Calls Tryd.prog 5 #[.slice A l.length cap, .int .i64 (p : Int), .int .u32 (v x)] w fun e w' => e = .returned (.bool true) ∧ Below w.heap.size w w' := by
  have g1 : ¬ (8192 < (l.length : Int)) := by omega
  have g2 : ¬ ((l.length : Int) < 4) := by omega
  have g3 : (v x == 0) = false := by
    rw [beq_eq_false_iff_ne]; intro e; exact h3 (v_inj (e.trans (by decide)))
  have g4 : ¬ ((p : Int) < 0) := by omega
  have g5 : ¬ (8 * (l.length : Int) - 32 < (p : Int)) := by omega
  go_enter Tryd.func5, Tryd.ntmps5
  go_wp2_with (first
    | (go_at_call 8; refine (awake_any _ hT).mono ?_; rintro e w' ⟨rfl, rfl⟩)
    | (go_at_call 11; refine (own_is cap _ hb (by omega) (Below.refl _ _)).mono ?_; rintro e w1 ⟨B1, d1, rfl, hy1, hx1, hs1, ho1⟩))
  obtain ⟨g, c', hv, hg1, hg2⟩ := ho1.form (by omega)
  injection hv with hv1 hv2 hv3
  subst hv1
  clear hv2 hv3
  go_loopw [8] (fun i wr => ∃ (k : Nat) (t : List UInt8), k ≤ 32 ∧ i = .int .i64 k ∧ Turned l p x k t ∧ wr.ownsRow w.heap.size 5 1 (.slice (some ⟨g, 0, none⟩) l.length d1) l.length (vals t) ∧ Below w.heap.size w wr)
    (fun i _ => 32 - (intOf i).toNat)
  case atStart => exact ⟨0, l, by omega, rfl, Turned.zero l p x, ho1, hx1⟩
  case round =>
    obtain ⟨k, t, hk, rfl, hTu, hown, hbel⟩ := hrel
    by_cases hlt : k < 32
    · cases hbit : x.getLsbD k with
      | true =>
        have ht := test_bit x k true hbit
        obtain ⟨q, hq⟩ : ∃ q : Nat, q = (p + k) / 8 := ⟨_, rfl⟩
        obtain ⟨r, hr⟩ : ∃ r : Nat, r = (p + k) % 8 := ⟨_, rfl⟩
        have R := turn_step hTu hown hbel hg1 hlt h4 hq hr hbit
        have eq1 : ((p : Int) + (k : Int)) / 8 = (q : Int) := by omega
        have er1 : ((p : Int) + (k : Int)) % 8 = (r : Int) := by omega
        have hr8 : r < 8 := by omega
        have hql : q < l.length := by omega
        have hqi : (q : Int) < (l.length : Int) := by omega
        have hlen : t.length = l.length := hTu.1
        have hc := hown.cellAt q (by omega)
        have hf := hown.frozenAt q
        rw [show (vals t)[q]? = some (.int .u8 ((t.getD q 0).toNat : Int)) by
          unfold vals; rw [List.getElem?_map, List.getElem?_eq_getElem (by omega), List.getD_eq_getElem?_getD, List.getElem?_eq_getElem (by omega)]; rfl] at hc
        clear hq hr hlen hbit
        have HR := Lib.hid R
        clear R hown hTu hbel
        go_wp2
        go_region
        go_wp2
        go_roundw
        case rel =>
          obtain ⟨t', r1, r2, r3⟩ := HR.out
          exact ⟨k + 1, t', by omega, by go_num, r1, r2, r3⟩
        case measure => simp [intOf]; omega
      | false =>
        have ht := test_bit x k false hbit
        have R := Lib.hid (turn_skip hTu hlt h4 hbit)
        clear hbit
        go_wp2
        go_roundw
        case rel => exact ⟨k + 1, t, by omega, by go_num, R.out, hown, hbel⟩
        case measure => simp [intOf]; omega
    · have e : k = 32 := by omega
      subst e
      have hne := turned_ne l t p x h3 h4 hTu
      have hnv : (v (sum t) != v (sum l)) = true := by rw [bne_iff_ne]; exact fun e => hne (v_inj e)
      have hlen : t.length = l.length := hTu.1
      rw [← hlen] at hown
      have hbt := (bytes_n hown (by omega)).2
      have hbw := hb.below hbel (Nat.le_refl _)
      have hTw := hT.later hbel
      clear hne hTu hown hk hlt hT hb hy1
      have HL := Lib.hid hlen
      clear hlen
      go_wp2
      go_region_held3 (fun w' => Below wr.heap.size wr w' ∧ (convert 23 9 (.slice A l.length cap)).run Tryd.prog w' = .ok (.string ⟨l.toArray⟩) w' ∧ (convert 23 9 (.slice (some ⟨g, 0, none⟩) l.length d1)).run Tryd.prog w' = .ok (.string ⟨t.toArray⟩) w')
        (first | assumption | exact S2_mk hbw hbt HL.out cap d1 (by first | assumption | exact (Below.refl _ _).drew | exact Below.alloc (by assumption) (Below.size (by assumption)) _ | (go_split_ands; exact Below.alloc (by assumption) (Below.size (by assumption)) _)))
        (first
          | (go_at_call 11; refine (own_is cap _ hbw (by omega) ?_).mono ?_; (go_split_ands; assumption); rintro e w3 ⟨B3, d3, rfl, hy3, hx3, hs3, ho3⟩)
          | (go_at_call 10; (with_reducible refine (sum_one' (A := B3) (c := d3) (l := l) rfl ?_ ?_ ?_).mono ?_); (go_split_ands; exact hTw.later (by assumption)); (exact (World.cell?_alloc_mark _ _ _ _ _).trans rfl); (exact hy3.later (Below.alloc (Below.refl _ _) (Nat.le_refl _) _)); rintro e w2 ⟨rfl, rfl⟩)
          | (go_at_call 10; (with_reducible refine (sum_one' (A := some ⟨g, 0, none⟩) (c := d1) (l := t) HL.out ?_ ?_ ?_).mono ?_); (go_split_ands; exact hTw.later (by assumption)); (exact (World.cell?_alloc_mark _ _ _ _ _).trans rfl); (go_split_ands; exact hbt.later (by assumption)); rintro e w2 ⟨rfl, rfl⟩)
          | (go_at_call_of 12 (Value.string ⟨t.toArray⟩); refine (text_to _ t _ ?_ rfl ?_).mono ?_; (go_split_ands; exact hTw.later (by assumption)); (have := HL.out; omega); rintro e w4 ⟨rfl, rfl⟩)
          | (go_at_call_of 12 (Value.string ⟨l.toArray⟩); refine (text_to _ l _ ?_ rfl ?_).mono ?_; (go_split_ands; exact hTw.later (by assumption)); omega; rintro e w4 ⟨rfl, rfl⟩))
      all_goals
        go_wp2
        go_ret
        go_split_ands
        exact ⟨rfl, hbel.trans (Below.mono (by assumption) hbel.size)⟩

theorem crcTurns_short (A : Option Addr) (n cap : Nat) (p x : Int) (w : World) (hT : Tab w) (h : (8192 < n ∨ n < 4) ∨ x = 0 ∨ p < 0 ∨ 8 * (n : Int) - 32 < p) :
    Calls Tryd.prog 5 #[.slice A n cap, .int .i64 p, .int .u32 x] w fun e w' => e = .returned (.bool true) ∧ Below w.heap.size w w' := by
  by_cases h1 : 8192 < (n : Int)
  · clear h
    go_enter Tryd.func5, Tryd.ntmps5
    go_wp2_with (first | (go_at_call 8; refine (awake_any _ hT).mono ?_; rintro e w' ⟨rfl, rfl⟩))
    go_ret
    exact ⟨rfl, Below.refl _ _⟩
  · by_cases h2 : (n : Int) < 4
    · clear h
      go_enter Tryd.func5, Tryd.ntmps5
      go_wp2_with (first | (go_at_call 8; refine (awake_any _ hT).mono ?_; rintro e w' ⟨rfl, rfl⟩))
      go_ret
      exact ⟨rfl, Below.refl _ _⟩
    · by_cases h3 : x = 0
      · have h3' : (x == 0) = true := by rw [h3]; rfl
        clear h h3
        go_enter Tryd.func5, Tryd.ntmps5
        go_wp2_with (first | (go_at_call 8; refine (awake_any _ hT).mono ?_; rintro e w' ⟨rfl, rfl⟩))
        go_ret
        exact ⟨rfl, Below.refl _ _⟩
      · have h3' : (x == 0) = false := by rw [beq_eq_false_iff_ne]; exact h3
        by_cases h4 : p < 0
        · clear h h3
          go_enter Tryd.func5, Tryd.ntmps5
          go_wp2_with (first | (go_at_call 8; refine (awake_any _ hT).mono ?_; rintro e w' ⟨rfl, rfl⟩))
          go_ret
          exact ⟨rfl, Below.refl _ _⟩
        · have h5 : 8 * (n : Int) - 32 < p := by omega
          clear h h3
          go_enter Tryd.func5, Tryd.ntmps5
          go_wp2_with (first | (go_at_call 8; refine (awake_any _ hT).mono ?_; rintro e w' ⟨rfl, rfl⟩))
          go_ret
          exact ⟨rfl, Below.refl _ _⟩

theorem crcTurns_hole (a0 : Option Addr) (len0 cap0 : Nat) (z0 : List Int) (a1 : Int) (a2 : Int) (w : World) (hL : Laid w) (w0 : IsRow .u8 w a0 len0 cap0 z0) (_w1 : (Lit.int .i64 a1).wf = true) (w2 : (Lit.int .u32 a2).wf = true) :
    Calls Tryd.prog 5 #[.slice a0 len0 cap0, .int .i64 a1, .int .u32 a2] w fun e w' => e = .returned (.bool true) ∧ Below w.heap.size w w' := by
  obtain ⟨x, rfl⟩ := u32_of_wf w2
  obtain ⟨l, rfl, hb⟩ := bytes_of_row w0
  by_cases h : (8192 < l.length ∨ l.length < 4) ∨ v x = 0 ∨ a1 < 0 ∨ 8 * (l.length : Int) - 32 < a1
  · exact crcTurns_short a0 _ cap0 a1 _ w hL h
  · obtain ⟨p, rfl⟩ : ∃ p : Nat, a1 = (p : Int) := ⟨a1.toNat, by omega⟩
    exact crcTurns_walk a0 l cap0 p x w hL hb (by omega) (by omega) (fun e => by subst e; exact h (.inr (.inl (by decide)))) (by omega)
end Go.Proofs.YtkddijipdldinaaDoor
