import Derived.Test.YtkddijipdldinaaDoorFrame
import Derived.Test.YtkddijipdldinaaDoorWkF
import Derived.Test.YtkddijipdldinaaDoorPlain2
import Derived.Laws.OwnMore
import Derived.Deep.AppendLies
import Derived.OneCell
namespace Go.Proofs.YtkddijipdldinaaDoor
open Go.RowKit Crc

theorem crcThrees_long (A : Option Addr) (n cap : Nat) (x y : Int) (w : World) (hT : Tab w) (h : 8192 < (n : Int)) :
    Calls Tryd.prog 6 #[.slice A n cap, .int .u8 x, .int .u8 y] w fun e w' => e = .returned (.bool true) ∧ Below w.heap.size w w' := by
  go_enter Tryd.func6, Tryd.ntmps6
  go_wp2_with (first | (go_at_call 8; refine (awake_any _ hT).mono ?_; rintro e w' ⟨rfl, rfl⟩))
  go_ret
  exact ⟨rfl, Below.refl _ _⟩

/-! ### the three texts' bytes -/
def fb (l : List UInt8) (x y : UInt8) (j : Nat) : UInt8 := l.getD j 0 * x + y
def fc (l : List UInt8) (x y : UInt8) (j : Nat) : UInt8 := fb l x y j ^^^ UInt8.ofNat j
def fd (l : List UInt8) (x y : UInt8) (j : Nat) : UInt8 := l.getD j 0 ^^^ fb l x y j ^^^ fc l x y j
def Filled (f : Nat → UInt8) (n k : Nat) (t : List UInt8) : Prop := t.length = n ∧ ∀ j, j < k → t.getD j 0 = f j
theorem Filled.step {f : Nat → UInt8} {n k : Nat} {t : List UInt8} (h : Filled f n k t) (hk : k < n) : Filled f n (k + 1) (t.set k (f k)) := by
  refine ⟨by simp [h.1], fun j hj => ?_⟩
  rw [List.getD_eq_getElem?_getD]
  by_cases e : j = k
  · subst e
    rw [List.getElem?_set_self (by have := h.1; omega)]; rfl
  · rw [List.getElem?_set_ne (Ne.symm e), ← List.getD_eq_getElem?_getD]
    exact h.2 j (by omega)
theorem crc_threes (l b c d : List UInt8) (x y : UInt8) (hb : Filled (fb l x y) l.length l.length b) (hc : Filled (fc l x y) l.length l.length c) (hd : Filled (fd l x y) l.length l.length d) :
    sum d = sum l ^^^ sum b ^^^ sum c := by
  have key : ∀ k, k ≤ l.length → run (~~~ 0#32) (d.take k) = run (~~~ 0#32) (l.take k) ^^^ run (~~~ 0#32) (b.take k) ^^^ run (~~~ 0#32) (c.take k) := by
    intro k
    induction k with
    | zero => intro _; show (~~~ 0#32) = (~~~ 0#32) ^^^ (~~~ 0#32) ^^^ (~~~ 0#32); decide
    | succ k ih =>
      intro hk
      have hk' : k < l.length := by omega
      rw [run_snoc _ d k (by have := hd.1; omega), run_snoc _ l k hk', run_snoc _ b k (by have := hb.1; omega), run_snoc _ c k (by have := hc.1; omega), ih (by omega)]
      have gd : ∀ (t : List UInt8) (h : k < t.length), t[k] = t.getD k 0 := fun t h => by rw [List.getD_eq_getElem?_getD, List.getElem?_eq_getElem h]; rfl
      have e : ext (d[k]'(by have := hd.1; omega)) = ext l[k] ^^^ ext (b[k]'(by have := hb.1; omega)) ^^^ ext (c[k]'(by have := hc.1; omega)) := by
        rw [gd d (by have := hd.1; omega), gd l hk', gd b (by have := hb.1; omega), gd c (by have := hc.1; omega), hd.2 k hk', hb.2 k hk', hc.2 k hk']
        apply BitVec.eq_of_getLsbD_eq
        intro i _
        simp only [BitVec.getLsbD_xor, ext_bit]
        unfold fd
        rw [UInt8.toNat_xor, UInt8.toNat_xor, Nat.testBit_xor, Nat.testBit_xor]
      have hup : ∀ (p : BitVec 32) (q : UInt8), up p q = bs4 (bs4 p) ^^^ bs4 (bs4 (ext q)) := fun p q => by unfold up; rw [bs4_xor, bs4_xor]
      simp only [hup]
      rw [e]
      simp only [bs4_xor]
      generalize bs4 (bs4 (run (~~~ 0#32) (l.take k))) = A
      generalize bs4 (bs4 (run (~~~ 0#32) (b.take k))) = B
      generalize bs4 (bs4 (run (~~~ 0#32) (c.take k))) = C
      generalize bs4 (bs4 (ext l[k])) = X
      generalize bs4 (bs4 (ext (b[k]'(by have := hb.1; omega)))) = Y
      generalize bs4 (bs4 (ext (c[k]'(by have := hc.1; omega)))) = Z
      apply BitVec.eq_of_getLsbD_eq
      intro i _
      simp only [BitVec.getLsbD_xor]
      cases A.getLsbD i <;> cases B.getLsbD i <;> cases C.getLsbD i <;> cases X.getLsbD i <;> cases Y.getLsbD i <;> cases Z.getLsbD i <;> rfl
  have h := key l.length (Nat.le_refl _)
  have ed : d.take l.length = d := List.take_of_length_le (by have := hd.1; omega)
  have eb : b.take l.length = b := List.take_of_length_le (by have := hb.1; omega)
  have ec : c.take l.length = c := List.take_of_length_le (by have := hc.1; omega)
  rw [ed, eb, ec, List.take_length] at h
  unfold sum more
  rw [h]
  apply BitVec.eq_of_getLsbD_eq
  intro i hi
  simp only [BitVec.getLsbD_xor, BitVec.getLsbD_not, hi, decide_true, Bool.true_and]
  cases (run (~~~ 0#32) l).getLsbD i <;> cases (run (~~~ 0#32) b).getLsbD i <;> cases (run (~~~ 0#32) c).getLsbD i <;> rfl

/-! ### Go's numbers -/
theorem u8_mul_add (a x y : UInt8) : IntKind.u8.wrap (IntKind.u8.wrap ((a.toNat : Int) * (x.toNat : Int)) + (y.toNat : Int)) = ((a * x + y).toNat : Int) := by
  rw [IntKind.wrap_u8, IntKind.wrap_u8, UInt8.toNat_add, UInt8.toNat_mul]
  simp only [Int.natCast_emod, Int.natCast_add, Int.natCast_mul]
  rfl
theorem u8_xor (a b : UInt8) : bits .xor .u8 (a.toNat : Int) (b.toNat : Int) = ((a ^^^ b).toNat : Int) := by
  have ha := a.toNat_lt
  have hb := b.toNat_lt
  unfold bits
  show IntKind.u8.wrap (((BitVec.ofInt 8 (a.toNat : Int) ^^^ BitVec.ofInt 8 (b.toNat : Int)) : BitVec 8).toNat : Int) = _
  rw [BitVec.ofInt_natCast, BitVec.ofInt_natCast, BitVec.toNat_xor, BitVec.toNat_ofNat, BitVec.toNat_ofNat, Nat.mod_eq_of_lt (by omega), Nat.mod_eq_of_lt (by omega), IntKind.wrap_u8, UInt8.toNat_xor]
  have : a.toNat ^^^ b.toNat < 2 ^ 8 := Nat.xor_lt_two_pow (by omega) (by omega)
  omega
theorem u8_of_nat (k : Nat) : (k : Int) % 256 = ((UInt8.ofNat k).toNat : Int) := by
  rw [UInt8.toNat_ofNat']
  omega

theorem vals_set (t : List UInt8) (q : Nat) (u : UInt8) : vals (t.set q u) = (vals t).set q (.int .u8 (u.toNat : Int)) := by
  unfold vals; rw [List.map_set]
/-- A round's numbers, named. -/
theorem threes_nums (l : List UInt8) (x y : UInt8) (k : Nat) (hk : k < l.length) : ∃ u B C z D : UInt8, fb l x y k = B ∧ fc l x y k = C ∧ fd l x y k = D ∧
    ((l[k].toNat : Int) * (x.toNat : Int) + (y.toNat : Int)) % 256 = (B.toNat : Int) ∧ (k : Int) % 256 = (u.toNat : Int) ∧ bits .xor .u8 (B.toNat : Int) (u.toNat : Int) = (C.toNat : Int) ∧
    bits .xor .u8 (l[k].toNat : Int) (B.toNat : Int) = (z.toNat : Int) ∧ bits .xor .u8 (z.toNat : Int) (C.toNat : Int) = (D.toNat : Int) := by
  have e : l.getD k 0 = l[k] := by rw [List.getD_eq_getElem?_getD, List.getElem?_eq_getElem hk]; rfl
  refine ⟨UInt8.ofNat k, _, _, l[k] ^^^ fb l x y k, _, rfl, rfl, rfl, ?_, u8_of_nat k, u8_xor _ _, u8_xor _ _, ?_⟩
  · have h := u8_mul_add l[k] x y
    rw [IntKind.wrap_u8, IntKind.wrap_u8] at h
    unfold fb
    rw [e, ← h]
    omega
  · rw [u8_xor]; unfold fd; rw [e]
theorem bytes_own {w : World} {base n g d : Nat} {t : List UInt8} (h : w.ownsRow base 5 1 (.slice (some ⟨g, 0, none⟩) n d) n (vals t)) (k : Nat) (hk : k < n) : w.cell? ⟨g, k, none⟩ = some (.int .u8 ((t.getD k 0).toNat : Int)) := by
  have hl : t.length = n := by have := h.1; rw [vals_length] at this; omega
  rw [h.cellAt k (by omega)]
  unfold vals
  rw [List.getElem?_map, List.getElem?_eq_getElem (by omega), List.getD_eq_getElem?_getD, List.getElem?_eq_getElem (by omega)]
  rfl

theorem own_later {w w' : World} {base : Nat} {v : Value} {n : Nat} {xs : List Value} (h : w.ownsRow base 5 1 v n xs) (hb : Below w.heap.size w w') : w'.ownsRow base 5 1 v n xs :=
  h.kept (row := none) ⟨hb.os, hb.tape, hb.output, hb.size, fun i hi _ => hb.block i hi⟩ (by cases v.ownBlock <;> simp)
theorem own_addr {w : World} {base n m d : Nat} {B : Option Addr} {xs : List Value} (h : w.ownsRow base 5 1 (.slice B m d) n xs) (hn : 0 < n) : ∃ g, B = some ⟨g, 0, none⟩ := by
  obtain ⟨g, c, hv, _⟩ := h.form hn
  injection hv with h1
  exact ⟨g, h1⟩
theorem own_less {w : World} {b base n : Nat} {v : Value} {xs : List Value} (h : w.ownsRow b 5 1 v n xs) (hle : base ≤ b) : w.ownsRow base 5 1 v n xs := by
  refine ⟨h.1, ?_⟩
  rcases h.2 with hn | ⟨g, cap, cur, hv, hb, rest⟩
  · exact .inl hn
  · exact .inr ⟨g, cap, cur, hv, Nat.le_trans hle hb, rest⟩
theorem sum_one_r {b o n : Nat} {A : Option Addr} {l : List UInt8} {c : Nat} {w : World} (r : BitVec 32) (hr : sum l = r) (hn : l.length = n) (hT : Tab w) (hc : w.cell? ⟨b, o, none⟩ = some (.slice A n c)) (hb : Bytes w A l) :
    Calls Tryd.prog 10 #[.slice (some ⟨b, o, none⟩) 1 1] w fun e w' => e = .returned (.int .u32 (v r)) ∧ w = w' := by
  subst hn; subst hr
  exact sum_one hT hc hb
theorem below_al {w W : World} {o : Obj} (h : Below w.heap.size w W) : Below w.heap.size w (W.alloc o) := h.alloc h.size o
/-- What a round does to the three rows. -/
theorem threes_step {w wr : World} {l t1 t2 t3 : List UInt8} {x y : UInt8} {k g1 g2 g3 d1 d2 d3 : Nat} (hk : k < l.length) (hg1 : w.heap.size ≤ g1) (h12 : g1 < g2) (h23 : g2 < g3)
    (f1 : Filled (fb l x y) l.length k t1) (f2 : Filled (fc l x y) l.length k t2) (f3 : Filled (fd l x y) l.length k t3)
    (o1 : wr.ownsRow w.heap.size 5 1 (.slice (some ⟨g1, 0, none⟩) l.length d1) l.length (vals t1)) (o2 : wr.ownsRow w.heap.size 5 1 (.slice (some ⟨g2, 0, none⟩) l.length d2) l.length (vals t2))
    (o3 : wr.ownsRow w.heap.size 5 1 (.slice (some ⟨g3, 0, none⟩) l.length d3) l.length (vals t3)) (hbel : Below w.heap.size w wr) {W : World}
    (hW : W = (((wr.setCell ⟨g1, k, none⟩ (.int .u8 ((fb l x y k).toNat : Int))).setCell ⟨g2, k, none⟩ (.int .u8 ((fc l x y k).toNat : Int))).setCell ⟨g3, k, none⟩ (.int .u8 ((fd l x y k).toNat : Int))).drew) :
    ∃ t1 t2 t3, Filled (fb l x y) l.length (k + 1) t1 ∧ Filled (fc l x y) l.length (k + 1) t2 ∧ Filled (fd l x y) l.length (k + 1) t3 ∧ W.ownsRow w.heap.size 5 1 (.slice (some ⟨g1, 0, none⟩) l.length d1) l.length (vals t1) ∧
      W.ownsRow w.heap.size 5 1 (.slice (some ⟨g2, 0, none⟩) l.length d2) l.length (vals t2) ∧ W.ownsRow w.heap.size 5 1 (.slice (some ⟨g3, 0, none⟩) l.length d3) l.length (vals t3) ∧ Below w.heap.size w W := by
  subst hW
  have ne : ∀ {a b c d : Nat}, a ≠ b → (Value.slice (some ⟨a, 0, none⟩) c d).ownBlock ≠ some b := fun h e => h (by simpa [Value.ownBlock] using e)
  refine ⟨_, _, _, f1.step hk, f2.step hk, f3.step hk, ?_, ?_, ?_, ?_⟩
  · rw [vals_set]
    exact (ownsRow_setCell_other (ownsRow_setCell_other (o1.stored k _).1 (a := ⟨g2, k, none⟩) (ne (a := g1) (b := g2) (by omega)) _) (a := ⟨g3, k, none⟩) (ne (a := g1) (b := g3) (by omega)) _).drew
  · rw [vals_set]
    exact (ownsRow_setCell_other ((ownsRow_setCell_other o2 (a := ⟨g1, k, none⟩) (ne (a := g2) (b := g1) (by omega)) _).stored k _).1 (a := ⟨g3, k, none⟩) (ne (a := g2) (b := g3) (by omega)) _).drew
  · rw [vals_set]
    exact ((ownsRow_setCell_other (ownsRow_setCell_other o3 (a := ⟨g1, k, none⟩) (ne (a := g3) (b := g1) (by omega)) _) (a := ⟨g2, k, none⟩) (ne (a := g3) (b := g2) (by omega)) _).stored k _).1.drew
  · exact (((hbel.setCell (p := ⟨g1, k, none⟩) hg1 _).setCell (p := ⟨g2, k, none⟩) (by simp; omega) _).setCell (p := ⟨g3, k, none⟩) (by simp; omega) _).drew
set_option maxHeartbeats 4000000 in
set_option maxRecDepth 100000 in
theorem crcThrees_walk (A : Option Addr) (l : List UInt8) (cap : Nat) (x y : UInt8) (w : World) (hT : Tab w) (hb : Bytes w A l) (h1 : l.length ≤ 8192) :
    Calls Tryd.prog 6 #[.slice A l.length cap, .int .u8 (x.toNat : Int), .int .u8 (y.toNat : Int)] w fun e w' => e = .returned (.bool true) ∧ Below w.heap.size w w' := by
  have g1 : ¬ (8192 < (l.length : Int)) := by omega
  go_enter Tryd.func6, Tryd.ntmps6
  go_wp2_with (first
    | (go_at_call 8; refine (awake_any _ hT).mono ?_; rintro e w' ⟨rfl, rfl⟩)
    | (go_at_call 11; refine (own_is cap _ hb (by omega) (Below.refl _ _)).mono ?_; rintro e w1 ⟨B1, d1, rfl, hy1, hx1, hs1, ho1⟩)
    | (go_at_call 11; refine (own_is cap _ hb (by omega) hx1).mono ?_; rintro e w2 ⟨B2, d2, rfl, hy2, hx2, hs2, ho2⟩)
    | (go_at_call 11; refine (own_is cap _ hb (by omega) hx2).mono ?_; rintro e w3 ⟨B3, d3, rfl, hy3, hx3, hs3, ho3⟩))
  have lt1 := ho1.lt
  have lt2 := ho2.lt
  have lt3 := ho3.lt
  have sz1 := hs1.size
  have sz2 := hs2.size
  have sz3 := hs3.size
  have own1 := own_later (own_later ho1 hs2) hs3
  have own2 := own_less (own_later ho2 hs3) sz1
  have own3 := own_less ho3 (Nat.le_trans sz1 sz2)
  go_loopw [10] (fun i wr => ∃ (k : Nat) (t1 t2 t3 : List UInt8), k ≤ l.length ∧ i = .int .i64 k ∧ Filled (fb l x y) l.length k t1 ∧ Filled (fc l x y) l.length k t2 ∧ Filled (fd l x y) l.length k t3 ∧
      wr.ownsRow w.heap.size 5 1 (.slice B1 l.length d1) l.length (vals t1) ∧ wr.ownsRow w.heap.size 5 1 (.slice B2 l.length d2) l.length (vals t2) ∧ wr.ownsRow w.heap.size 5 1 (.slice B3 l.length d3) l.length (vals t3) ∧ Below w.heap.size w wr)
    (fun i _ => l.length - (intOf i).toNat)
  case atStart => exact ⟨0, l, l, l, Nat.zero_le _, rfl, ⟨rfl, fun j h => absurd h (by omega)⟩, ⟨rfl, fun j h => absurd h (by omega)⟩, ⟨rfl, fun j h => absurd h (by omega)⟩, own1, own2, own3, hx3⟩
  case round =>
    obtain ⟨k, t1, t2, t3, hk, rfl, f1, f2, f3, o1, o2, o3, hbel⟩ := hrel
    clear own1 own2 own3 hs1 hs2 hs3 hx1 hx2 hx3 hy1 hy2 hy3 ho1 ho2 ho3
    by_cases hlt : k < l.length
    · obtain ⟨b, o, rfl, hc0⟩ := hb.at_ hlt
      have hbw := World.block_lt_of_cell? w _ hc0
      have hca := (hbel.cell (p := ⟨b, o + k, none⟩) hbw).trans hc0
      obtain ⟨r1, rfl⟩ := own_addr o1 (by omega)
      obtain ⟨r2, rfl⟩ := own_addr o2 (by omega)
      obtain ⟨r3, rfl⟩ := own_addr o3 (by omega)
      have q1 := lt1 r1 rfl
      have q2 := lt2 r2 rfl
      have q3 := lt3 r3 rfl
      have hb1 : b < w.heap.size := hbw
      have R := Lib.hid (fun W => threes_step hlt q1.1 (by omega) (by omega) f1 f2 f3 o1 o2 o3 hbel (W := W))
      have c1 := bytes_own o1 k hlt
      have c2 := bytes_own o2 k hlt
      have c3 := bytes_own o3 k hlt
      have z1 := o1.frozenAt k
      have z2 := o2.frozenAt k
      have z3 := o3.frozenAt k
      have n12 : ¬ r2 = r1 := by omega
      have n13 : ¬ r3 = r1 := by omega
      have n23 : ¬ r3 = r2 := by omega
      have nb1 : ¬ b = r1 := by omega
      have nb2 : ¬ b = r2 := by omega
      have nb3 : ¬ b = r3 := by omega
      clear q1 q2 q3 hb1 lt1 lt2 lt3 sz1 sz2 sz3 hc0 hbw hbel o1 o2 o3 f1 f2 f3
      obtain ⟨u, B, C, z, D, e1, e2, e3, m1, m2, m3, m4, m5⟩ := threes_nums l x y k hlt
      rw [e1, e2, e3] at R
      clear e1 e2 e3
      go_wp2
      go_region
      go_wp2
      go_roundw
      case rel =>
        obtain ⟨t1', t2', t3', R'⟩ := R.out _ rfl
        exact ⟨k + 1, t1', t2', t3', by omega, by go_num, R'⟩
      case measure => simp [intOf]; omega
    · have e : k = l.length := by omega
      subst e
      have y1 := (bytes_n o1 (by rw [f1.1]; omega)).2
      have y2 := (bytes_n o2 (by rw [f2.1]; omega)).2
      have y3 := (bytes_n o3 (by rw [f3.1]; omega)).2
      have H3 := Lib.hid (crc_threes l t1 t2 t3 x y f1 f2 f3)
      have L1 := Lib.hid f1.1
      have L2 := Lib.hid f2.1
      have L3 := Lib.hid f3.1
      have hbw := hb.below hbel (Nat.le_refl _)
      have hTw := hT.later hbel
      clear f1 f2 f3 o1 o2 o3 lt1 lt2 lt3 sz1 sz2 sz3 hk hlt hT hb
      have hx := fun a b => bits_xor_v a b
      go_wp2_with (first
        | (go_at_call 11; refine (own_is cap _ hbw (by omega) ?_).mono ?_; (focus (first | assumption | exact Below.refl _ _ | exact Below.alloc (Below.refl _ _) (Nat.le_refl _) _)); rintro e w3' ⟨B4, d4, rfl, hy4, hx4, hs4, ho4⟩)
        | (go_at_call 10; (with_reducible refine (sum_one_r (A := B3) (c := d3) (l := t3) _ H3.out L3.out ?_ ?_ ?_).mono ?_); (focus (refine hTw.later ?_; repeat (first | exact Below.refl _ _ | assumption | apply below_al))); (focus (first | exact (World.cell?_alloc_mark _ _ _ _ _).trans rfl | (rw [World.cell?_alloc_at _ _ _ _ (by simp)]; rfl))); (focus (refine y3.later ?_; repeat (first | exact Below.refl _ _ | assumption | apply below_al))); rintro e w2' ⟨rfl, rfl⟩)
        | (go_at_call 10; (with_reducible refine (sum_one_r (A := B4) (c := d4) (l := l) _ rfl rfl ?_ ?_ ?_).mono ?_); (focus (refine hTw.later ?_; repeat (first | exact Below.refl _ _ | assumption | apply below_al))); (focus (first | exact (World.cell?_alloc_mark _ _ _ _ _).trans rfl | (rw [World.cell?_alloc_at _ _ _ _ (by simp)]; rfl))); (focus (refine hy4.later ?_; repeat (first | exact Below.refl _ _ | assumption | apply below_al))); rintro e w2' ⟨rfl, rfl⟩)
        | (go_at_call 10; (with_reducible refine (sum_one_r (A := B1) (c := d1) (l := t1) _ rfl L1.out ?_ ?_ ?_).mono ?_); (focus (refine hTw.later ?_; repeat (first | exact Below.refl _ _ | assumption | apply below_al))); (focus (first | exact (World.cell?_alloc_mark _ _ _ _ _).trans rfl | (rw [World.cell?_alloc_at _ _ _ _ (by simp)]; rfl))); (focus (refine y1.later ?_; repeat (first | exact Below.refl _ _ | assumption | apply below_al))); rintro e w2' ⟨rfl, rfl⟩)
        | (go_at_call 10; (with_reducible refine (sum_one_r (A := B2) (c := d2) (l := t2) _ rfl L2.out ?_ ?_ ?_).mono ?_); (focus (refine hTw.later ?_; repeat (first | exact Below.refl _ _ | assumption | apply below_al))); (focus (first | exact (World.cell?_alloc_mark _ _ _ _ _).trans rfl | (rw [World.cell?_alloc_at _ _ _ _ (by simp)]; rfl))); (focus (refine y2.later ?_; repeat (first | exact Below.refl _ _ | assumption | apply below_al))); rintro e w2' ⟨rfl, rfl⟩))
      go_ret
      refine ⟨rfl, hbel.trans (Below.mono (w := wr) ?_ hbel.size)⟩
      repeat (first | exact Below.refl _ _ | assumption | apply below_al)
theorem crcThrees_hole (a0 : Option Addr) (len0 cap0 : Nat) (z0 : List Int) (a1 : Int) (a2 : Int) (w : World) (hL : Laid w) (w0 : IsRow .u8 w a0 len0 cap0 z0) (w1 : (Lit.int .u8 a1).wf = true) (w2 : (Lit.int .u8 a2).wf = true) :
    Calls Tryd.prog 6 #[.slice a0 len0 cap0, .int .u8 a1, .int .u8 a2] w fun e w' => e = .returned (.bool true) ∧ Below w.heap.size w w' := by
  obtain ⟨l, rfl, hb⟩ := bytes_of_row w0
  by_cases h : l.length ≤ 8192
  · have := crcThrees_walk a0 l cap0 (UInt8.ofNat a1.toNat) (UInt8.ofNat a2.toNat) w hL hb h
    rwa [u8_of_wf w1, u8_of_wf w2] at this
  · exact crcThrees_long a0 _ cap0 a1 a2 w hL (by omega)
end Go.Proofs.YtkddijipdldinaaDoor
