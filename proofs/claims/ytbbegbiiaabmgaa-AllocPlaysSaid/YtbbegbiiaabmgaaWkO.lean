/- The allocator's methods by the plain functions; two allocators side by side. -/
import Derived.Test.YtbbegbiiaabmgaaWkN
namespace Go.Proofs.Ytbbegbiiaabmgaa
open Go.RowKit Mp

theorem take_fn (g hm wm : Nat) (lo gen : Int) (d : Nat) (H : Hs) (W : Ws) (w : World) (h : Al w g hm wm lo (lo + d) H W) (hb : 0 ≤ lo ∧ lo + d ≤ 4096) (x y : Int) (H' : Hs) (hx : aTake lo d gen H W = (x, y, H')) :
    Calls Try.prog 10 #[.pointer (some ⟨g, 0, none⟩), .int .i64 gen] w fun e w' => e = .returned (.tuple #[.int .i64 x, .int .i64 y]) ∧ Al w' g hm wm lo (lo + d) H' W ∧ Fr hm wm w w' := by
  unfold aTake at hx
  refine (take_any g hm wm lo (lo + d) gen H W w h (by omega)).mono fun e w' k => ?_
  cases hf : fst1 (fun i => !busyB (lo + (i : Int)) H W) d with
  | none =>
    rw [hf] at hx
    cases hx
    rcases k with ⟨n, n0, n1, n2, _⟩ | ⟨_, k⟩
    · have := fst1_none hf (n - lo).toNat (by omega)
      have e : lo + (((n - lo).toNat : Nat) : Int) = n := by omega
      simp only [e, n2] at this
      cases this
    · exact k
  | some i =>
    rw [hf] at hx
    cases hx
    obtain ⟨i0, i1, i2⟩ := fst1_some hf
    replace i1 : busyB (lo + (i : Int)) H W = false := by simpa using i1
    rcases k with ⟨n, n0, n1, n2, n3, k⟩ | ⟨k, _⟩
    · have e : n = lo + i := by
        rcases Int.lt_trichotomy n (lo + i) with hl | hl | hl
        · have := i2 (n - lo).toNat (by omega)
          have e : lo + (((n - lo).toNat : Nat) : Int) = n := by omega
          simp only [e, n2] at this
          cases this
        · exact hl
        · have := n3 (lo + i) (by omega) hl; rw [i1] at this; cases this
      subst e
      exact k
    · have := k (lo + i) (by omega) (by omega); rw [i1] at this; cases this
theorem mark_fn (g hm wm : Nat) (lo n gen : Int) (d : Nat) (H : Hs) (W : Ws) (w : World) (h : Al w g hm wm lo (lo + d) H W) (x : Int) (H' : Hs) (hx : aMark lo d n gen H W = (x, H')) :
    Calls Try.prog 19 #[.pointer (some ⟨g, 0, none⟩), .int .i64 n, .int .i64 gen] w fun e w' => e = .returned (.int .i64 x) ∧ Al w' g hm wm lo (lo + d) H' W ∧ Fr hm wm w w' := by
  unfold aMark at hx
  cases hr : rAt lo d n with
  | none =>
    rw [hr] at hx
    cases hx
    have := rAt_none hr
    exact (mark_out g hm wm lo (lo + d) n gen H W w h (by omega)).mono fun e w' k => ⟨k.1, k.2 ▸ h, k.2 ▸ Fr.refl _ _ _⟩
  | some i =>
    rw [hr] at hx
    obtain ⟨rfl, hi⟩ := rAt_some hr
    cases hb : busyB (lo + i) H W with
    | true =>
      simp only [hb, if_true] at hx
      cases hx
      exact (mark_there g hm wm lo (lo + d) (lo + i) gen H W w h (by omega) (by omega) hb).mono fun e w' k => ⟨k.1, h.on k.2, Fr.of k.2⟩
    | false =>
      simp only [hb] at hx
      cases hx
      exact mark_ok g hm wm lo (lo + d) (lo + i) gen H W w h (by omega) (by omega) hb
theorem hold_fn (g hm wm : Nat) (lo hi n : Int) (H : Hs) (W : Ws) (w : World) (h : Al w g hm wm lo hi H W) (hI : Inv lo hi H W) (x : Int) (H' : Hs) (hx : aHold n H = (x, H')) :
    Calls Try.prog 14 #[.pointer (some ⟨g, 0, none⟩), .int .i64 n] w fun e w' => e = .returned (.int .i64 x) ∧ Al w' g hm wm lo hi H' W ∧ Fr hm wm w w' := by
  unfold aHold at hx
  cases hg : Mp.get n H with
  | none => rw [hg] at hx; cases hx; exact hold_free g hm wm lo hi n H W w h hg
  | some p =>
    obtain ⟨a, b⟩ := p
    rw [hg] at hx
    have h2 := (hI.hin _ (get_mem hg)).2.2
    replace h2 : 1 ≤ a ∧ a ≤ 5000 := h2
    by_cases ha : 5000 ≤ a
    · simp only [if_pos ha] at hx; cases hx; exact hold_many g hm wm lo hi n a b H W w h hg ha
    · simp only [if_neg ha] at hx; cases hx; exact hold_ok g hm wm lo hi n a b H W w h hg (by omega) ha
theorem drop_fn (g hm wm : Nat) (lo hi n gen : Int) (H : Hs) (W : Ws) (w : World) (h : Al w g hm wm lo hi H W) (hI : Inv lo hi H W) (x : Int) (H' : Hs) (W' : Ws) (hx : aDrop n gen H W = (x, H', W')) :
    Calls Try.prog 12 #[.pointer (some ⟨g, 0, none⟩), .int .i64 n, .int .i64 gen] w fun e w' => e = .returned (.int .i64 x) ∧ Al w' g hm wm lo hi H' W' ∧ Fr hm wm w w' := by
  unfold aDrop at hx
  cases hg : Mp.get n H with
  | none => rw [hg] at hx; cases hx; exact drop_free g hm wm lo hi n gen H W w h hg
  | some p =>
    obtain ⟨a, b⟩ := p
    rw [hg] at hx
    have h2 := (hI.hin _ (get_mem hg)).2.2
    replace h2 : 1 ≤ a ∧ a ≤ 5000 := h2
    by_cases ha : 2 ≤ a
    · simp only [if_pos ha] at hx; cases hx; exact drop_more g hm wm lo hi n gen a b H W w h hg ha h2.2
    · simp only [if_neg ha] at hx; cases hx; exact drop_last g hm wm lo hi n gen a b H W w h hg (by omega) (by omega)
theorem free_fn (g hm wm : Nat) (lo gen : Int) (d : Nat) (H : Hs) (W : Ws) (w : World) (h : Al w g hm wm lo (lo + d) H W) (hI : Inv lo (lo + d) H W) (hb : 0 ≤ lo ∧ lo + d ≤ 4096) (x : Int) (hx : (W.length : Int) - (freeW gen lo d W).length = x) :
    Calls Try.prog 13 #[.pointer (some ⟨g, 0, none⟩), .int .i64 gen] w fun e w' => e = .returned (.int .i64 x) ∧ Al w' g hm wm lo (lo + d) H (freeW gen lo d W) ∧ Fr hm wm w w' := by
  refine (free_any g hm wm lo (lo + d) gen d H W w h (by omega) rfl).mono fun e w' k => ⟨?_, k.2⟩
  rw [k.1]
  have h1 := few hI
  have h2 := few (hI.freed gen lo d)
  have : wrap64 ((W.length : Int) - (freeW gen lo d W).length) = (W.length : Int) - (freeW gen lo d W).length := IntWalk.wrap64_in _ ⟨by omega, by omega⟩
  rw [this, hx]
theorem cnt_fn (x : Int) (g hm wm : Nat) (lo hi n : Int) (H : Hs) (W : Ws) (w : World) (h : Al w g hm wm lo hi H W) (hx : cnt n H = x) :
    Calls Try.prog 15 #[.pointer (some ⟨g, 0, none⟩), .int .i64 n] w fun e w' => e = .returned (.int .i64 x) ∧ w = w' := hx ▸ count_any g hm wm lo hi n H W w h
theorem wait_fn (x : Int) (g hm wm : Nat) (lo hi : Int) (H : Hs) (W : Ws) (w : World) (h : Al w g hm wm lo hi H W) (hx : (W.length : Int) = x) :
    Calls Try.prog 16 #[.pointer (some ⟨g, 0, none⟩)] w fun e w' => e = .returned (.int .i64 x) ∧ w = w' := hx ▸ wait_any g hm wm lo hi H W w h
theorem room_fn (x : Int) (g hm wm : Nat) (lo : Int) (d : Nat) (H : Hs) (W : Ws) (w : World) (h : Al w g hm wm lo (lo + d) H W) (hI : Inv lo (lo + d) H W) (hb : 0 ≤ lo ∧ lo + d ≤ 4096) (hx : lo + d - lo - (H.length : Int) - W.length = x) :
    Calls Try.prog 11 #[.pointer (some ⟨g, 0, none⟩)] w fun e w' => e = .returned (.int .i64 x) ∧ Below w.heap.size w w' := by
  have := few hI
  subst hx
  exact room_any g hm wm lo (lo + d) H W w h (by omega) (by omega) (by omega)
/-- The two, side by side; the call's own copy; all behind the world w. -/
structure Pl (B hm q : Nat) (lo : Int) (d : Nat) (w w' : World) (x y z : Int) (H : Hs) (W : Ws) (S : Ss) : Prop where
  al : Al w' (hm + 2) hm (hm + 1) lo (lo + d) H W
  rf : Rf w' (B + 1) B lo d S
  lc : Blk w' q 31 #[.int .i64 x, .int .i64 y, .int .i64 z]
  bl : Below w.heap.size w w'
  far : w.heap.size ≤ hm ∧ hm + 2 < B ∧ B + 2 ≤ q
theorem Pl.fr {B hm q d : Nat} {lo : Int} {w w' w'' : World} {x y z : Int} {H H' : Hs} {W W' : Ws} {S : Ss} (h : Pl B hm q lo d w w' x y z H W S) (hA : Al w'' (hm + 2) hm (hm + 1) lo (lo + d) H' W') (hF : Fr hm (hm + 1) w' w'') : Pl B hm q lo d w w'' x y z H' W' S :=
  have := h.far
  ⟨hA, h.rf.fr hF (by omega) (by omega) (by omega) (by omega), h.lc.fr hF (by omega) (by omega), h.bl.trans (hF.below (by omega) (by omega) h.bl.size), h.far⟩
theorem Al.only {w w' : World} {g hm wm b : Nat} {lo hi : Int} {H : Hs} {W : Ws} (h : Al w g hm wm lo hi H W) (k : Only b w w') (h1 : g ≠ b) (h2 : hm ≠ b) (h3 : wm ≠ b) : Al w' g hm wm lo hi H W :=
  ⟨(k.block g h1).trans h.blk, h.held.same (k.block hm h2), h.waits.same (k.block wm h3), h.ne⟩
theorem Pl.only {B hm q d : Nat} {lo : Int} {w w' w'' : World} {x y z : Int} {H : Hs} {W : Ws} {S S' : Ss} (h : Pl B hm q lo d w w' x y z H W S) (hR : Rf w'' (B + 1) B lo d S') (hO : Only B w' w'') : Pl B hm q lo d w w'' x y z H W S' :=
  have := h.far
  ⟨h.al.only hO (by omega) (by omega) (by omega), hR, (hO.block q (by omega)).trans h.lc, h.bl.trans (hO.below (by omega)), h.far⟩
theorem Pl.on {B hm q d : Nat} {lo : Int} {w w' w'' : World} {x y z : Int} {H : Hs} {W : Ws} {S : Ss} (h : Pl B hm q lo d w w' x y z H W S) (k : Below w'.heap.size w' w'') : Pl B hm q lo d w w'' x y z H W S := h.fr (h.al.on k) (Fr.of k)
theorem Pl.c1 {B hm q d : Nat} {lo : Int} {w w' : World} {x y z : Int} {H : Hs} {W : Ws} {S : Ss} (h : Pl B hm q lo d w w' x y z H W S) : w'.cell? ⟨q, 1, none⟩ = some (.int .i64 y) := h.lc.cell 1
theorem Pl.c2 {B hm q d : Nat} {lo : Int} {w w' : World} {x y z : Int} {H : Hs} {W : Ws} {S : Ss} (h : Pl B hm q lo d w w' x y z H W S) : w'.cell? ⟨q, 2, none⟩ = some (.int .i64 z) := h.lc.cell 2
end Go.Proofs.Ytbbegbiiaabmgaa
