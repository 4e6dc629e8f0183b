import Derived.Test.YtbbegbiiaabmgaaWkB
namespace Go.Proofs.Ytbbegbiiaabmgaa
open Go.RowKit Mp
open Go.ChangeMaps (setBlock)

/-- Nothing but the two maps has turned. -/
structure Fr (hm wm : Nat) (w w' : World) : Prop where
  os : w'.os = w.os
  tape : w'.tape = w.tape
  output : w'.output = w.output
  size : w.heap.size ≤ w'.heap.size
  block : ∀ k, k < w.heap.size → k ≠ hm → k ≠ wm → w'.heap[k]? = w.heap[k]?
theorem Fr.refl (hm wm : Nat) (w : World) : Fr hm wm w w := ⟨rfl, rfl, rfl, Nat.le_refl _, fun _ _ _ _ => rfl⟩
theorem Fr.trans {hm wm : Nat} {a b c : World} (h : Fr hm wm a b) (k : Fr hm wm b c) : Fr hm wm a c :=
  ⟨k.os.trans h.os, k.tape.trans h.tape, k.output.trans h.output, Nat.le_trans h.size k.size, fun i hi h1 h2 => (k.block i (Nat.lt_of_lt_of_le hi h.size) h1 h2).trans (h.block i hi h1 h2)⟩
theorem Fr.of {hm wm : Nat} {w w' : World} (h : Below w.heap.size w w') : Fr hm wm w w' := ⟨h.os, h.tape, h.output, h.size, fun k hk _ _ => h.block k hk⟩
theorem Fr.below {hm wm B : Nat} {w w' : World} (h : Fr hm wm w w') (h1 : B ≤ hm) (h2 : B ≤ wm) (h3 : B ≤ w.heap.size) : Below B w w' :=
  ⟨h.os, h.tape, h.output, h.size, fun k hk => h.block k (by omega) (by omega) (by omega)⟩
theorem Fr.held (hm wm : Nat) (w : World) (o : Obj) : Fr hm wm w (setBlock w hm o) :=
  ⟨rfl, rfl, rfl, by simp [setBlock], fun k _ h1 _ => by simp [setBlock, Ne.symm h1]⟩
theorem Fr.waits (hm wm : Nat) (w : World) (o : Obj) : Fr hm wm w (setBlock w wm o) :=
  ⟨rfl, rfl, rfl, by simp [setBlock], fun k _ _ h1 => by simp [setBlock, Ne.symm h1]⟩
theorem Al.setHeld {w : World} {g hm wm : Nat} {lo hi : Int} {H H' : Hs} {W : Ws} (h : Al w g hm wm lo hi H W) {o : Obj} (hh : Mp (setBlock w hm o) hm hv H') : Al (setBlock w hm o) g hm wm lo hi H' W :=
  ⟨by show (setBlock w hm o).heap[g]? = _; rw [← h.blk]; simp [setBlock, Ne.symm h.ne.2.1], hh, h.waits.far (Ne.symm h.ne.1) o, h.ne⟩
theorem Al.setWaits {w : World} {g hm wm : Nat} {lo hi : Int} {H : Hs} {W W' : Ws} (h : Al w g hm wm lo hi H W) {o : Obj} (hh : Mp (setBlock w wm o) wm wv W') : Al (setBlock w wm o) g hm wm lo hi H W' :=
  ⟨by show (setBlock w wm o).heap[g]? = _; rw [← h.blk]; simp [setBlock, Ne.symm h.ne.2.2], h.held.far h.ne.1 o, hh, h.ne⟩
def busyB (n : Int) (H : Hs) (W : Ws) : Bool := (get n H).isSome || (get n W).isSome
theorem busy_to (b : Bool) (g hm wm : Nat) (lo hi n : Int) (H : Hs) (W : Ws) (w : World) (h : Al w g hm wm lo hi H W) (hb : busyB n H W = b) :
    Calls Try.prog 27 #[.pointer (some ⟨g, 0, none⟩), .int .i64 n] w fun e w' => e = .returned (.bool b) ∧ Below w.heap.size w w' := by
  subst hb; exact busy_any g hm wm lo hi n H W w h
theorem up_held {w : World} {g hm wm : Nat} {lo hi : Int} {H : Hs} {W : Ws} (h : Al w g hm wm lo hi H W) (n a b : Int) :
    ∃ o, (Instr.mapUpdate 47 (.map (some hm)) (.int .i64 n) (.agg #[.int .i64 a, .int .i64 b])).run Try.prog w = .ok () (setBlock w hm o) ∧ Al (setBlock w hm o) g hm wm lo hi (put n (a, b) H) W := by
  obtain ⟨o, h1, h2⟩ := update Try.underlying47 Try.underlying3 h.held n (a, b)
  exact ⟨o, h1, h.setHeld h2⟩

set_option maxHeartbeats 1000000 in
theorem take_any (g hm wm : Nat) (lo hi gen : Int) (H : Hs) (W : Ws) (w : World) (h : Al w g hm wm lo hi H W) (hb : 0 ≤ lo ∧ lo ≤ hi ∧ hi ≤ 4096) :
    Calls Try.prog 10 #[.pointer (some ⟨g, 0, none⟩), .int .i64 gen] w fun e w' =>
      (∃ n, lo ≤ n ∧ n < hi ∧ busyB n H W = false ∧ (∀ m, lo ≤ m → m < n → busyB m H W = true) ∧ e = .returned (.tuple #[.int .i64 n, .int .i64 0]) ∧ Al w' g hm wm lo hi (put n (1, gen) H) W ∧ Fr hm wm w w') ∨
      ((∀ m, lo ≤ m → m < hi → busyB m H W = true) ∧ e = .returned (.tuple #[.int .i64 0, .int .i64 50]) ∧ Al w' g hm wm lo hi H W ∧ Fr hm wm w w') := by
  have g0 := h.blk.cell 0
  go_enter Try.func10, Try.ntmps10
  go_wp2
  go_loopw [6] (fun i wr => ∃ n : Int, lo ≤ n ∧ n ≤ hi ∧ i = .int .i64 n ∧ Hid (∀ m, lo ≤ m → m < n → busyB m H W = true) ∧ Below w.heap.size w wr) (fun i _ => (hi - intOf i).toNat)
  case atStart => exact ⟨lo, by omega, by omega, rfl, fun m h1 h2 => by omega, Below.refl _ _⟩
  case round =>
    obtain ⟨n, hn0, hn1, rfl, hall, hbel⟩ := hrel
    have hA := h.on hbel
    have a0 := hA.blk.cell 0
    have a1 := hA.blk.cell 1
    clear g0
    by_cases hlt : n < hi
    · cases hbz : busyB n H W with
      | false =>
        have HB := Lib.hid hbz
        clear hbz
        go_wp2_with (go_at_call 27; refine (busy_to _ g hm wm lo hi n H W _ hA HB.out).mono ?_; rintro e w2 ⟨rfl, hb2⟩; have hA2 := hA.on hb2; have c2 := hA2.blk.cell 2; obtain ⟨o, ho, hAo⟩ := up_held hA2 n 1 gen)
        go_ret2
        exact .inl ⟨n, hn0, hlt, HB.out, hall.out, rfl, hAo, ((Fr.of hbel).trans (Fr.of hb2)).trans (Fr.held _ _ _ _)⟩
      | true =>
        have HB := Lib.hid hbz
        clear hbz
        go_wp2_with (go_at_call 27; refine (busy_to _ g hm wm lo hi n H W _ hA HB.out).mono ?_; rintro e w2 ⟨rfl, hb2⟩; have hA2 := hA.on hb2)
        go_roundw
        case rel =>
          refine ⟨n + 1, by omega, by omega, by go_num, ?_, hbel.trans (hb2.mono hbel.size)⟩
          intro m h1 h2
          by_cases e : m = n
          · rw [e]; exact HB.out
          · exact hall.out m h1 (by omega)
        case measure => simp [intOf]; omega
    · have e : n = hi := by omega
      subst e
      go_wp2
      go_ret2
      exact .inr ⟨hall.out, rfl, hA, Fr.of hbel⟩
end Go.Proofs.Ytbbegbiiaabmgaa
