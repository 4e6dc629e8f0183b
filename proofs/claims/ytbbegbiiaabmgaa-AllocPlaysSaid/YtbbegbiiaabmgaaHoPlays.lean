/- AllocPlays: the walk. -/
import Derived.Test.YtbbegbiiaabmgaaWkO
import Derived.Deep.RegionHeld3
import Derived.Deep.Cut
import Derived.Deep.CutRange
import Derived.Deep.CutBlock
import Derived.Deep.DeepCutAuto
namespace Go.Proofs.Ytbbegbiiaabmgaa
open Go.RowKit Mp

theorem Pl.drew {B hm q d : Nat} {lo : Int} {w w' : World} {x y z : Int} {H : Hs} {W : Ws} {S : Ss} (h : Pl B hm q lo d w w' x y z H W S) : Pl B hm q lo d w w'.drew x y z H W S :=
  ⟨h.al.drew, h.rf.drew, h.lc, h.bl.drew, h.far⟩
/-- What stands between two rounds. -/
structure Pair (B hm : Nat) (lo : Int) (d : Nat) (w w' : World) (H : Hs) (W : Ws) (S : Ss) : Prop where
  al : Al w' (hm + 2) hm (hm + 1) lo (lo + d) H W
  rf : Rf w' (B + 1) B lo d S
  same : Same lo d S H W
  bl : Below w.heap.size w w'
  size : B + 2 ≤ w'.heap.size
theorem Pair.start {B hm d : Nat} {lo : Int} {w w' : World} {H : Hs} {W : Ws} {S : Ss} (h : Pair B hm lo d w w' H W S) (hs : w.heap.size ≤ hm ∧ hm + 2 < B) (x y z : Int) :
    Pl B hm w'.heap.size lo d w (w'.alloc (.cells #[.int .i64 x, .int .i64 y, .int .i64 z] 31)) x y z H W S :=
  have := h.size
  ⟨h.al.on (below_al (Below.refl _ _)), h.rf.on (below_al (Below.refl _ _)), Blk.new' _ _ rfl, h.bl.alloc h.bl.size _, hs.1, hs.2, h.size⟩
theorem Pl.done {B hm q d : Nat} {lo : Int} {w w' : World} {x y z : Int} {H : Hs} {W : Ws} {S : Ss} (h : Pl B hm q lo d w w' x y z H W S) (hs : Same lo d S H W) : Pair B hm lo d w w' H W S :=
  have := h.far
  have h1 : q < w'.heap.size := (Array.getElem?_eq_some_iff.1 h.lc).1
  ⟨h.al, h.rf, hs, h.bl, by omega⟩
def Okay (B hm q : Nat) (lo : Int) (d : Nat) (w w' : World) (x y z : Int) : Prop := ∃ H W S, Pl B hm q lo d w w' x y z H W S ∧ Same lo d S H W
set_option maxRecDepth 100000 in
theorem plays_short (lo hi : Int) (oa : Option Addr) (len cap : Nat) (w : World) (h : 200 < (len : Int)) :
    Calls Try.prog 5 #[.int .i64 lo, .int .i64 hi, .slice oa len cap] w fun e w' => e = .returned (.bool true) ∧ Below w.heap.size w w' := by
  go_enter Try.func5, Try.ntmps5
  go_wp2_with (go_at_call 8; refine (awake_any _).mono ?_; rintro e w1 ⟨rfl, hb1⟩)
  go_ret
  exact ⟨rfl, hb1⟩
set_option maxRecDepth 100000 in
theorem plays_bad (lo hi : Int) (oa : Option Addr) (len cap : Nat) (w : World) (hl : ¬ 200 < (len : Int)) (h : lo < 0 ∨ ¬ lo < 0 ∧ hi < lo ∨ ¬ lo < 0 ∧ ¬ hi < lo ∧ 4096 < hi) :
    Calls Try.prog 5 #[.int .i64 lo, .int .i64 hi, .slice oa len cap] w fun e w' => e = .returned (.bool true) ∧ Below w.heap.size w w' := by
  have H := Lib.hid h
  clear h
  go_enter Try.func5, Try.ntmps5
  go_wp2_with (first
    | (go_at_call 8; refine (awake_any _).mono ?_; rintro e w1 ⟨rfl, hb1⟩)
    | (go_at_call 9; refine (new_bad lo hi _ (by have := H.out; omega)).mono ?_; rintro e w2 ⟨rfl, rfl⟩)
    | (go_at_call 17; refine (rnew_bad lo hi _ (by have := H.out; omega)).mono ?_; rintro e w3 ⟨rfl, rfl⟩))
  go_ret
  exact ⟨rfl, hb1⟩
set_option maxRecDepth 100000 in
set_option maxHeartbeats 2000000 in
theorem plays_in (lo hi : Int) (d : Nat) (oa : Option Addr) (len cap : Nat) (w : World) (h : ¬ lo < 0) (h2 : ¬ hi < lo) (h3 : ¬ 4096 < hi) (hd : Hid (lo + d = hi)) (hl : len ≤ 200) (hc : Hid (Sc w oa len)) :
    Calls Try.prog 5 #[.int .i64 lo, .int .i64 hi, .slice oa len cap] w fun e w' => e = .returned (.bool true) ∧ Below w.heap.size w w' := by
  go_enter Try.func5, Try.ntmps5
  go_wp2_with (first
    | (go_at_call 8; refine (awake_any _).mono ?_; rintro e w1 ⟨rfl, hb1⟩)
    | (go_at_call 9; refine (new_ok lo hi _ (by omega) (by omega) (by omega)).mono ?_; rintro e w2 ⟨rfl, hA2, hb2⟩)
    | (go_at_call 17; refine (rnew_ok lo hi d _ (by omega) (by omega) (by omega) hd.out).mono ?_; rintro e w3 ⟨rfl, hR3, hb3⟩))
  have HB : Hid (w.heap.size ≤ w1.heap.size ∧ w1.heap.size + 2 < w2.heap.size) := ⟨hb1.size, (Array.getElem?_eq_some_iff.1 hA2.blk).1⟩
  have HP : Hid (Pair w2.heap.size w1.heap.size lo d w w3 [] [] (fun _ => ⟨0, 0, 0, false⟩)) := by
    have hA3 := hA2.on hb3
    rw [← hd.out] at hA3
    exact ⟨hA3, hR3, Same.new _ _, (hb1.trans (hb2.mono hb1.size)).trans (hb3.mono (Nat.le_trans hb1.size hb2.size)), (Array.getElem?_eq_some_iff.1 hR3.blk).1⟩
  have hb : Hid (0 ≤ lo ∧ lo + d ≤ 4096) := by have := hd.out; exact ⟨by omega, by omega⟩
  clear hA2 hR3 hb1 hb2 hb3 hd
  obtain ⟨hm, hhm⟩ : ∃ hm, w1.heap.size = hm := ⟨_, rfl⟩
  rw [hhm] at HB HP
  rw [hhm]
  clear hhm
  obtain ⟨B, hBe⟩ : ∃ B, w2.heap.size = B := ⟨_, rfl⟩
  rw [hBe] at HB HP
  rw [hBe]
  clear hBe
  go_loopg [11] len (fun q i wr => ∃ k : Nat, k ≤ len ∧ q = len - k ∧ i = .int .i64 k ∧ ∃ H W S, Pair B hm lo d w wr H W S)
  case atStart => exact ⟨0, by omega, by omega, rfl, _, _, _, HP.out⟩
  case round =>
    clear HP
    obtain ⟨i, hi', rfl, rfl, H, W, S, hP⟩ := hrel
    obtain ⟨wo, rfl⟩ : ∃ wo : World, wo = wr := ⟨_, rfl⟩
    by_cases hlt : i < len
    · obtain ⟨a, rfl, k, s, g, hat⟩ := hc.out.at hP.bl hlt
      have c0 := hat.c0
      have c1 := hat.c1
      have c2 := hat.c2
      have hs1 : Hid (s ≤ 9223372036854775807) := hat.ws.2
      have hg1 : Hid (g ≤ 9223372036854775807) := hat.wg.2
      clear hat
      have hL := Lib.hid (hP.start HB.out k s g)
      have hS := Lib.hid hP.same
      clear hP
      go_upto_block 2 with fail
      go_cut [13] (fun v wx => v = .bool true ∧ Okay B hm wo.heap.size lo d w wx k s g)
      case first =>
        have hP := hL.out
        have hq : B < wo.heap.size := by have := hP.far; omega
        by_cases hk0 : k = 0
        · subst hk0
          obtain ⟨x, y, H', hx⟩ : ∃ x y H', aTake lo d g H W = (x, y, H') := ⟨_, _, _, rfl⟩
          obtain ⟨x', y', S', hx'⟩ : ∃ x y S', rTake lo d g S = (x, y, S') := ⟨_, _, _, rfl⟩
          have hs := hS.out.take g
          rw [hx, hx'] at hs
          obtain ⟨hs1, hs2, hs3⟩ := hs
          replace hs1 : x = x' := hs1
          replace hs2 : y = y' := hs2
          subst hs1 hs2
          have HX := Lib.hid hx
          have HX' := Lib.hid hx'
          have HS := Lib.hid hs3
          clear hx hx' hs3 hP
          go_wp2_with (first
            | (go_at_call 10; refine (take_fn _ _ _ lo g d H W _ hL.out.al (by have := hb.out; omega) x y H' HX.out).mono ?_; rintro e w4 ⟨rfl, hA4, hF4⟩; have P4 := hL.out.fr hA4 hF4; have l2 := P4.c2)
            | (go_at_call 18; refine (rtake_any _ _ lo g d S _ P4.rf (by have := hb.out; omega) x y S' HX'.out).mono ?_; rintro e w5 ⟨rfl, hR5, hO5⟩; have P5 := P4.only hR5 hO5))
          go_meet
          exact ⟨rfl, _, _, _, P5, HS.out⟩
        · by_cases hk1 : k = 1
          · subst hk1
            obtain ⟨x, H', hx⟩ : ∃ x H', aMark lo d s g H W = (x, H') := ⟨_, _, rfl⟩
            obtain ⟨x', S', hx'⟩ : ∃ x S', rMark lo d s g S = (x, S') := ⟨_, _, rfl⟩
            have hs := hS.out.mark s g
            rw [hx, hx'] at hs
            obtain ⟨hs1', hs3⟩ := hs
            replace hs1' : x = x' := hs1'
            subst hs1'
            have HX := Lib.hid hx
            have HX' := Lib.hid hx'
            have HS := Lib.hid hs3
            clear hx hx' hs3 hP
            have hD := Lib.hid hL.out.drew
            go_wp2_with fail
            go_region_held3 (fun w' => w'.cell? ⟨wo.heap.size, 1, none⟩ = some (.int .i64 s) ∧ w'.cell? ⟨wo.heap.size, 2, none⟩ = some (.int .i64 g)) (first | exact ⟨P5.c1, P5.c2⟩ | exact ⟨P4.c1, P4.c2⟩ | exact ⟨hL.out.c1, hL.out.c2⟩)
              (first
                | (go_at_call 19; refine (mark_fn _ _ _ lo s g d H W _ hD.out.al x H' HX.out).mono ?_; rintro e w4 ⟨rfl, hA4, hF4⟩; have P4 := hD.out.fr hA4 hF4)
                | (go_at_call 20; refine (rmark_any _ _ lo s g d S _ P4.rf (by have := hb.out; omega) hs1.out (fun i hi => (hS.out.count hi).1) x S' HX'.out).mono ?_; rintro e w5 ⟨rfl, hR5, hO5⟩; have P5 := P4.only hR5 hO5))
            all_goals
              go_wp2_with fail
              go_meet
              exact ⟨rfl, _, _, _, P5, HS.out⟩
          · by_cases hk2 : k = 2
            · subst hk2
              obtain ⟨x, H', hx⟩ : ∃ x H', aHold s H = (x, H') := ⟨_, _, rfl⟩
              obtain ⟨x', S', hx'⟩ : ∃ x S', rHold lo d s S = (x, S') := ⟨_, _, rfl⟩
              have hs := hS.out.hold s
              rw [hx, hx'] at hs
              obtain ⟨hs1', hs3⟩ := hs
              replace hs1' : x = x' := hs1'
              subst hs1'
              have HX := Lib.hid hx
              have HX' := Lib.hid hx'
              have HS := Lib.hid hs3
              clear hx hx' hs3 hP
              have hD := Lib.hid hL.out.drew
              go_wp2_with fail
              go_region_held3 (fun w' => w'.cell? ⟨wo.heap.size, 1, none⟩ = some (.int .i64 s) ∧ w'.cell? ⟨wo.heap.size, 2, none⟩ = some (.int .i64 g)) (first | exact ⟨P5.c1, P5.c2⟩ | exact ⟨P4.c1, P4.c2⟩ | exact ⟨hL.out.c1, hL.out.c2⟩)
                (first
                  | (go_at_call 14; refine (hold_fn _ _ _ lo _ s H W _ hD.out.al hS.out.inv x H' HX.out).mono ?_; rintro e w4 ⟨rfl, hA4, hF4⟩; have P4 := hD.out.fr hA4 hF4)
                  | (go_at_call 21; refine (rhold_any _ _ lo s d S _ P4.rf (by have := hb.out; omega) hs1.out (fun i hi => hS.out.count hi) x S' HX'.out).mono ?_; rintro e w5 ⟨rfl, hR5, hO5⟩; have P5 := P4.only hR5 hO5))
              all_goals
                go_wp2_with fail
                go_meet
                exact ⟨rfl, _, _, _, P5, HS.out⟩
            · by_cases hk3 : k = 3
              · subst hk3
                obtain ⟨x, H', W', hx⟩ : ∃ x H' W', aDrop s g H W = (x, H', W') := ⟨_, _, _, rfl⟩
                obtain ⟨x', S', hx'⟩ : ∃ x S', rDrop lo d s g S = (x, S') := ⟨_, _, rfl⟩
                have hs := hS.out.drop s g hg1.out
                rw [hx, hx'] at hs
                obtain ⟨hs1', hs3⟩ := hs
                replace hs1' : x = x' := hs1'
                subst hs1'
                have HX := Lib.hid hx
                have HX' := Lib.hid hx'
                have HS := Lib.hid hs3
                clear hx hx' hs3 hP
                have hD := Lib.hid hL.out.drew
                go_wp2_with fail
                go_region_held3 (fun w' => w'.cell? ⟨wo.heap.size, 1, none⟩ = some (.int .i64 s) ∧ w'.cell? ⟨wo.heap.size, 2, none⟩ = some (.int .i64 g)) (first | exact ⟨P5.c1, P5.c2⟩ | exact ⟨P4.c1, P4.c2⟩ | exact ⟨hL.out.c1, hL.out.c2⟩)
                  (first
                    | (go_at_call 12; refine (drop_fn _ _ _ lo _ s g H W _ hD.out.al hS.out.inv x H' W' HX.out).mono ?_; rintro e w4 ⟨rfl, hA4, hF4⟩; have P4 := hD.out.fr hA4 hF4)
                    | (go_at_call 22; refine (rdrop_any _ _ lo s g d S _ P4.rf (by have := hb.out; omega) hs1.out (fun i hi => hS.out.count hi) x S' HX'.out).mono ?_; rintro e w5 ⟨rfl, hR5, hO5⟩; have P5 := P4.only hR5 hO5))
                all_goals
                  go_wp2_with fail
                  go_meet
                  exact ⟨rfl, _, _, _, P5, HS.out⟩
              · by_cases hk4 : k = 4
                · subst hk4
                  obtain ⟨x, hx⟩ : ∃ x : Int, (cntB d (fun i => gone g (S i)) : Int) = x := ⟨_, rfl⟩
                  have hs := hS.out.free g
                  rw [hx] at hs
                  have HX := Lib.hid hs.1
                  have HX' := Lib.hid hx
                  have HS := Lib.hid hs.2
                  clear hx hs hP
                  have hD := Lib.hid hL.out.drew
                  go_wp2_with fail
                  go_region_held3 (fun w' => w'.cell? ⟨wo.heap.size, 1, none⟩ = some (.int .i64 s) ∧ w'.cell? ⟨wo.heap.size, 2, none⟩ = some (.int .i64 g)) (first | exact ⟨P5.c1, P5.c2⟩ | exact ⟨P4.c1, P4.c2⟩ | exact ⟨hL.out.c1, hL.out.c2⟩)
                    (first
                      | (go_at_call 13; refine (free_fn _ _ _ lo g d H W _ hD.out.al hS.out.inv (by have := hb.out; omega) x HX.out).mono ?_; rintro e w4 ⟨rfl, hA4, hF4⟩; have P4 := hD.out.fr hA4 hF4)
                      | (go_at_call 23; refine (rfree_any _ _ lo g d S _ P4.rf (by have := hb.out; omega) x HX'.out).mono ?_; rintro e w5 ⟨rfl, hR5, hO5⟩; have P5 := P4.only hR5 hO5))
                  all_goals
                    go_wp2_with fail
                    go_meet
                    exact ⟨rfl, _, _, _, P5, HS.out⟩
                · have n0 : (k == 0) = false := by simpa using hk0
                  have n1 : (k == 1) = false := by simpa using hk1
                  have n2 : (k == 2) = false := by simpa using hk2
                  have n3 : (k == 3) = false := by simpa using hk3
                  have n4 : (k == 4) = false := by simpa using hk4
                  clear hP
                  go_wp2_with fail
                  go_meet
                  exact ⟨rfl, _, _, _, hL.out, hS.out⟩
      case rest =>
        obtain ⟨rfl, H', W', S', P, hsm⟩ := hcut
        have HS := Lib.hid hsm
        have HX := Lib.hid (hsm.cnt s)
        have HR := Lib.hid hsm.room
        have HW := Lib.hid hsm.wait
        have hD := Lib.hid P.drew
        clear hsm hS hL
        obtain ⟨x, hx⟩ : ∃ x, rCnt lo d s S' = x := ⟨_, rfl⟩
        rw [hx] at HX
        have Hx := Lib.hid hx
        clear hx
        obtain ⟨y, hy⟩ : ∃ y : Int, (cntB d (fun i => (S' i).fr) : Int) = y := ⟨_, rfl⟩
        rw [hy] at HR
        have Hy := Lib.hid hy
        clear hy
        obtain ⟨z, hz⟩ : ∃ z : Int, (cntB d (fun i => (S' i).wt) : Int) = z := ⟨_, rfl⟩
        rw [hz] at HW
        have Hz := Lib.hid hz
        clear hz
        have HP := Lib.hid P
        clear P
        go_wp2_with fail
        go_region_held3 (fun w' => w'.cell? ⟨wo.heap.size, 1, none⟩ = some (.int .i64 s)) (first | exact P5.c1 | exact P4.c1 | exact HP.out.c1)
          (first
            | (go_at_call 15; refine (cnt_fn x _ _ _ lo _ s H' W' _ hD.out.al HX.out).mono ?_; rintro e w4 ⟨rfl, rfl⟩)
            | (go_at_call 24; refine (rcnt_any _ _ lo s d S' _ hD.out.rf (by have := hb.out; omega) hs1.out x Hx.out).mono ?_; rintro e w4 ⟨rfl, hR4, hO4⟩; have P4 := hD.out.only hR4 hO4)
            | (go_at_call 11; refine (room_fn y _ _ _ lo d H' W' _ P4.al HS.out.inv (by have := hb.out; omega) HR.out).mono ?_; rintro e w5 ⟨rfl, hb5⟩; have P5 := P4.on hb5)
            | (go_at_call 25; refine (rroom_any _ _ lo d S' _ P5.rf (by have := hb.out; omega) y Hy.out).mono ?_; rintro e w6 ⟨rfl, rfl⟩)
            | (go_at_call 16; refine (wait_fn z _ _ _ lo _ H' W' _ P5.al HW.out).mono ?_; rintro e w6 ⟨rfl, rfl⟩)
            | (go_at_call 26; refine (rwait_any _ _ lo d S' _ P5.rf (by have := hb.out; omega) z Hz.out).mono ?_; rintro e w6 ⟨rfl, rfl⟩))
        all_goals
          go_wp2_with fail
          go_roundg (len - (i + 1))
          case measure => omega
          case rel => exact ⟨i + 1, by omega, rfl, by go_num, H', W', S', P5.done HS.out⟩
    · go_wp2_with fail
      go_ret
      exact ⟨rfl, hP.bl⟩
theorem allocPlays_row (lo hi : Int) (v : Value) (len : Nat) (w : World) (_ : -9223372036854775808 ≤ lo ∧ lo ≤ 9223372036854775807) (_ : -9223372036854775808 ≤ hi ∧ hi ≤ 9223372036854775807) (hs : Script w v len) :
    Calls Try.prog 5 #[.int .i64 lo, .int .i64 hi, v] w fun e w' => e = .returned (.bool true) ∧ Below w.heap.size w w' := by
  obtain ⟨oa, cap, rfl, h1, h2, h3⟩ := Sc.of hs
  by_cases h : 200 < len
  · exact plays_short lo hi oa len cap w (by omega)
  · by_cases hb : lo < 0 ∨ hi < lo ∨ 4096 < hi
    · exact plays_bad lo hi oa len cap w (by omega) (by omega)
    · exact plays_in lo hi (hi - lo).toNat oa len cap w (by omega) (by omega) (by omega) (show _ = _ by omega) (by omega) h3
end Go.Proofs.Ytbbegbiiaabmgaa
