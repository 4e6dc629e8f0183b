/- The document's Right, Find, Source. Printed by gene.py. -/
import Derived.Test.YtlbdeabohjokeaaWkD
import Derived.Deep.QuietTactic
import Derived.BigQuiet
namespace Go.Proofs.Ytlbdeabohjokeaa
open Go.RowKit Mp Ln

theorem any_step {L : List Sn} {src : Int} {k : Nat} (h : ((List.range k).any fun j => (nth L j).src == src) = false) (h2 : ((nth L k).src == src) = false) : ((List.range (k + 1)).any fun j => (nth L j).src == src) = false := by
  rw [List.range_succ, List.any_append, h]
  simp [h2]
theorem any_hit {L : List Sn} {src : Int} {k i : Nat} (hk : k < i) (h2 : ((nth L k).src == src) = true) : ((List.range i).any fun j => (nth L j).src == src) = true := by
  rw [List.any_eq_true]
  exact ⟨k, List.mem_range.2 hk, h2⟩
set_option maxHeartbeats 4000000 in
theorem rright_any (oa : Option Addr) (cap : Nat) (L : List Sn) (w : World) (h : Sl w oa L) (hl : L.length ≤ 60) :
    Calls Try.prog 14 #[.slice oa L.length cap] w fun e w' => e = .returned (.bool (right L)) ∧ Below w.heap.size w w' := by
  obtain ⟨rt, hrt⟩ : ∃ rt, right L = rt := ⟨_, rfl⟩
  rw [hrt]
  have HRT := Lib.hid hrt
  clear hrt
  go_enter Try.func14, Try.ntmps14
  go_wp2
  go_loopg [3, 4, 5] L.length (fun q v3 _ _ wr => ∃ i : Nat, i ≤ L.length ∧ q = L.length - i ∧ v3 = .int .i64 i ∧ good L i = true ∧ Below w.heap.size w wr)
  case atStart => exact ⟨0, by omega, by omega, rfl, rfl, Below.refl _ _⟩
  case round =>
    obtain ⟨i, hi, rfl, rfl, hg, hB⟩ := hrel
    have HG := Lib.hid hg
    clear hg
    by_cases hlt : i < L.length
    · obtain ⟨a, rfl, A, _⟩ := (h.on hB) i hlt
      obtain ⟨c0, c1, c2, c3⟩ := A
      obtain ⟨id, hid⟩ : ∃ id, (nth L i).id = id := ⟨_, rfl⟩
      obtain ⟨p, hp⟩ : ∃ p, (nth L i).p = p := ⟨_, rfl⟩
      obtain ⟨src, hsrc⟩ : ∃ src, (nth L i).src = src := ⟨_, rfl⟩
      obtain ⟨nm, hnm⟩ : ∃ nm, (nth L i).nm = nm := ⟨_, rfl⟩
      rw [hid] at c1
      rw [hp] at c2
      rw [hsrc] at c3
      rw [hnm] at c0
      have HI : Hid ((nth L i).id = id ∧ (nth L i).p = p ∧ (nth L i).src = src) := ⟨hid, hp, hsrc⟩
      clear hid hp hsrc hnm
      have hb0 : ∀ o, Below w.heap.size w (wr.alloc o) := fun o => below_al hB
      have HB := Lib.hid hb0
      clear hb0
      by_cases z : i = 0
      · have iz : decide (0 < (i : Int)) = false := by rw [z]; rfl
        have iz2 : decide (0 < i) = false := by rw [z]; rfl
        have HZ := Lib.hid z
        clear z
        cases i1 : decide (id < 1) with
        | true =>
          have hr : rt = false := HRT.out.symm.trans (bad1 hlt fun f => by have e := HI.out; have d := of_decide_eq_true i1; have := f.i1; omega)
          subst hr
          go_wp2
          go_quiet (fail)
          go_wp2
          go_ret
          exact ⟨rfl, below_drewN (HB.out _) _⟩
        | false =>
          cases i2 : decide (1099511627776 < id) with
          | true =>
            have hr : rt = false := HRT.out.symm.trans (bad1 hlt fun f => by have e := HI.out; have d := of_decide_eq_true i2; have := f.i2; omega)
            subst hr
            go_wp2
            go_quiet (fail)
            go_wp2
            go_ret
            exact ⟨rfl, below_drewN (HB.out _) _⟩
          | false =>
            cases p0 : decide (p < 0) with
            | true =>
              have hr : rt = false := HRT.out.symm.trans (bad1 hlt fun f => by have e := HI.out; have d := of_decide_eq_true p0; have := f.p0; omega)
              subst hr
              go_wp2
              go_quiet (fail)
              go_wp2
              go_ret
              exact ⟨rfl, below_drewN (HB.out _) _⟩
            | false =>
              cases p1 : decide (id ≤ p) with
              | true =>
                have hr : rt = false := HRT.out.symm.trans (bad1 hlt fun f => by have e := HI.out; have d := of_decide_eq_true p1; have := f.p1; omega)
                subst hr
                go_wp2
                go_quiet (fail)
                go_wp2
                go_ret
                exact ⟨rfl, below_drewN (HB.out _) _⟩
              | false =>
                cases s1 : decide (src < 1) with
                | true =>
                  have hr : rt = false := HRT.out.symm.trans (bad1 hlt fun f => by have e := HI.out; have d := of_decide_eq_true s1; have := f.s1; omega)
                  subst hr
                  go_wp2
                  go_quiet (fail)
                  go_wp2
                  go_ret
                  exact ⟨rfl, below_drewN (HB.out _) _⟩
                | false =>
                  cases s2 : decide (1152921504606846976 < src) with
                  | true =>
                    have hr : rt = false := HRT.out.symm.trans (bad1 hlt fun f => by have e := HI.out; have d := of_decide_eq_true s2; have := f.s2; omega)
                    subst hr
                    go_wp2
                    go_quiet (fail)
                    go_wp2
                    go_ret
                    exact ⟨rfl, below_drewN (HB.out _) _⟩
                  | false =>
                    have HF : Hid (dup L (i) = false → Fit L (i)) := fun hd => by
                      have e := HI.out
                      have d1 := of_decide_eq_false i1
                      have d2 := of_decide_eq_false i2
                      have d3 := of_decide_eq_false p0
                      have d4 := of_decide_eq_false p1
                      have d5 := of_decide_eq_false s1
                      have d6 := of_decide_eq_false s2
                      exact ⟨by omega, by omega, Or.inl HZ.out, by omega, by omega, by omega, by omega, hd⟩
                    go_wp2
                    go_quiet (fail)
                    go_wp2
                    have hB1 := below_drewN (HB.out (.cells #[.string nm, .int .i64 id, .int .i64 p, .int .i64 src] 25)) nq
                    have q1 : Blk ((wr.alloc (.cells #[.string nm, .int .i64 id, .int .i64 p, .int .i64 src] 25)).drewN nq) wr.heap.size 25 #[.string nm, .int .i64 id, .int .i64 p, .int .i64 src] := Blk.new' (w := wr) _ _ rfl
                    have Q1 := Lib.hid q1
                    have HB1 := Lib.hid hB1
                    clear q1 hB1
                    obtain ⟨wo, hwo⟩ : ∃ wo : World, wo = wr := ⟨_, rfl⟩
                    rw [← hwo] at HB1 Q1
                    rw [← hwo]
                    clear hwo
                    go_loopg [5] (i) (fun q v5 wq => ∃ k : Nat, k ≤ i ∧ q = i - k ∧ v5 = .int .i64 k ∧ ((List.range k).any fun m => (nth L m).src == src) = false ∧ Blk wq wo.heap.size 25 #[.string nm, .int .i64 id, .int .i64 p, .int .i64 src] ∧ Below w.heap.size w wq)
                    case atStart => exact ⟨0, by omega, by omega, rfl, rfl, Q1.out, HB1.out⟩
                    case round =>
                      obtain ⟨k, hk, rfl, rfl, hany, Q2, hB2⟩ := hrel
                      have HA := Lib.hid hany
                      clear hany
                      by_cases hlk : k < i
                      · obtain ⟨a', ha', A, _⟩ := (h.on hB2) k (by omega)
                        cases ha'
                        have x3 := A.c3
                        have l3 := Q2.cell 3
                        cases hs : ((nth L k).src == src) with
                        | true =>
                          have hr : rt = false := HRT.out.symm.trans (bad1 hlt fun f => by have d := f.d; unfold dup at d; rw [HI.out.2.2, any_hit hlk hs] at d; cases d)
                          subst hr
                          go_wp2
                          go_quiet (fail)
                          go_wp2
                          go_ret
                          exact ⟨rfl, below_drewN hB2 _⟩
                        | false =>
                          have HS := Lib.hid hs
                          go_wp2
                          go_quiet (fail)
                          go_wp2
                          go_roundg (i - (k + 1))
                          case measure => omega
                          case rel => exact ⟨k + 1, by omega, rfl, by go_num, any_step HA.out HS.out, Q2, below_drewN hB2 _⟩
                      · have e : k = i := by omega
                        rw [e] at HA
                        go_wp2
                        go_roundg (L.length - (i + 1))
                        case measure => omega
                        case rel => exact ⟨i + 1, by omega, rfl, by go_num, good_succ HG.out (fit_ok1 (HF.out (by unfold dup; rw [HI.out.2.2]; exact HA.out))), hB2⟩
      · obtain ⟨j, rfl⟩ : ∃ j, i = j + 1 := ⟨i - 1, by omega⟩
        obtain ⟨pr, hpr⟩ : ∃ pr, (nth L j).id = pr := ⟨_, rfl⟩
        have hcp : ∀ o, (wr.alloc o).cell? ⟨(a.add (j * 4)).block, (a.add (j * 4)).off + 1, none⟩ = some (.int .i64 pr) := fun o => by
          obtain ⟨a', ha', A, _⟩ := (h.on (HB.out o)) j (by omega)
          cases ha'
          rw [← hpr]; exact A.c1
        have HPR := Lib.hid hpr
        clear hpr z
        cases i1 : decide (id < 1) with
        | true =>
          have hr : rt = false := HRT.out.symm.trans (bad1 hlt fun f => by have e := HI.out; have d := of_decide_eq_true i1; have := f.i1; omega)
          subst hr
          go_wp2
          go_quiet (fail)
          go_wp2
          go_ret
          exact ⟨rfl, below_drewN (HB.out _) _⟩
        | false =>
          cases i2 : decide (1099511627776 < id) with
          | true =>
            have hr : rt = false := HRT.out.symm.trans (bad1 hlt fun f => by have e := HI.out; have d := of_decide_eq_true i2; have := f.i2; omega)
            subst hr
            go_wp2
            go_quiet (fail)
            go_wp2
            go_ret
            exact ⟨rfl, below_drewN (HB.out _) _⟩
          | false =>
            cases i3 : decide (id ≤ pr) with
            | true =>
              have hr : rt = false := HRT.out.symm.trans (bad1 hlt fun f => by have e := HI.out; have d := of_decide_eq_true i3; have := f.i3; have g := HPR.out; rw [show j + 1 - 1 = j by omega, g] at this; omega)
              subst hr
              go_wp2
              go_quiet (fail)
              go_wp2
              go_ret
              exact ⟨rfl, below_drewN (HB.out _) _⟩
            | false =>
              cases p0 : decide (p < 0) with
              | true =>
                have hr : rt = false := HRT.out.symm.trans (bad1 hlt fun f => by have e := HI.out; have d := of_decide_eq_true p0; have := f.p0; omega)
                subst hr
                go_wp2
                go_quiet (fail)
                go_wp2
                go_ret
                exact ⟨rfl, below_drewN (HB.out _) _⟩
              | false =>
                cases p1 : decide (id ≤ p) with
                | true =>
                  have hr : rt = false := HRT.out.symm.trans (bad1 hlt fun f => by have e := HI.out; have d := of_decide_eq_true p1; have := f.p1; omega)
                  subst hr
                  go_wp2
                  go_quiet (fail)
                  go_wp2
                  go_ret
                  exact ⟨rfl, below_drewN (HB.out _) _⟩
                | false =>
                  cases s1 : decide (src < 1) with
                  | true =>
                    have hr : rt = false := HRT.out.symm.trans (bad1 hlt fun f => by have e := HI.out; have d := of_decide_eq_true s1; have := f.s1; omega)
                    subst hr
                    go_wp2
                    go_quiet (fail)
                    go_wp2
                    go_ret
                    exact ⟨rfl, below_drewN (HB.out _) _⟩
                  | false =>
                    cases s2 : decide (1152921504606846976 < src) with
                    | true =>
                      have hr : rt = false := HRT.out.symm.trans (bad1 hlt fun f => by have e := HI.out; have d := of_decide_eq_true s2; have := f.s2; omega)
                      subst hr
                      go_wp2
                      go_quiet (fail)
                      go_wp2
                      go_ret
                      exact ⟨rfl, below_drewN (HB.out _) _⟩
                    | false =>
                      have HF : Hid (dup L (j + 1) = false → Fit L (j + 1)) := fun hd => by
                        have e := HI.out
                        have d1 := of_decide_eq_false i1
                        have d2 := of_decide_eq_false i2
                        have d3 := of_decide_eq_false p0
                        have d4 := of_decide_eq_false p1
                        have d5 := of_decide_eq_false s1
                        have d6 := of_decide_eq_false s2
                        exact ⟨by omega, by omega, Or.inr (by have d := of_decide_eq_false i3; have g := HPR.out; rw [show j + 1 - 1 = j by omega, g, e.1]; omega), by omega, by omega, by omega, by omega, hd⟩
                      go_wp2
                      go_quiet (fail)
                      go_wp2
                      have hB1 := below_drewN (HB.out (.cells #[.string nm, .int .i64 id, .int .i64 p, .int .i64 src] 25)) nq
                      have q1 : Blk ((wr.alloc (.cells #[.string nm, .int .i64 id, .int .i64 p, .int .i64 src] 25)).drewN nq) wr.heap.size 25 #[.string nm, .int .i64 id, .int .i64 p, .int .i64 src] := Blk.new' (w := wr) _ _ rfl
                      have Q1 := Lib.hid q1
                      have HB1 := Lib.hid hB1
                      clear q1 hB1
                      obtain ⟨wo, hwo⟩ : ∃ wo : World, wo = wr := ⟨_, rfl⟩
                      rw [← hwo] at HB1 Q1
                      rw [← hwo]
                      clear hwo
                      go_loopg [5] (j + 1) (fun q v5 wq => ∃ k : Nat, k ≤ j + 1 ∧ q = j + 1 - k ∧ v5 = .int .i64 k ∧ ((List.range k).any fun m => (nth L m).src == src) = false ∧ Blk wq wo.heap.size 25 #[.string nm, .int .i64 id, .int .i64 p, .int .i64 src] ∧ Below w.heap.size w wq)
                      case atStart => exact ⟨0, by omega, by omega, rfl, rfl, Q1.out, HB1.out⟩
                      case round =>
                        obtain ⟨k, hk, rfl, rfl, hany, Q2, hB2⟩ := hrel
                        have HA := Lib.hid hany
                        clear hany
                        by_cases hlk : k < j + 1
                        · obtain ⟨a', ha', A, _⟩ := (h.on hB2) k (by omega)
                          cases ha'
                          have x3 := A.c3
                          have l3 := Q2.cell 3
                          cases hs : ((nth L k).src == src) with
                          | true =>
                            have hr : rt = false := HRT.out.symm.trans (bad1 hlt fun f => by have d := f.d; unfold dup at d; rw [HI.out.2.2, any_hit hlk hs] at d; cases d)
                            subst hr
                            go_wp2
                            go_quiet (fail)
                            go_wp2
                            go_ret
                            exact ⟨rfl, below_drewN hB2 _⟩
                          | false =>
                            have HS := Lib.hid hs
                            go_wp2
                            go_quiet (fail)
                            go_wp2
                            go_roundg (j + 1 - (k + 1))
                            case measure => omega
                            case rel => exact ⟨k + 1, by omega, rfl, by go_num, any_step HA.out HS.out, Q2, below_drewN hB2 _⟩
                        · have e : k = j + 1 := by omega
                          rw [e] at HA
                          go_wp2
                          go_roundg (L.length - (j + 1 + 1))
                          case measure => omega
                          case rel => exact ⟨j + 1 + 1, by omega, rfl, by go_num, good_succ HG.out (fit_ok1 (HF.out (by unfold dup; rw [HI.out.2.2]; exact HA.out))), hB2⟩
    · have e : i = L.length := by omega
      have hr : rt = true := by rw [e] at HG; exact HRT.out.symm.trans HG.out
      subst hr
      go_wp2
      go_ret
      exact ⟨rfl, hB⟩
end Go.Proofs.Ytlbdeabohjokeaa
