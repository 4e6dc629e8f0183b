/- The document's Between; Between read as numbers. -/
import Derived.Test.YtlbdeabohjokeaaWkM
import Derived.Laws.AppendOwnNone
namespace Go.Proofs.Ytlbdeabohjokeaa
open Go.RowKit Mp Ln

def lbtw (y : Int) (L : List Sn) (x : Int) : List Int := (btw y (line L x)).getD []
theorem between_il (oa : Option Addr) (cap : Nat) (L : List Sn) (y x : Int) (w : World) (h : Sl w oa L) (hl : L.length ≤ 60) :
    Calls Try.prog 19 #[.slice oa L.length cap, .int .i64 y, .int .i64 x] w fun e w' => ∃ oc c, e = .returned (.tuple #[.slice oc (lbtw y L x).length c, .bool (btw y (line L x)).isSome]) ∧ Il w' oc (lbtw y L x) ∧ Below w.heap.size w w' := by
  refine (between_any oa cap L y x w h hl).mono fun e w' ⟨v, h1, h2, h3⟩ => ?_
  obtain ⟨oc, c, h4, _, _, h7⟩ := own_il h2
  exact ⟨oc, c, by rw [h1, h4]; rfl, h7, h3⟩
theorem btw_len (y : Int) : ∀ A : List Sn, ((btw y A).getD []).length ≤ A.length
  | [] => Nat.le_refl _
  | s :: A => by
    unfold btw
    by_cases e : s.id = y
    · rw [if_pos e]; simp
    · rw [if_neg e]
      have := btw_len y A
      cases hb : btw y A with
      | none => simp
      | some l => rw [hb] at this; simp at this ⊢; exact this
theorem lbtw_len (y : Int) (L : List Sn) (x : Int) : (lbtw y L x).length ≤ (line L x).length := btw_len y _
set_option maxHeartbeats 1000000 in
theorem rbetween_any (oa : Option Addr) (cap : Nat) (L : List Sn) (y x : Int) (w : World) (h : Sl w oa L) (hl : L.length ≤ 60) :
    Calls Try.prog 20 #[.slice oa L.length cap, .int .i64 y, .int .i64 x] w fun e w' => ∃ oc c, e = .returned (.tuple #[.slice oc (lbtw y L x).length c, .bool (btw y (line L x)).isSome]) ∧ Il w' oc (lbtw y L x) ∧ Below w.heap.size w w' := by
  obtain ⟨i0, hi, hz0, hz1, hz2⟩ := info_parts info3
  obtain ⟨rl, hrl⟩ : ∃ rl, lbtw y L x = rl := ⟨_, rfl⟩
  obtain ⟨rb, hrb⟩ : ∃ rb, (btw y (line L x)).isSome = rb := ⟨_, rfl⟩
  rw [hrl, hrb]
  have HR : Hid (lbtw y L x = rl ∧ (btw y (line L x)).isSome = rb) := ⟨hrl, hrb⟩
  clear hrl hrb
  have hla := line_len L x
  have hA := lids_len L x
  have HA : Hid ((lids L x).length = (line L x).length) := hA
  have hA60 : (lids L x).length ≤ 60 := by omega
  clear hla hA
  go_enter Try.func20, Try.ntmps20
  go_wp2_with (go_at_call 22; refine (rline_il oa cap L x _ h hl).mono ?_; rintro e w1 ⟨op, cp, rfl, hp, hb1⟩)
  have HP := Lib.hid hp
  have HW := Lib.hid hb1
  clear hp hb1
  go_loopg [9, 10] ((lids L x).length) (fun q v9 v10 wr => ∃ i : Nat, i ≤ (lids L x).length ∧ q = (lids L x).length - i ∧ v10 = .int .i64 i ∧ wr.ownsRow w.heap.size 3 1 v9 i ((((line L x).take i).map (·.id)).reverse.map (.int .i64)) ∧ (∀ t ∈ (line L x).take i, t.id ≠ y) ∧ Below w.heap.size w wr ∧ Il wr op (lids L x))
  case atStart => exact ⟨0, by omega, by omega, rfl, World.ownsRow_nil _ _ _ _, fun t ht => (by simp at ht), HW.out, HP.out⟩
  case round =>
    obtain ⟨i, hi', rfl, rfl, hrow, hn, hB, hP⟩ := hrel
    have HN := Lib.hid hn
    clear hn HP HW
    by_cases hlt : i < (lids L x).length
    · obtain ⟨a, rfl, hc, _⟩ := hP i hlt
      have hiA : i < (line L x).length := by have := HA.out; omega
      obtain ⟨s, hs⟩ : ∃ s, nth (line L x) i = s := ⟨_, rfl⟩
      rw [lids_at L x hiA, hs] at hc
      have HS := Lib.hid hs
      clear hs
      by_cases e : s.id = y
      · have he : (s.id == y) = true := by simpa using e
        have HE := Lib.hid e
        clear e
        have hbt : btw y (line L x) = some (((line L x).take i).map (·.id)).reverse := by
          have h1 : line L x = (line L x).take i ++ s :: (line L x).drop (i + 1) := by
            have h2 := List.take_append_drop (i + 1) (line L x)
            rw [take_snoc hiA, HS.out, List.append_assoc] at h2
            exact h2.symm
          conv => lhs; rw [h1]
          exact btw_some HN.out HE.out
        have HBT := Lib.hid hbt
        clear hbt
        obtain ⟨oc, c, hv, _, _, hil⟩ := own_il hrow
        have hr := HR.out
        unfold lbtw at hr
        rw [HBT.out] at hr
        obtain ⟨hr1, rfl⟩ := hr
        have hr1' : (((line L x).take i).map (·.id)).reverse = rl := hr1
        rw [hr1'] at hv hil
        have HV := Lib.hid hv
        clear hr1 hr1' hv HR HBT
        go_wp2
        go_ret2
        exact ⟨oc, c, by rw [HV.out]; rfl, hil, hB⟩
      · have he : (s.id == y) = false := by simpa using e
        have HE := Lib.hid e
        clear e
        have hown0 : (wr.alloc (.cells #[.int .i64 s.id] 3)).ownsRow w.heap.size 3 1 (.slice (some ⟨wr.heap.size, 0, none⟩) 1 1) 1 [.int .i64 s.id] :=
          ⟨rfl, .inr ⟨wr.heap.size, 1, #[.int .i64 s.id], rfl, hB.size, heap_alloc_new wr _, Nat.le_refl _, (by unfold maxLen; omega), rfl, rfl⟩⟩
        have HO := Lib.hid hown0
        clear hown0
        have hidn : (((line L x).take (i + 1)).map (·.id)).reverse.map (Value.int .i64) = [.int .i64 s.id] ++ (((line L x).take i).map (·.id)).reverse.map (.int .i64) := by
          rw [take_snoc hiA, HS.out]
          simp
        have HI := Lib.hid hidn
        clear hidn
        have hnn : ∀ t ∈ (line L x).take (i + 1), t.id ≠ y := fun t ht => by
          rw [take_snoc hiA] at ht
          rcases List.mem_append.1 ht with ht | ht
          · exact HN.out t ht
          · rw [List.mem_singleton.1 ht, HS.out]; exact HE.out
        have HNN := Lib.hid hnn
        clear hnn
        have hB1 : Below w.heap.size w (wr.alloc (.cells #[.int .i64 s.id] 3)) := below_al hB
        have HB1 := Lib.hid hB1
        have HP1 := Lib.hid (hP.on (below_al (o := .cells #[.int .i64 s.id] 3) (Below.refl _ _)))
        clear hB1
        obtain ⟨oc, c, hv, hl2, hl3, hil⟩ := own_il hrow
        have hlen : ((((line L x).take i).map (·.id)).reverse).length = i := by simp; omega
        rw [hlen] at hv
        cases oc with
        | none =>
          have hz : i = 0 ∧ u9 = .slice none 0 0 := by
            rcases hrow.2 with ⟨h0, h00⟩ | ⟨g, cap', cur, h0, _⟩
            · exact ⟨h00, h0⟩
            · rw [hv] at h0; cases h0
          obtain ⟨hz1', hz2'⟩ := hz
          have HZ := Lib.hid hz1'
          clear hv hlen hil hl2 hl3 hz1'
          rw [hz2'] at hrow
          subst hz2'
          go_wp2_with (at_builtin; refine wpList_append_own_none rfl _ _ 35 rfl w.heap.size 3 i0 1 Try.underlying35 hi _ _ _ rfl HO.out rfl ?_)
          go_roundg ((lids L x).length - (i + 1))
          case measure => omega
          case rel =>
            refine ⟨i + 1, by omega, rfl, by go_num, ?_, HNN.out, HB1.out, HP1.out⟩
            rw [HI.out, HZ.out]
            exact HO.out
        | some ad =>
          have hcells := (hil.on (below_al (o := .cells #[.int .i64 s.id] 3) (Below.refl _ _))).cells
          have HC := Lib.hid hcells
          have hln : Hid (((((line L x).take i).map (·.id)).reverse.map (Value.int .i64)).length = i * 1) := by show _ = _; simp; omega
          have hone : Hid (∀ u ∈ ((((line L x).take i).map (·.id)).reverse.map (Value.int .i64)), u.oneCell' = true) := fun u hu => by
            obtain ⟨z, _, rfl⟩ := List.mem_map.1 hu
            rfl
          have hm1 : Hid (1 + i ≤ maxLen) := by show _ ≤ _; unfold maxLen; omega
          have hm2 : Hid ((1 + i) * 8 ≤ 140737488355328) := by show _ ≤ _; omega
          have hso : Hid (w.heap.size ≤ (wr.alloc (.cells #[.int .i64 s.id] 3)).heap.size) := HB1.out.size
          have HV := Lib.hid hv
          clear hcells hlen hil
          rw [hv] at hrow
          subst hv
          clear HV
          go_wp2_with (at_builtin; refine wpList_append_own _ rfl _ _ 35 rfl w.heap.size 3 i0 (.int .i64 0) 1 8 Try.underlying35 hi hz0 hz1 hz2 rfl (by decide) _ _ _ rfl HO.out ad i c ((((line L x).take i).map (·.id)).reverse.map (.int .i64)) rfl hln.out HC.out hone.out hm1.out hm2.out hso.out ?_; intro v' w4 hown4 hgrow4 _)
          have hb4 : Below wr.heap.size wr w4 := (below_al (o := .cells #[.int .i64 s.id] 3) (Below.refl _ _)).grown hgrow4 (by simp) (fun k e => by cases e; exact Nat.le_refl _)
          go_roundg ((lids L x).length - (i + 1))
          case measure => omega
          case rel =>
            refine ⟨i + 1, by omega, rfl, by go_num, ?_, HNN.out, hB.trans (hb4.mono hB.size), hP.on hb4⟩
            rw [HI.out, Nat.add_comm i 1]
            exact hown4
    · have e : i = (lids L x).length := by omega
      have hbt : btw y (line L x) = none := by
        have := HN.out
        rw [e, HA.out, List.take_length] at this
        exact btw_none this
      have hr := HR.out
      unfold lbtw at hr
      rw [hbt] at hr
      obtain ⟨hr1, rfl⟩ := hr
      have hr2 : rl = [] := hr1.symm
      subst hr2
      clear hbt hr1 HR
      go_wp2
      go_ret2
      exact ⟨none, 0, rfl, fun k hk => absurd hk (Nat.not_lt_zero _), hB⟩
end Go.Proofs.Ytlbdeabohjokeaa
