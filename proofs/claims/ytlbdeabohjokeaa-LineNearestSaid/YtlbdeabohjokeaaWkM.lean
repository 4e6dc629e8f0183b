/- The document's Line, Common, Between. -/
import Derived.Test.YtlbdeabohjokeaaWkL
namespace Go.Proofs.Ytlbdeabohjokeaa
open Go.RowKit Mp Ln

theorem own_on {W W' : World} {base size n : Nat} {e : TypeId} {v : Value} {xs : List Value} (h : W.ownsRow base e size v n xs) (k : Below W.heap.size W W') : W'.ownsRow base e size v n xs := by
  refine ⟨h.1, ?_⟩
  rcases h.2 with h0 | ⟨g, cap, cur, h1, h2, h3, h4⟩
  · exact .inl h0
  · exact .inr ⟨g, cap, cur, h1, h2, (k.block g (Array.getElem?_eq_some_iff.1 h3).1).trans h3, h4⟩
theorem own_set4 {W : World} {base size n g : Nat} {e t : TypeId} {v : Value} {xs : List Value} {cs : Array Value} (h : W.ownsRow base e size v n xs) (hb : Blk W g t cs) (ht : t ≠ e) (x y z u : Value) :
    ((((W.setCell ⟨g, 0, none⟩ x).setCell ⟨g, 1, none⟩ y).setCell ⟨g, 2, none⟩ z).setCell ⟨g, 3, none⟩ u).ownsRow base e size v n xs :=
  own_set (own_set (own_set (own_set h hb ht 0 x) (hb.set 0 x) ht 1 y) ((hb.set 0 x).set 1 y) ht 2 z) (((hb.set 0 x).set 1 y).set 2 z) ht 3 u
set_option maxHeartbeats 1000000 in
theorem rline_any (oa : Option Addr) (cap : Nat) (L : List Sn) (x : Int) (w : World) (h : Sl w oa L) (hl : L.length ≤ 60) :
    Calls Try.prog 22 #[.slice oa L.length cap, .int .i64 x] w fun e w' => ∃ v, e = .returned v ∧ w'.ownsRow w.heap.size 3 1 v (line L x).length ((line L x).map idv) ∧ Below w.heap.size w w' := by
  obtain ⟨i0, hi, hz0, hz1, hz2⟩ := info_parts info3
  obtain ⟨s0, hs0⟩ : ∃ s, optV (find L x) = s := ⟨_, rfl⟩
  obtain ⟨y0, hy0⟩ : ∃ y, (find L x).isSome = y := ⟨_, rfl⟩
  have HS : Hid (optV (find L x) = s0 ∧ (find L x).isSome = y0) := ⟨hs0, hy0⟩
  clear hs0 hy0
  go_enter Try.func22, Try.ntmps22
  go_wp2_with (go_at_call 10; refine (rfind_any x oa cap L _ h hl).mono ?_; rintro e w2 ⟨rfl, hb2⟩; rw [HS.out.1, HS.out.2]; unfold sv)
  have hB2 := Lib.hid hb2
  clear hb2
  obtain ⟨g, hg⟩ : ∃ g, w2.heap.size = g := ⟨_, rfl⟩
  rw [hg]
  have HG : Hid (w.heap.size ≤ g) := by rw [← hg]; exact hB2.out.size
  have HW : Hid (Blk (w2.alloc (.cells #[.string s0.nm, .int .i64 s0.id, .int .i64 s0.p, .int .i64 s0.src] 25)) g 25 (cell4 s0)) := Blk.new' _ _ hg
  clear hg
  go_loopg [5, 7] ((line L x).length) (fun q v5 v7 wr => ∃ (pre : List Sn) (y : Int), q = (line L y).length ∧ line L x = pre ++ line L y ∧ v7 = .bool (find L y).isSome ∧ wr.ownsRow w.heap.size 3 1 v5 pre.length (pre.map idv) ∧ Blk wr g 25 (cell4 (optV (find L y))) ∧ Below w.heap.size w wr)
  case atStart =>
    refine ⟨[], x, rfl, rfl, by rw [HS.out.2], World.ownsRow_nil _ _ _ _, by rw [HS.out.1]; exact HW.out, below_al hB2.out⟩
  case round =>
    obtain ⟨pre, y, rfl, hX, rfl, hrow, hG, hB⟩ := hrel
    have HX := Lib.hid hX
    clear hX HW
    unfold cell4 at hG
    cases hf : find L y with
    | none =>
      have HF := Lib.hid hf
      clear hf
      go_wp2
      go_ret
      refine ⟨_, rfl, ?_, hB⟩
      rw [HX.out, line_none HF.out, List.append_nil]
      exact hrow
    | some s =>
      rw [hf] at hG
      have HF := Lib.hid hf
      clear hf
      have hlen : pre.length < 60 := by
        have h1 := line_len L x
        rw [HX.out, line_some HF.out] at h1
        simp at h1
        omega
      have R := hG.box4
      obtain ⟨e0, e1, e2, e3, f0, f1, f2, f3⟩ := R
      simp only [optV, Option.getD_some] at e0 e1 e2 e3
      obtain ⟨s1, hs1⟩ : ∃ s1, optV (find L s.p) = s1 := ⟨_, rfl⟩
      obtain ⟨y1, hy1⟩ : ∃ y1, (find L s.p).isSome = y1 := ⟨_, rfl⟩
      have HS : Hid (optV (find L s.p) = s1 ∧ (find L s.p).isSome = y1) := ⟨hs1, hy1⟩
      clear hs1 hy1
      have hGo : Hid (∀ o, Blk (wr.alloc o) g 25 (cell4 s)) := fun o => Blk.on hG (below_al (Below.refl _ _))
      have hBo : Hid (∀ o, Below w.heap.size w (wr.alloc o)) := fun o => below_al hB
      have hro : Hid (∀ o, (wr.alloc o).ownsRow w.heap.size 3 1 u5 pre.length (pre.map idv)) := fun o => hrow.alloc o
      have hso : Hid (∀ o, w.heap.size ≤ (wr.alloc o).heap.size) := fun o => (below_al (o := o) hB).size
      have hne := Lib.hid (show (25 : TypeId) ≠ 3 by decide)
      have hm1 : Hid (pre.length + 1 ≤ maxLen) := by show _ ≤ _; unfold maxLen; omega
      have hm2 : Hid ((pre.length + 1) * 8 ≤ 140737488355328) := by show _ ≤ _; omega
      go_wp2_with (first
        | (go_at_call 10; refine (rfind_any s.p oa cap L _ (h.on hB4) hl).mono ?_; rintro e w5 ⟨rfl, hb5⟩; rw [HS.out.1, HS.out.2]; unfold sv; clear e0 e1 e2 e3 f0 f1 f2 f3; have hG5 := Lib.hid (Blk.on hG4 hb5); have R := hG5.out.box4; have e0 := R.e0; have e1 := R.e1; have e2 := R.e2; have e3 := R.e3; have f0 := R.f0; have f1 := R.f1; have f2 := R.f2; have f3 := R.f3; clear R)
        | (at_builtin; refine wpList_append_own _ rfl _ _ 35 rfl w.heap.size 3 i0 (.int .i64 0) 1 8 Try.underlying35 hi hz0 hz1 hz2 rfl (by decide) _ _ _ rfl (hro.out _) ⟨wr.heap.size, 0, none⟩ 1 1 [.int .i64 s.id] rfl rfl (cell_one_new _ _ _) (by simp [Value.oneCell']) hm1.out hm2.out (hso.out _) ?_; intro v' w4 hown4 hgrow4 _; clear e0 e1 e2 e3 f0 f1 f2 f3; have hG4 := blk_grown (hGo.out _) (hro.out _) hgrow4 (.inl hne.out); have hB4 := (hBo.out _).grown hgrow4 (hso.out _) (fun k e => (own_block hrow e).1); have R := hG4.box4; have e0 := R.e0; have e1 := R.e1; have e2 := R.e2; have e3 := R.e3; have f0 := R.f0; have f1 := R.f1; have f2 := R.f2; have f3 := R.f3; clear R))
      go_roundg ((line L s.p).length)
      case measure => rw [line_some HF.out]; simp
      case rel =>
        refine ⟨pre ++ [s], s.p, rfl, by rw [HX.out, line_some HF.out, List.append_assoc]; rfl, by rw [HS.out.2], ?_, ?_, below_4 (hB4.trans (hb5.mono hB4.size)) HG.out _ _ _ _⟩
        · simpa [idv] using own_set4 (own_on hown4 hb5) hG5.out hne.out (.string s1.nm) (.int .i64 s1.id) (.int .i64 s1.p) (.int .i64 s1.src)
        · rw [HS.out.1]; exact hG5.out.set4 (.string s1.nm) (.int .i64 s1.id) (.int .i64 s1.p) (.int .i64 s1.src)
def lids (L : List Sn) (x : Int) : List Int := (line L x).map (·.id)
theorem lids_len (L : List Sn) (x : Int) : (lids L x).length = (line L x).length := by unfold lids; simp
theorem lids_at (L : List Sn) (x : Int) {i : Nat} (hi : i < (line L x).length) : (lids L x).getD i 0 = (nth (line L x) i).id := by
  unfold lids nth
  rw [List.getD_eq_getElem?_getD, List.getD_eq_getElem?_getD, List.getElem?_map, List.getElem?_eq_getElem hi]
  rfl
theorem rline_il (oa : Option Addr) (cap : Nat) (L : List Sn) (x : Int) (w : World) (h : Sl w oa L) (hl : L.length ≤ 60) :
    Calls Try.prog 22 #[.slice oa L.length cap, .int .i64 x] w fun e w' => ∃ oc c, e = .returned (.slice oc (lids L x).length c) ∧ Il w' oc (lids L x) ∧ Below w.heap.size w w' := by
  refine (rline_any oa cap L x w h hl).mono fun e w' ⟨v, h1, h2, h3⟩ => ?_
  rw [idv_map] at h2
  obtain ⟨oc, c, h4, _, _, h7⟩ := own_il h2
  exact ⟨oc, c, by rw [h1, h4]; rfl, h7, h3⟩
theorem line_il (oa : Option Addr) (cap : Nat) (L : List Sn) (x : Int) (w : World) (h : Sl w oa L) (hl : L.length ≤ 60) :
    Calls Try.prog 16 #[.slice oa L.length cap, .int .i64 x] w fun e w' => ∃ oc c, e = .returned (.slice oc (lids L x).length c) ∧ Il w' oc (lids L x) ∧ Below w.heap.size w w' := by
  refine (line_any oa cap L x w h hl).mono fun e w' ⟨v, h1, h2, h3⟩ => ?_
  rw [idv_map] at h2
  obtain ⟨oc, c, h4, _, _, h7⟩ := own_il h2
  exact ⟨oc, c, by rw [h1, h4]; rfl, h7, h3⟩
theorem find_line {L : List Sn} {x : Int} {i : Nat} (hi : i < (line L x).length) : find L (nth (line L x) i).id = some (nth (line L x) i) := by
  obtain ⟨h1, ⟨j, hj, h2⟩, _⟩ := line_mem x _ (nth_mem hi)
  rw [← h2]
  exact find_at h1 hj
theorem rfind_at (L : List Sn) (x : Int) (i : Nat) (s : Sn) (oa : Option Addr) (cap : Nat) (w : World) (h : Sl w oa L) (hl : L.length ≤ 60) (hi : i < (line L x).length) (hs : nth (line L x) i = s) :
    Calls Try.prog 10 #[.slice oa L.length cap, .int .i64 s.id] w fun e w' => e = .returned (.tuple #[.agg #[.string s.nm, .int .i64 s.id, .int .i64 s.p, .int .i64 s.src], .bool true]) ∧ Below w.heap.size w w' := by
  subst hs
  have := rfind_any (nth (line L x) i).id oa cap L w h hl
  rw [find_line hi] at this
  exact this
theorem take_snoc {A : List Sn} {i : Nat} (hi : i < A.length) : A.take (i + 1) = A.take i ++ [nth A i] := by
  rw [List.take_add_one, List.getElem?_eq_getElem hi]
  unfold nth
  rw [List.getD_eq_getElem?_getD, List.getElem?_eq_getElem hi]
  rfl
set_option maxHeartbeats 2000000 in
theorem rcommon_any (oa ob : Option Addr) (ca cb : Nat) (A B : List Sn) (x y : Int) (w : World) (h : Sl w oa A) (hl : A.length ≤ 60) (h' : Sl w ob B) (hl' : B.length ≤ 60) :
    Calls Try.prog 18 #[.slice oa A.length ca, .int .i64 x, .slice ob B.length cb, .int .i64 y] w fun e w' => e = .returned (.tuple #[.int .i64 (comV (line A x) (line B y)).1, .bool (comV (line A x) (line B y)).2]) ∧ Below w.heap.size w w' := by
  obtain ⟨rx, hrx⟩ : ∃ rx, comV (line A x) (line B y) = rx := ⟨_, rfl⟩
  rw [hrx]
  have HRX := Lib.hid hrx
  clear hrx
  have hla := line_len A x
  have hlb := line_len B y
  have hA := lids_len A x
  have hB := lids_len B y
  have HA : Hid ((lids A x).length = (line A x).length ∧ (lids A x).length ≤ 60) := ⟨hA, by omega⟩
  have HB : Hid ((lids B y).length = (line B y).length ∧ (lids B y).length ≤ 60) := ⟨hB, by omega⟩
  have hA60 : (lids A x).length ≤ 60 := by omega
  have hB60 : (lids B y).length ≤ 60 := by omega
  clear hla hlb hA hB
  go_enter Try.func18, Try.ntmps18
  have tok1 : True := trivial
  go_wp2_with (first
    | (go_at_call 22; have _t := tok1; refine (rline_il oa ca A x _ h hl).mono ?_; clear tok1; rintro e w1 ⟨op, cp, rfl, hp, hb1⟩)
    | (go_at_call 22; refine (rline_il ob cb B y _ (h'.on hb1) hl').mono ?_; rintro e w2 ⟨oq, cq, rfl, hq, hb2⟩; have hb1' := hb1; clear hb1))
  have HP := Lib.hid (hp.on hb2)
  have HQ := Lib.hid hq
  have HW := Lib.hid (hb1'.trans (hb2.mono hb1'.size))
  clear hp hq hb1' hb2
  go_loopg [12] ((lids A x).length) (fun q v wr => ∃ i : Nat, i ≤ (lids A x).length ∧ q = (lids A x).length - i ∧ v = .int .i64 i ∧ (∀ t ∈ (line A x).take i, has (line B y) t.src = false) ∧ Below w.heap.size w wr ∧ Il wr op (lids A x) ∧ Il wr oq (lids B y))
  case atStart => exact ⟨0, by omega, by omega, rfl, fun t ht => (by simp at ht), HW.out, HP.out, HQ.out⟩
  case round =>
    obtain ⟨i, hi, rfl, rfl, hn, hB, hP, hQ⟩ := hrel
    have HN := Lib.hid hn
    clear hn HP HQ HW
    by_cases hlt : i < (lids A x).length
    · obtain ⟨a, rfl, hc, _⟩ := hP i hlt
      have hiA : i < (line A x).length := by have := HA.out; omega
      obtain ⟨s, hs⟩ : ∃ s, nth (line A x) i = s := ⟨_, rfl⟩
      rw [lids_at A x hiA, hs] at hc
      have HS := Lib.hid hs
      clear hs
      go_wp2_with (go_at_call 10; refine (rfind_at A x i s oa ca _ (h.on hB) hl hiA HS.out).mono ?_; rintro e w3 ⟨rfl, hb3⟩)
      have hB3 := hB.trans (hb3.mono hB.size)
      have hP3 := (hP.on hb3).on (below_al (o := .cells #[.string s.nm, .int .i64 s.id, .int .i64 s.p, .int .i64 s.src] 25) (Below.refl _ _))
      have hQ3 := (hQ.on hb3).on (below_al (o := .cells #[.string s.nm, .int .i64 s.id, .int .i64 s.p, .int .i64 s.src] 25) (Below.refl _ _))
      have hG3 : Blk (w3.alloc (.cells #[.string s.nm, .int .i64 s.id, .int .i64 s.p, .int .i64 s.src] 25)) w3.heap.size 25 (cell4 s) := Blk.new' _ _ rfl
      have H3 := Lib.hid (And.intro (below_al (o := .cells #[.string s.nm, .int .i64 s.id, .int .i64 s.p, .int .i64 s.src] 25) hB3) (And.intro hP3 (And.intro hQ3 hG3)))
      clear hB3 hP3 hQ3 hG3 hb3 hc hP hQ hB
      go_loopg [15] ((lids B y).length) (fun q v wq => ∃ k : Nat, k ≤ (lids B y).length ∧ q = (lids B y).length - k ∧ v = .int .i64 k ∧ has ((line B y).take k) s.src = false ∧ Below w.heap.size w wq ∧ Il wq (some a) (lids A x) ∧ Il wq oq (lids B y) ∧ Blk wq w3.heap.size 25 (cell4 s))
      case atStart => exact ⟨0, by omega, by omega, rfl, by simp [has], H3.out⟩
      case round =>
        obtain ⟨k, hk, rfl, rfl, hn, hB, hP, hQ, hG⟩ := hrel
        have HN2 := Lib.hid hn
        clear hn H3
        by_cases hlk : k < (lids B y).length
        · obtain ⟨b, rfl, hc, _⟩ := hQ k hlk
          have hkB : k < (line B y).length := by have := HB.out; omega
          obtain ⟨u, hu⟩ : ∃ u, nth (line B y) k = u := ⟨_, rfl⟩
          rw [lids_at B y hkB, hu] at hc
          have HU := Lib.hid hu
          clear hu
          cases he : (s.src == u.src) with
          | true =>
            have HE := Lib.hid he
            go_wp2_with (go_at_call 10; refine (rfind_at B y k u ob cb _ (h'.on hB) hl' hkB HU.out).mono ?_; rintro e w5 ⟨rfl, hb5⟩; have hG5 := Blk.on hG hb5; have e3 : w5.cell? ⟨w3.heap.size, 3, none⟩ = some (.int .i64 s.src) := hG5.cell 3; have e3' : ∀ o, (w5.alloc o).cell? ⟨w3.heap.size, 3, none⟩ = some (.int .i64 s.src) := fun o => (Blk.on hG5 (below_al (Below.refl _ _))).cell 3)
            have hr := HRX.out
            rw [com_some (pre0 := (line A x).take i) (s := s) (by rw [← HS.out, ← take_snoc hiA]; exact List.take_prefix _ _) HN.out (by
              unfold has
              rw [List.any_eq_true]
              refine ⟨u, by rw [← HU.out]; exact nth_mem hkB, ?_⟩
              have e5 : s.src = u.src := by simpa using HE.out
              rw [e5]; simp)] at hr
            subst hr
            go_ret2
            exact ⟨rfl, below_al (hB.trans (hb5.mono hB.size))⟩
          | false =>
            have HE := Lib.hid he
            go_wp2_with (go_at_call 10; refine (rfind_at B y k u ob cb _ (h'.on hB) hl' hkB HU.out).mono ?_; rintro e w5 ⟨rfl, hb5⟩; have hG5 := Blk.on hG hb5; have e3 : w5.cell? ⟨w3.heap.size, 3, none⟩ = some (.int .i64 s.src) := hG5.cell 3; have e3' : ∀ o, (w5.alloc o).cell? ⟨w3.heap.size, 3, none⟩ = some (.int .i64 s.src) := fun o => (Blk.on hG5 (below_al (Below.refl _ _))).cell 3)
            go_roundg ((lids B y).length - (k + 1))
            case measure => omega
            case rel =>
              refine ⟨k + 1, by omega, rfl, by go_num, ?_, below_al (hB.trans (hb5.mono hB.size)), (hP.on hb5).on (below_al (Below.refl _ _)), (hQ.on hb5).on (below_al (Below.refl _ _)), Blk.on hG5 (below_al (Below.refl _ _))⟩
              rw [take_snoc hkB, has_snoc, HU.out]
              have := HE.out
              rw [if_neg (by simpa using this)]
              exact HN2.out
        · have e : k = (lids B y).length := by omega
          go_wp2
          go_roundg ((lids A x).length - (i + 1))
          case measure => omega
          case rel =>
            refine ⟨i + 1, by omega, rfl, by go_num, fun t ht => ?_, hB, hP, hQ⟩
            rw [take_snoc hiA] at ht
            rcases List.mem_append.1 ht with ht | ht
            · exact HN.out t ht
            · rw [List.mem_singleton.1 ht, HS.out]
              have := HN2.out
              rw [e, HB.out.1, List.take_length] at this
              exact this
    · have e : i = (lids A x).length := by omega
      have hr := HRX.out
      rw [com_none (by have := HN.out; rw [e, HA.out.1, List.take_length] at this; exact this)] at hr
      subst hr
      go_wp2
      go_ret2
      exact ⟨rfl, hB⟩
end Go.Proofs.Ytlbdeabohjokeaa
