/- The closures, IndexFunc, first, Find, Source. Printed by gend.py. -/
import Derived.Test.YtlbdeabohjokeaaWkC
import Derived.Deep.RegionHeld3
import Derived.Outline
namespace Go.Proofs.Ytlbdeabohjokeaa
open Go.RowKit Mp Ln

/-- What IndexFunc answers. -/
def index (p : Sn → Bool) (L : List Sn) : Int := match fst1 (fun i => p (nth L i)) L.length with
  | some i => i
  | none => -1
theorem index_none {p : Sn → Bool} {L : List Sn} (h : fst1 (fun i => p (nth L i)) L.length = none) : index p L = -1 := by unfold index; rw [h]
theorem index_some {p : Sn → Bool} {L : List Sn} {i : Nat} (h : fst1 (fun i => p (nth L i)) L.length = some i) : index p L = i := by unfold index; rw [h]
/-- What a search answers, as values. -/
def optV (o : Option Sn) : Sn := o.getD dfl


def p_find (x : Int) (s : Sn) : Bool := s.id == x
theorem pred_find (x : Int) (b : Nat) (s : Sn) (w : World) (h : w.cell? ⟨b, 0, none⟩ = some (.int .i64 x)) :
    Calls Try.prog 25 #[sv s, .pointer (some ⟨b, 0, none⟩)] w fun e w' => e = .returned (.bool (p_find x s)) ∧ Below w.heap.size w w' := by
  have hc : ∀ o, (w.alloc o).cell? ⟨b, 0, none⟩ = some (.int .i64 x) := fun o => by rw [(below_al (o := o) (Below.refl _ _)).cell (p := ⟨b, 0, none⟩) (cell_plain h).2]; exact h
  unfold sv
  go_enter Try.func25, Try.ntmps25
  go_wp2
  go_ret
  exact ⟨rfl, below_al (Below.refl _ _)⟩
theorem index_find (x : Int) (b : Nat) (oa : Option Addr) (cap : Nat) (L : List Sn) (w : World) (h : Sl w oa L) (hl : L.length ≤ 60) (hc : w.cell? ⟨b, 0, none⟩ = some (.int .i64 x)) :
    Calls Try.prog 29 #[.slice oa L.length cap, .func (.func 25) #[] #[.pointer (some ⟨b, 0, none⟩)]] w fun e w' => e = .returned (.int .i64 (index (p_find x) L)) ∧ Below w.heap.size w w' := by
  have hbl : b < w.heap.size := (cell_plain hc).2
  go_enter Try.func29, Try.ntmps29
  go_wp2
  go_loopg [8, 5] L.length (fun q v8 _ wr => ∃ i : Nat, i ≤ L.length ∧ q = L.length - i ∧ v8 = .int .i64 i ∧ fst1 (fun i => p_find x (nth L i)) i = none ∧ Below w.heap.size w wr)
  case atStart => exact ⟨0, by omega, by omega, rfl, rfl, Below.refl _ _⟩
  case round =>
    obtain ⟨i, hi, rfl, rfl, hn, hB⟩ := hrel
    have HN := Lib.hid hn
    clear hn
    by_cases hlt : i < L.length
    · obtain ⟨a, rfl, A, _⟩ := (h.on hB) i hlt
      obtain ⟨c0, c1, c2, c3⟩ := A
      have hcr : wr.cell? ⟨b, 0, none⟩ = some (.int .i64 x) := by rw [hB.cell (p := ⟨b, 0, none⟩) hbl]; exact hc
      have HC := Lib.hid hcr
      clear hcr hc
      cases hp : p_find x (nth L i) with
      | true =>
        have HP := Lib.hid hp
        clear hp
        go_wp2_with (go_at_call 25; refine (pred_find x b (nth L i) _ HC.out).mono ?_; rintro e w2 ⟨rfl, hb2⟩; rw [HP.out])
        go_ret
        exact ⟨by rw [index_some (fst1_hit hlt HN.out HP.out)]; rfl, hB.trans (hb2.mono hB.size)⟩
      | false =>
        have HP := Lib.hid hp
        clear hp
        go_wp2_with (go_at_call 25; refine (pred_find x b (nth L i) _ HC.out).mono ?_; rintro e w2 ⟨rfl, hb2⟩; rw [HP.out])
        go_roundg (L.length - (i + 1))
        case measure => omega
        case rel => exact ⟨i + 1, by omega, rfl, by go_num, fst1_miss HN.out HP.out, hB.trans (hb2.mono hB.size)⟩
    · have e : i = L.length := by omega
      have hn : Hid (fst1 (fun i => p_find x (nth L i)) L.length = none) := by rw [e] at HN; exact HN.out
      go_wp2
      go_ret
      exact ⟨by rw [index_none hn.out]; rfl, hB⟩


def p_source (x : Int) (s : Sn) : Bool := s.src == x
theorem pred_source (x : Int) (b : Nat) (s : Sn) (w : World) (h : w.cell? ⟨b, 0, none⟩ = some (.int .i64 x)) :
    Calls Try.prog 26 #[sv s, .pointer (some ⟨b, 0, none⟩)] w fun e w' => e = .returned (.bool (p_source x s)) ∧ Below w.heap.size w w' := by
  have hc : ∀ o, (w.alloc o).cell? ⟨b, 0, none⟩ = some (.int .i64 x) := fun o => by rw [(below_al (o := o) (Below.refl _ _)).cell (p := ⟨b, 0, none⟩) (cell_plain h).2]; exact h
  unfold sv
  go_enter Try.func26, Try.ntmps26
  go_wp2
  go_ret
  exact ⟨rfl, below_al (Below.refl _ _)⟩
theorem index_source (x : Int) (b : Nat) (oa : Option Addr) (cap : Nat) (L : List Sn) (w : World) (h : Sl w oa L) (hl : L.length ≤ 60) (hc : w.cell? ⟨b, 0, none⟩ = some (.int .i64 x)) :
    Calls Try.prog 29 #[.slice oa L.length cap, .func (.func 26) #[] #[.pointer (some ⟨b, 0, none⟩)]] w fun e w' => e = .returned (.int .i64 (index (p_source x) L)) ∧ Below w.heap.size w w' := by
  have hbl : b < w.heap.size := (cell_plain hc).2
  go_enter Try.func29, Try.ntmps29
  go_wp2
  go_loopg [8, 5] L.length (fun q v8 _ wr => ∃ i : Nat, i ≤ L.length ∧ q = L.length - i ∧ v8 = .int .i64 i ∧ fst1 (fun i => p_source x (nth L i)) i = none ∧ Below w.heap.size w wr)
  case atStart => exact ⟨0, by omega, by omega, rfl, rfl, Below.refl _ _⟩
  case round =>
    obtain ⟨i, hi, rfl, rfl, hn, hB⟩ := hrel
    have HN := Lib.hid hn
    clear hn
    by_cases hlt : i < L.length
    · obtain ⟨a, rfl, A, _⟩ := (h.on hB) i hlt
      obtain ⟨c0, c1, c2, c3⟩ := A
      have hcr : wr.cell? ⟨b, 0, none⟩ = some (.int .i64 x) := by rw [hB.cell (p := ⟨b, 0, none⟩) hbl]; exact hc
      have HC := Lib.hid hcr
      clear hcr hc
      cases hp : p_source x (nth L i) with
      | true =>
        have HP := Lib.hid hp
        clear hp
        go_wp2_with (go_at_call 26; refine (pred_source x b (nth L i) _ HC.out).mono ?_; rintro e w2 ⟨rfl, hb2⟩; rw [HP.out])
        go_ret
        exact ⟨by rw [index_some (fst1_hit hlt HN.out HP.out)]; rfl, hB.trans (hb2.mono hB.size)⟩
      | false =>
        have HP := Lib.hid hp
        clear hp
        go_wp2_with (go_at_call 26; refine (pred_source x b (nth L i) _ HC.out).mono ?_; rintro e w2 ⟨rfl, hb2⟩; rw [HP.out])
        go_roundg (L.length - (i + 1))
        case measure => omega
        case rel => exact ⟨i + 1, by omega, rfl, by go_num, fst1_miss HN.out HP.out, hB.trans (hb2.mono hB.size)⟩
    · have e : i = L.length := by omega
      have hn : Hid (fst1 (fun i => p_source x (nth L i)) L.length = none) := by rw [e] at HN; exact HN.out
      go_wp2
      go_ret
      exact ⟨by rw [index_none hn.out]; rfl, hB⟩


theorem look_index {p : Sn → Bool} {L : List Sn} (hr : right L = true) {i : Nat} (h : fst1 (fun i => p (nth L i)) L.length = some i) : Ln.look p L = some (nth L i) := by unfold Ln.look; rw [hr, if_pos rfl, h]; rfl
theorem look_none {p : Sn → Bool} {L : List Sn} (h : fst1 (fun i => p (nth L i)) L.length = none) : Ln.look p L = none := by
  unfold Ln.look
  split
  · rw [h]; rfl
  · rfl
theorem look_bad {p : Sn → Bool} {L : List Sn} (h : right L = false) : Ln.look p L = none := by unfold Ln.look; rw [h]; rfl
theorem check_to (x : Int) (oa : Option Addr) (cap : Nat) (L : List Sn) (w : World) (h : Sl w oa L) (hl : L.length ≤ 60) (hx : chk L = x) :
    Calls Try.prog 13 #[.slice oa L.length cap] w fun e w' => e = .returned (.int .i64 x) ∧ Below w.heap.size w w' := hx ▸ check_any oa cap L w h hl
/-- The cells of a block of four. -/
structure Box4 (w : World) (g : Nat) (a b c d : Value) : Prop where
  e0 : w.cell? ⟨g, 0, none⟩ = some a
  e1 : w.cell? ⟨g, 1, none⟩ = some b
  e2 : w.cell? ⟨g, 2, none⟩ = some c
  e3 : w.cell? ⟨g, 3, none⟩ = some d
  f0 : w.frozen? ⟨g, 0, none⟩ = false
  f1 : w.frozen? ⟨g, 1, none⟩ = false
  f2 : w.frozen? ⟨g, 2, none⟩ = false
  f3 : w.frozen? ⟨g, 3, none⟩ = false
theorem Blk.box4 {w : World} {g : Nat} {t : TypeId} {a b c d : Value} (h : Blk w g t #[a, b, c, d]) : Box4 w g a b c d := ⟨h.cell 0, h.cell 1, h.cell 2, h.cell 3, h.free 0, h.free 1, h.free 2, h.free 3⟩
theorem Blk.set {w : World} {g : Nat} {t : TypeId} {cs : Array Value} (h : Blk w g t cs) (j : Nat) (v : Value) : Blk (w.setCell ⟨g, j, none⟩ v) g t (cs.setIfInBounds j v) := heap_setCell_same w g j cs t v h
theorem Blk.set4 {w : World} {g : Nat} {t : TypeId} {a b c d : Value} (h : Blk w g t #[a, b, c, d]) (x y z u : Value) :
    Blk ((((w.setCell ⟨g, 0, none⟩ x).setCell ⟨g, 1, none⟩ y).setCell ⟨g, 2, none⟩ z).setCell ⟨g, 3, none⟩ u) g t #[x, y, z, u] := (((h.set 0 x).set 1 y).set 2 z).set 3 u
theorem below_4 {W w : World} {B : Nat} (h : Below B W w) {g : Nat} (hg : B ≤ g) (x y z u : Value) : Below B W ((((w.setCell ⟨g, 0, none⟩ x).setCell ⟨g, 1, none⟩ y).setCell ⟨g, 2, none⟩ z).setCell ⟨g, 3, none⟩ u) :=
  (((h.setCell (p := ⟨g, 0, none⟩) hg x).setCell (p := ⟨g, 1, none⟩) hg y).setCell (p := ⟨g, 2, none⟩) hg z).setCell (p := ⟨g, 3, none⟩) hg u
/-- A block laid just now, in a later world. -/
theorem blk_later {w w2 : World} {cs : Array Value} {t : TypeId} (hb : Below (w.alloc (.cells cs t)).heap.size (w.alloc (.cells cs t)) w2) : Blk w2 w.heap.size t cs := Blk.on (Blk.new' _ _ rfl) hb


set_option maxHeartbeats 1000000 in
theorem first_find (x : Int) (b : Nat) (oa : Option Addr) (cap : Nat) (L : List Sn) (w : World) (h : Sl w oa L) (hl : L.length ≤ 60) (hc : w.cell? ⟨b, 0, none⟩ = some (.int .i64 x)) :
    Calls Try.prog 24 #[.slice oa L.length cap, .func (.func 25) #[] #[.pointer (some ⟨b, 0, none⟩)]] w fun e w' => e = .returned (.tuple #[sv (optV (find L x)), .bool (find L x).isSome]) ∧ Below w.heap.size w w' := by
  have hb0 : ∀ o, Below w.heap.size w (w.alloc o) := fun o => below_al (Below.refl _ _)
  have HB := Lib.hid hb0
  have HC := Lib.hid hc
  have hbl : b < w.heap.size := (cell_plain hc).2
  clear hb0 hc
  cases hf : fst1 (fun i => p_find x (nth L i)) L.length with
  | none =>
    have HF := Lib.hid hf
    have HL : Hid (find L x = none) := look_none hf
    clear hf
    go_enter Try.func24, Try.ntmps24
    go_wp2_with (go_at_call 29; refine (index_find x b oa cap L _ (h.on (HB.out _)) hl (by rw [(HB.out _).cell (p := ⟨b, 0, none⟩) hbl]; exact HC.out)).mono ?_; rintro e w2 ⟨rfl, hb2⟩; have q2 := Lib.hid (blk_later hb2); have q := q2.out.box4; have e0 := q.e0; have e1 := q.e1; have e2 := q.e2; have e3 := q.e3; have f0 := q.f0; have f1 := q.f1; have f2 := q.f2; have f3 := q.f3; clear q; rw [index_none HF.out])
    have R := (q2.out.set4 (.string ⟨#[]⟩) (.int .i64 0) (.int .i64 0) (.int .i64 0)).box4
    obtain ⟨e0, e1, e2, e3, _, _, _, _⟩ := R
    refine bodyPost_ret (v := .tuple #[sv dfl, .bool false]) (by rw [results_cell_tmp rfl]; go_simp; rfl) rfl ⟨?_, ?_⟩
    · rw [HL.out]; rfl
    · exact below_4 ((HB.out _).trans (hb2.mono (HB.out _).size)) (Nat.le_refl _) _ _ _ _
  | some i =>
    have HF := Lib.hid hf
    obtain ⟨hi, _, _⟩ := fst1_some hf
    cases hr : right L with
    | false =>
      have HR : Hid (chk L = 170) := chk_no hr
      have HL : Hid (find L x = none) := look_bad hr
      clear hf hr
      go_enter Try.func24, Try.ntmps24
      go_wp2_with (first
        | (go_at_call 29; refine (index_find x b oa cap L _ (h.on (HB.out _)) hl (by rw [(HB.out _).cell (p := ⟨b, 0, none⟩) hbl]; exact HC.out)).mono ?_; rintro e w2 ⟨rfl, hb2⟩; have q2 := Lib.hid (blk_later hb2); have q := q2.out.box4; have e0 := q.e0; have e1 := q.e1; have e2 := q.e2; have e3 := q.e3; have f0 := q.f0; have f1 := q.f1; have f2 := q.f2; have f3 := q.f3; clear q; rw [index_some HF.out])
        | (go_at_call 13; refine (check_to 170 oa cap L _ ((h.on (HB.out _)).on hb2) hl HR.out).mono ?_; rintro e w3 ⟨rfl, hb3⟩; clear e0 e1 e2 e3 f0 f1 f2 f3; have q3 := Lib.hid (Blk.on q2.out hb3); have q := q3.out.box4; have e0 := q.e0; have e1 := q.e1; have e2 := q.e2; have e3 := q.e3; have f0 := q.f0; have f1 := q.f1; have f2 := q.f2; have f3 := q.f3; clear q))
      have R := (q3.out.set4 (.string ⟨#[]⟩) (.int .i64 0) (.int .i64 0) (.int .i64 0)).box4
      obtain ⟨e0, e1, e2, e3, _, _, _, _⟩ := R
      refine bodyPost_ret (v := .tuple #[sv dfl, .bool false]) (by rw [results_cell_tmp rfl]; go_simp; rfl) rfl ⟨?_, ?_⟩
      · rw [HL.out]; rfl
      · exact below_4 (((HB.out _).trans (hb2.mono (HB.out _).size)).trans (hb3.mono (Nat.le_trans (HB.out _).size hb2.size))) (Nat.le_refl _) _ _ _ _
    | true =>
      have HR : Hid (chk L = 0) := chk_yes hr
      have HL : Hid (find L x = some (nth L i)) := look_index hr hf
      clear hf hr
      go_enter Try.func24, Try.ntmps24
      go_wp2_with (first
        | (go_at_call 29; refine (index_find x b oa cap L _ (h.on (HB.out _)) hl (by rw [(HB.out _).cell (p := ⟨b, 0, none⟩) hbl]; exact HC.out)).mono ?_; rintro e w2 ⟨rfl, hb2⟩; have q2 := Lib.hid (blk_later hb2); have q := q2.out.box4; have e0 := q.e0; have e1 := q.e1; have e2 := q.e2; have e3 := q.e3; have f0 := q.f0; have f1 := q.f1; have f2 := q.f2; have f3 := q.f3; clear q; rw [index_some HF.out])
        | (go_at_call 13; refine (check_to 0 oa cap L _ ((h.on (HB.out _)).on hb2) hl HR.out).mono ?_; rintro e w3 ⟨rfl, hb3⟩; clear e0 e1 e2 e3 f0 f1 f2 f3; have q3 := Lib.hid (Blk.on q2.out hb3); have q := q3.out.box4; have e0 := q.e0; have e1 := q.e1; have e2 := q.e2; have e3 := q.e3; have f0 := q.f0; have f1 := q.f1; have f2 := q.f2; have f3 := q.f3; clear q; obtain ⟨a, rfl, A, _⟩ := ((h.on (HB.out _)).on hb2).on hb3 i hi; obtain ⟨c0, c1, c2, c3⟩ := A))
      have R := (q3.out.set4 (.string (nth L i).nm) (.int .i64 (nth L i).id) (.int .i64 (nth L i).p) (.int .i64 (nth L i).src)).box4
      obtain ⟨e0, e1, e2, e3, _, _, _, _⟩ := R
      refine bodyPost_ret (v := .tuple #[sv (nth L i), .bool true]) (by rw [results_cell_tmp rfl]; go_simp; rfl) rfl ⟨?_, ?_⟩
      · rw [HL.out]; rfl
      · exact below_4 (((HB.out _).trans (hb2.mono (HB.out _).size)).trans (hb3.mono (Nat.le_trans (HB.out _).size hb2.size))) (Nat.le_refl _) _ _ _ _


set_option maxHeartbeats 1000000 in
theorem first_source (x : Int) (b : Nat) (oa : Option Addr) (cap : Nat) (L : List Sn) (w : World) (h : Sl w oa L) (hl : L.length ≤ 60) (hc : w.cell? ⟨b, 0, none⟩ = some (.int .i64 x)) :
    Calls Try.prog 24 #[.slice oa L.length cap, .func (.func 26) #[] #[.pointer (some ⟨b, 0, none⟩)]] w fun e w' => e = .returned (.tuple #[sv (optV (source L x)), .bool (source L x).isSome]) ∧ Below w.heap.size w w' := by
  have hb0 : ∀ o, Below w.heap.size w (w.alloc o) := fun o => below_al (Below.refl _ _)
  have HB := Lib.hid hb0
  have HC := Lib.hid hc
  have hbl : b < w.heap.size := (cell_plain hc).2
  clear hb0 hc
  cases hf : fst1 (fun i => p_source x (nth L i)) L.length with
  | none =>
    have HF := Lib.hid hf
    have HL : Hid (source L x = none) := look_none hf
    clear hf
    go_enter Try.func24, Try.ntmps24
    go_wp2_with (go_at_call 29; refine (index_source x b oa cap L _ (h.on (HB.out _)) hl (by rw [(HB.out _).cell (p := ⟨b, 0, none⟩) hbl]; exact HC.out)).mono ?_; rintro e w2 ⟨rfl, hb2⟩; have q2 := Lib.hid (blk_later hb2); have q := q2.out.box4; have e0 := q.e0; have e1 := q.e1; have e2 := q.e2; have e3 := q.e3; have f0 := q.f0; have f1 := q.f1; have f2 := q.f2; have f3 := q.f3; clear q; rw [index_none HF.out])
    have R := (q2.out.set4 (.string ⟨#[]⟩) (.int .i64 0) (.int .i64 0) (.int .i64 0)).box4
    obtain ⟨e0, e1, e2, e3, _, _, _, _⟩ := R
    refine bodyPost_ret (v := .tuple #[sv dfl, .bool false]) (by rw [results_cell_tmp rfl]; go_simp; rfl) rfl ⟨?_, ?_⟩
    · rw [HL.out]; rfl
    · exact below_4 ((HB.out _).trans (hb2.mono (HB.out _).size)) (Nat.le_refl _) _ _ _ _
  | some i =>
    have HF := Lib.hid hf
    obtain ⟨hi, _, _⟩ := fst1_some hf
    cases hr : right L with
    | false =>
      have HR : Hid (chk L = 170) := chk_no hr
      have HL : Hid (source L x = none) := look_bad hr
      clear hf hr
      go_enter Try.func24, Try.ntmps24
      go_wp2_with (first
        | (go_at_call 29; refine (index_source x b oa cap L _ (h.on (HB.out _)) hl (by rw [(HB.out _).cell (p := ⟨b, 0, none⟩) hbl]; exact HC.out)).mono ?_; rintro e w2 ⟨rfl, hb2⟩; have q2 := Lib.hid (blk_later hb2); have q := q2.out.box4; have e0 := q.e0; have e1 := q.e1; have e2 := q.e2; have e3 := q.e3; have f0 := q.f0; have f1 := q.f1; have f2 := q.f2; have f3 := q.f3; clear q; rw [index_some HF.out])
        | (go_at_call 13; refine (check_to 170 oa cap L _ ((h.on (HB.out _)).on hb2) hl HR.out).mono ?_; rintro e w3 ⟨rfl, hb3⟩; clear e0 e1 e2 e3 f0 f1 f2 f3; have q3 := Lib.hid (Blk.on q2.out hb3); have q := q3.out.box4; have e0 := q.e0; have e1 := q.e1; have e2 := q.e2; have e3 := q.e3; have f0 := q.f0; have f1 := q.f1; have f2 := q.f2; have f3 := q.f3; clear q))
      have R := (q3.out.set4 (.string ⟨#[]⟩) (.int .i64 0) (.int .i64 0) (.int .i64 0)).box4
      obtain ⟨e0, e1, e2, e3, _, _, _, _⟩ := R
      refine bodyPost_ret (v := .tuple #[sv dfl, .bool false]) (by rw [results_cell_tmp rfl]; go_simp; rfl) rfl ⟨?_, ?_⟩
      · rw [HL.out]; rfl
      · exact below_4 (((HB.out _).trans (hb2.mono (HB.out _).size)).trans (hb3.mono (Nat.le_trans (HB.out _).size hb2.size))) (Nat.le_refl _) _ _ _ _
    | true =>
      have HR : Hid (chk L = 0) := chk_yes hr
      have HL : Hid (source L x = some (nth L i)) := look_index hr hf
      clear hf hr
      go_enter Try.func24, Try.ntmps24
      go_wp2_with (first
        | (go_at_call 29; refine (index_source x b oa cap L _ (h.on (HB.out _)) hl (by rw [(HB.out _).cell (p := ⟨b, 0, none⟩) hbl]; exact HC.out)).mono ?_; rintro e w2 ⟨rfl, hb2⟩; have q2 := Lib.hid (blk_later hb2); have q := q2.out.box4; have e0 := q.e0; have e1 := q.e1; have e2 := q.e2; have e3 := q.e3; have f0 := q.f0; have f1 := q.f1; have f2 := q.f2; have f3 := q.f3; clear q; rw [index_some HF.out])
        | (go_at_call 13; refine (check_to 0 oa cap L _ ((h.on (HB.out _)).on hb2) hl HR.out).mono ?_; rintro e w3 ⟨rfl, hb3⟩; clear e0 e1 e2 e3 f0 f1 f2 f3; have q3 := Lib.hid (Blk.on q2.out hb3); have q := q3.out.box4; have e0 := q.e0; have e1 := q.e1; have e2 := q.e2; have e3 := q.e3; have f0 := q.f0; have f1 := q.f1; have f2 := q.f2; have f3 := q.f3; clear q; obtain ⟨a, rfl, A, _⟩ := ((h.on (HB.out _)).on hb2).on hb3 i hi; obtain ⟨c0, c1, c2, c3⟩ := A))
      have R := (q3.out.set4 (.string (nth L i).nm) (.int .i64 (nth L i).id) (.int .i64 (nth L i).p) (.int .i64 (nth L i).src)).box4
      obtain ⟨e0, e1, e2, e3, _, _, _, _⟩ := R
      refine bodyPost_ret (v := .tuple #[sv (nth L i), .bool true]) (by rw [results_cell_tmp rfl]; go_simp; rfl) rfl ⟨?_, ?_⟩
      · rw [HL.out]; rfl
      · exact below_4 (((HB.out _).trans (hb2.mono (HB.out _).size)).trans (hb3.mono (Nat.le_trans (HB.out _).size hb2.size))) (Nat.le_refl _) _ _ _ _


theorem find_any (x : Int) (oa : Option Addr) (cap : Nat) (L : List Sn) (w : World) (h : Sl w oa L) (hl : L.length ≤ 60) :
    Calls Try.prog 8 #[.slice oa L.length cap, .int .i64 x] w fun e w' => e = .returned (.tuple #[sv (optV (find L x)), .bool (find L x).isSome]) ∧ Below w.heap.size w w' := by
  have hb0 : ∀ o o', Below w.heap.size w ((w.alloc o).alloc o') := fun o o' => below_al (below_al (Below.refl _ _))
  have HB := Lib.hid hb0
  have hc : ∀ o', ((w.alloc (.cells #[.int .i64 x] 3)).alloc o').cell? ⟨w.heap.size, 0, none⟩ = some (.int .i64 x) := fun o' => (Blk.on (Blk.new' #[.int .i64 x] 3 rfl) (below_al (Below.refl _ _))).cell 0
  have HC := Lib.hid hc
  obtain ⟨s, hs⟩ : ∃ s, optV (find L x) = s := ⟨_, rfl⟩
  obtain ⟨y, hy⟩ : ∃ y, (find L x).isSome = y := ⟨_, rfl⟩
  have HS : Hid (optV (find L x) = s ∧ (find L x).isSome = y) := ⟨hs, hy⟩
  rw [hs, hy]
  clear hb0 hc hs hy
  go_enter Try.func8, Try.ntmps8
  go_wp2_with (go_at_call 24; refine (first_find x w.heap.size oa cap L _ (h.on (HB.out _ _)) hl (HC.out _)).mono ?_; rintro e w2 ⟨rfl, hb2⟩; rw [HS.out.1, HS.out.2]; unfold sv; have q2 := Lib.hid (blk_later hb2); have q := q2.out.box4; rw [World.size_alloc] at q; have e0 := q.e0; have e1 := q.e1; have e2 := q.e2; have e3 := q.e3; have f0 := q.f0; have f1 := q.f1; have f2 := q.f2; have f3 := q.f3; clear q)
  have q3 := q2.out
  rw [World.size_alloc] at q3
  have R := (q3.set4 (.string s.nm) (.int .i64 s.id) (.int .i64 s.p) (.int .i64 s.src)).box4
  obtain ⟨e0, e1, e2, e3, _, _, _, _⟩ := R
  refine bodyPost_ret (v := .tuple #[sv s, .bool y]) (by rw [results_cell_tmp rfl]; unfold sv; go_simp) rfl ⟨?_, ?_⟩
  · rfl
  · exact below_4 ((HB.out _ _).trans (hb2.mono (HB.out _ _).size)) (Nat.le_succ _) _ _ _ _


theorem source_any (x : Int) (oa : Option Addr) (cap : Nat) (L : List Sn) (w : World) (h : Sl w oa L) (hl : L.length ≤ 60) :
    Calls Try.prog 11 #[.slice oa L.length cap, .int .i64 x] w fun e w' => e = .returned (.tuple #[sv (optV (source L x)), .bool (source L x).isSome]) ∧ Below w.heap.size w w' := by
  have hb0 : ∀ o o', Below w.heap.size w ((w.alloc o).alloc o') := fun o o' => below_al (below_al (Below.refl _ _))
  have HB := Lib.hid hb0
  have hc : ∀ o', ((w.alloc (.cells #[.int .i64 x] 3)).alloc o').cell? ⟨w.heap.size, 0, none⟩ = some (.int .i64 x) := fun o' => (Blk.on (Blk.new' #[.int .i64 x] 3 rfl) (below_al (Below.refl _ _))).cell 0
  have HC := Lib.hid hc
  obtain ⟨s, hs⟩ : ∃ s, optV (source L x) = s := ⟨_, rfl⟩
  obtain ⟨y, hy⟩ : ∃ y, (source L x).isSome = y := ⟨_, rfl⟩
  have HS : Hid (optV (source L x) = s ∧ (source L x).isSome = y) := ⟨hs, hy⟩
  rw [hs, hy]
  clear hb0 hc hs hy
  go_enter Try.func11, Try.ntmps11
  go_wp2_with (go_at_call 24; refine (first_source x w.heap.size oa cap L _ (h.on (HB.out _ _)) hl (HC.out _)).mono ?_; rintro e w2 ⟨rfl, hb2⟩; rw [HS.out.1, HS.out.2]; unfold sv; have q2 := Lib.hid (blk_later hb2); have q := q2.out.box4; rw [World.size_alloc] at q; have e0 := q.e0; have e1 := q.e1; have e2 := q.e2; have e3 := q.e3; have f0 := q.f0; have f1 := q.f1; have f2 := q.f2; have f3 := q.f3; clear q)
  have q3 := q2.out
  rw [World.size_alloc] at q3
  have R := (q3.set4 (.string s.nm) (.int .i64 s.id) (.int .i64 s.p) (.int .i64 s.src)).box4
  obtain ⟨e0, e1, e2, e3, _, _, _, _⟩ := R
  refine bodyPost_ret (v := .tuple #[sv s, .bool y]) (by rw [results_cell_tmp rfl]; unfold sv; go_simp) rfl ⟨?_, ?_⟩
  · rfl
  · exact below_4 ((HB.out _ _).trans (hb2.mono (HB.out _ _).size)) (Nat.le_succ _) _ _ _ _

end Go.Proofs.Ytlbdeabohjokeaa
