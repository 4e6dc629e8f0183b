import Derived.Test.YtankjbppjabcoaaWkB
import Derived.Deep.DeepCutAuto
namespace Go.Proofs.Ytankjbppjabcoaa
open Go.RowKit Ky

theorem bfroz {W w1 : World} (hb : Below W.heap.size W w1) : ∀ b o, b < W.heap.size → w1.frozen? ⟨b, o, none⟩ = W.frozen? ⟨b, o, none⟩ := fun b o h => hb.frozen (p := ⟨b, o, none⟩) h
theorem new_facts {W w1 : World} {c0 c1 c2 c3 : Value} {t : TypeId} (hb : Below (W.alloc (.cells #[c0, c1, c2, c3] t (0, 0))).drew.heap.size (W.alloc (.cells #[c0, c1, c2, c3] t (0, 0))).drew w1) :
    Hid (w1.heap[W.heap.size]? = some (.cells #[c0, c1, c2, c3] t (0, 0))) ∧ (w1.cell? ⟨W.heap.size, 0, none⟩ = some c0 ∧ w1.cell? ⟨W.heap.size, 1, none⟩ = some c1 ∧ w1.cell? ⟨W.heap.size, 2, none⟩ = some c2 ∧ w1.cell? ⟨W.heap.size, 3, none⟩ = some c3) ∧
    w1.frozen? ⟨W.heap.size, 0, none⟩ = false ∧ w1.frozen? ⟨W.heap.size, 1, none⟩ = false ∧ w1.frozen? ⟨W.heap.size, 2, none⟩ = false ∧ w1.frozen? ⟨W.heap.size, 3, none⟩ = false := by
  have hlt : W.heap.size < (W.alloc (.cells #[c0, c1, c2, c3] t (0, 0))).drew.heap.size := by simp [World.drew]
  have h : w1.heap[W.heap.size]? = some (.cells #[c0, c1, c2, c3] t (0, 0)) := (hb.block _ hlt).trans (heap_alloc_new W _)
  exact ⟨h, ⟨cell_of_row w1 _ 0 _ _ _ h, cell_of_row w1 _ 1 _ _ _ h, cell_of_row w1 _ 2 _ _ _ h, cell_of_row w1 _ 3 _ _ _ h⟩, frozen_of_row w1 _ 0 _ _ h, frozen_of_row w1 _ 1 _ _ h, frozen_of_row w1 _ 2 _ _ h, frozen_of_row w1 _ 3 _ _ h⟩
theorem below_st {w W : World} {p : Addr} {u : Value} (h : Below w.heap.size w W) (hp : w.heap.size ≤ p.block) : Below w.heap.size w (W.setCell p u) := h.setCell hp u
/-- A block's four cells. -/
def Four (w : World) (g : Nat) (c0 c1 c2 c3 : Value) : Prop := w.cell? ⟨g, 0, none⟩ = some c0 ∧ w.cell? ⟨g, 1, none⟩ = some c1 ∧ w.cell? ⟨g, 2, none⟩ = some c2 ∧ w.cell? ⟨g, 3, none⟩ = some c3
theorem Four.on {w w' : World} {g : Nat} {c0 c1 c2 c3 : Value} (h : Four w g c0 c1 c2 c3) (hb : Below w.heap.size w w') :
    w'.cell? ⟨g, 0, none⟩ = some c0 ∧ w'.cell? ⟨g, 1, none⟩ = some c1 ∧ w'.cell? ⟨g, 2, none⟩ = some c2 ∧ w'.cell? ⟨g, 3, none⟩ = some c3 ∧ Below w.heap.size w w' :=
  ⟨cell_on h.1 hb, cell_on h.2.1 hb, cell_on h.2.2.1 hb, cell_on h.2.2.2 hb, hb⟩

/-- A block's cells, none frozen. -/
def Blk (w : World) (g : Nat) (t : TypeId) (cs : Array Value) : Prop := w.heap[g]? = some (.cells cs t (0, 0))
theorem Blk.on {w w' : World} {g : Nat} {t : TypeId} {cs : Array Value} (h : Blk w g t cs) (hb : Below w.heap.size w w') : Blk w' g t cs := by
  have hlt : g < w.heap.size := (Array.getElem?_eq_some_iff.1 h).1
  exact (hb.block g hlt).trans h
theorem Blk.cell {w : World} {g : Nat} {t : TypeId} {cs : Array Value} (h : Blk w g t cs) (j : Nat) : w.cell? ⟨g, j, none⟩ = cs[j]? := cell_of_row w g j cs t (0, 0) h
theorem Blk.free {w : World} {g : Nat} {t : TypeId} {cs : Array Value} (h : Blk w g t cs) (j : Nat) : w.frozen? ⟨g, j, none⟩ = false := frozen_of_row w g j cs t h
theorem Blk.set {w : World} {g : Nat} {t : TypeId} {cs : Array Value} (h : Blk w g t cs) (j : Nat) (u : Value) : Blk (w.setCell ⟨g, j, none⟩ u) g t (cs.setIfInBounds j u) := heap_setCell_same w g j cs t u h
theorem Blk.far {w : World} {g b : Nat} {t : TypeId} {cs : Array Value} (h : Blk w g t cs) (hne : g ≠ b) (j : Nat) (u : Value) : Blk (w.setCell ⟨b, j, none⟩ u) g t cs := (heap_setCell_other w ⟨b, j, none⟩ g u hne).trans h
theorem Blk.new (w : World) (cs : Array Value) (t : TypeId) : Blk (w.alloc (.cells cs t (0, 0))) w.heap.size t cs := heap_alloc_new w _
theorem Blk.lt {w : World} {g : Nat} {t : TypeId} {cs : Array Value} (h : Blk w g t cs) : g < w.heap.size := (Array.getElem?_eq_some_iff.1 h).1
theorem made_yes {k : K} {t : Bs} (h : right k) (ht : text k = t) : Ending.returned (.tuple #[.string (S t), .int .i64 0]) = .returned (.tuple #[.string (S (made k).1), .int .i64 (made k).2]) := by
  unfold made; rw [if_pos h, ht]
theorem made_no {k : K} (h : ¬ right k) : Ending.returned (.tuple #[.string (S []), .int .i64 81]) = .returned (.tuple #[.string (S (made k).1), .int .i64 (made k).2]) := by
  unfold made; rw [if_neg h]
theorem made_of {k : K} {t : Bs} {z : Int} (h : (right k ∧ t = text k ∧ z = 0) ∨ (¬ right k ∧ t = [] ∧ z = 81)) : Ending.returned (.tuple #[.string (S t), .int .i64 z]) = .returned (.tuple #[.string (S (made k).1), .int .i64 (made k).2]) := by
  rcases h with ⟨h, rfl, rfl⟩ | ⟨h, rfl, rfl⟩
  · exact made_yes h rfl
  · exact made_no h
theorem kind_ne {a b : UInt8} (h : ¬ a = b) : ((a.toNat : Int) == (b.toNat : Int)) = false := by
  rw [beq_eq_false_iff_ne]
  intro e
  exact h (UInt8.toNat_inj.1 (by omega))
set_option maxHeartbeats 4000000 in
theorem make_any (k : K) (w : World) (hnm : k.name.length ≤ 140737488351232) :
    Calls Try.prog 9 #[.agg #[.int .u8 (k.kind.toNat : Int), .int .i64 k.ino, .string (S k.name), .int .i64 k.index]] w fun e w' => e = .returned (.tuple #[.string (S (made k).1), .int .i64 (made k).2]) ∧ Below w.heap.size w w' := by
  obtain ⟨kind, ino, nm, ix⟩ := k
  replace hnm : nm.length ≤ 140737488351232 := hnm
  go_enter Try.func9, Try.ntmps9
  go_upto_region 1 with fail
  generalize hW : w.alloc (Obj.cells #[Value.int IntKind.u8 ↑kind.toNat, Value.int IntKind.i64 ino, Value.string (S nm), Value.int IntKind.i64 ix] 23) = W0
  have hz : Blk W0 w.heap.size 23 #[.int .u8 (kind.toNat : Int), .int .i64 ino, .string (S nm), .int .i64 ix] := by subst hW; exact Blk.new w _ _
  have hbl : Below w.heap.size w W0 := by subst hW; exact below_al (Below.refl _ _)
  clear hW
  have b0 : W0.cell? ⟨w.heap.size, 0, none⟩ = some (.int .u8 (kind.toNat : Int)) := hz.cell 0
  have b1 : W0.cell? ⟨w.heap.size, 1, none⟩ = some (.int .i64 ino) := hz.cell 1
  have b2 : W0.cell? ⟨w.heap.size, 2, none⟩ = some (.string (S nm)) := hz.cell 2
  have b3 : W0.cell? ⟨w.heap.size, 3, none⟩ = some (.int .i64 ix) := hz.cell 3
  have hlt : w.heap.size < W0.heap.size := World.block_lt_of_cell? W0 _ b0
  go_cut [4, 5] (fun s4 s5 wx => ∃ g : Nat, s4 = .string (S (kind :: fx (un ino))) ∧ s5 = .pointer (some ⟨g, 0, none⟩) ∧
    Blk wx w.heap.size 23 #[.int .u8 (kind.toNat : Int), .int .i64 ino, .string (S nm), .int .i64 ix] ∧
    Blk wx g 23 #[.int .u8 (kind.toNat : Int), .int .i64 ino, .string (S nm), .int .i64 ix] ∧ w.heap.size < g ∧ Below w.heap.size w wx)
  case first =>
    have h4 : Four W0 w.heap.size (.int .u8 (kind.toNat : Int)) (.int .i64 ino) (.string (S nm)) (.int .i64 ix) := ⟨b0, b1, b2, b3⟩
    go_region_held3 (fun w' => w'.cell? ⟨w.heap.size, 0, none⟩ = some (.int .u8 (kind.toNat : Int)) ∧ w'.cell? ⟨w.heap.size, 1, none⟩ = some (.int .i64 ino) ∧ w'.cell? ⟨w.heap.size, 2, none⟩ = some (.string (S nm)) ∧ w'.cell? ⟨w.heap.size, 3, none⟩ = some (.int .i64 ix) ∧ Below W0.heap.size W0 w')
      (first | assumption | (refine h4.on ?_; repeat (first | exact Below.refl _ _ | assumption | (go_split_ands; assumption) | apply below_al | apply below_dr | refine below_tr ?_ hb1 | (refine below_st ?_ (Nat.le_refl _)))))
      (first
        | (go_at_call 15; refine (numbered_any kind ino _).mono ?_; rintro e w1 ⟨rfl, hb1⟩; have hnf := new_facts hb1; obtain ⟨hn, ⟨n0, n1, n2, n3⟩, f0, f1, f2, f3⟩ := hnf)
        | (go_at_call 15; refine (numbered_any kind ino _).mono ?_; rintro e w1 ⟨rfl, hb1⟩))
    · go_wp2_with fail
      go_meet
      go_split_ands
      exact ⟨w1.heap.size, rfl, rfl, hz.on (by assumption), Blk.new w1 _ _, Nat.lt_of_lt_of_le hlt (show W0.heap.size ≤ w1.heap.size from hb1.size), hbl.trans (Below.mono (by assumption) hbl.size)⟩
    · go_wp2_with fail
      go_meet
      go_split_ands
      exact ⟨W0.heap.size, rfl, rfl, hz.on (by assumption), ((((show Blk w1 W0.heap.size 23 _ from hn.out).set 0 _).set 1 _).set 2 _).set 3 _, hlt, hbl.trans (Below.mono (by assumption) hbl.size)⟩
  case rest =>
    obtain ⟨g, rfl, rfl, hB, hG, hBg, hbw⟩ := hcut
    clear hz hbl b0 b1 b2 b3 hlt
    have b0 := hB.cell 0
    have b1 := hB.cell 1
    have b2 := hB.cell 2
    have b3 := hB.cell 3
    have g0 := hG.cell 0
    have g1 := hG.cell 1
    have g2 := hG.cell 2
    have g3 := hG.cell 3
    have f0 := hG.free 0
    have f1 := hG.free 1
    have f2 := hG.free 2
    have f3 := hG.free 3
    have hne : ¬ g = w.heap.size := by omega
    have hBl := hB.lt
    have hGl := hG.lt
    have hbg : w.heap.size ≤ g := Nat.le_of_lt hBg
    clear hB hG hBg
    have htl := S_tl
    have hsz := S_size
    have hap := S_app
    have hfl := fx_length
    have he : (⟨#[]⟩ : ByteArray) = S [] := rfl
    by_cases hk : kind = 110
    · subst hk
      have hcv := conv_cell 110
      go_wp2
      all_goals
        go_region
      all_goals
        go_wp2
      all_goals
        go_ret2
        refine ⟨made_of ?_, ?_⟩
        · clear hbw
          simp_all [right, rightI, text]
          all_goals omega
        · repeat (first | assumption | apply below_al | apply below_dr | (refine below_st ?_ hbg) | (refine below_tr ?_ hb2))
    · have k110 : ((kind.toNat : Int) == 110) = false := kind_ne hk
      by_cases h100 : kind = 100
      · subst h100
        go_wp2
        all_goals
          go_ret2
          refine ⟨made_of ?_, ?_⟩
          · clear hbw
            simp_all [right, rightI, text]
            all_goals omega
          · repeat (first | assumption | apply below_al | apply below_dr | (refine below_st ?_ hbg) | (refine below_tr ?_ hb2))
      · have k100 : ((kind.toNat : Int) == 100) = false := kind_ne h100
        by_cases h120 : kind = 120
        · subst h120
          go_wp2
          all_goals
            go_ret2
            refine ⟨made_of ?_, ?_⟩
            · clear hbw
              simp_all [right, rightI, text]
              all_goals omega
            · repeat (first | assumption | apply below_al | apply below_dr | (refine below_st ?_ hbg) | (refine below_tr ?_ hb2))
        · have k120 : ((kind.toNat : Int) == 120) = false := kind_ne h120
          by_cases h112 : kind = 112
          · subst h112
            have hw := un_wrap ix
            go_wp2_with (go_at_call 16; refine (fixed_any (un ix) _ (un_lt ix)).mono ?_; rintro e w1 ⟨rfl, hb2⟩; have q3 := bcell hb2 w.heap.size 3 (by simpa using hBl); have q4 := bcell hb2 g 0 (by simpa using hGl); have q5 := bcell hb2 g 1 (by simpa using hGl); have q6 := bcell hb2 g 2 (by simpa using hGl); have q7 := bcell hb2 g 3 (by simpa using hGl); have p3 := bfroz hb2 g 3 (by simpa using hGl))
            all_goals
              go_ret2
              refine ⟨made_of ?_, ?_⟩
              · clear hbw hb2
                simp_all [right, rightI, text]
                all_goals omega
              · repeat (first | assumption | apply below_al | apply below_dr | (refine below_st ?_ hbg) | (refine below_tr ?_ hb2))
          · have k112 : ((kind.toNat : Int) == 112) = false := kind_ne h112
            by_cases h105 : kind = 105
            · subst h105
              go_wp2
              all_goals
                go_ret2
                refine ⟨made_of ?_, ?_⟩
                · clear hbw
                  simp_all [right, rightI, text]
                  all_goals omega
                · repeat (first | assumption | apply below_al | apply below_dr | (refine below_st ?_ hbg))
            · have k105 : ((kind.toNat : Int) == 105) = false := kind_ne h105
              go_wp2
              all_goals
                go_ret2
                refine ⟨made_of ?_, ?_⟩
                · clear hbw
                  simp_all [right, rightI, text]
                  all_goals omega
                · repeat (first | assumption | apply below_al | apply below_dr | (refine below_st ?_ hbg))
end Go.Proofs.Ytankjbppjabcoaa
