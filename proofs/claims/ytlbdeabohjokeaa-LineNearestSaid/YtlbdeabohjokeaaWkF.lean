/- The document's Find and Source. Printed by genf.py. -/
import Derived.Test.YtlbdeabohjokeaaWkE
namespace Go.Proofs.Ytlbdeabohjokeaa
open Go.RowKit Mp Ln

theorem rright_to (b : Bool) (oa : Option Addr) (cap : Nat) (L : List Sn) (w : World) (h : Sl w oa L) (hl : L.length ≤ 60) (hb : right L = b) :
    Calls Try.prog 14 #[.slice oa L.length cap] w fun e w' => e = .returned (.bool b) ∧ Below w.heap.size w w' := hb ▸ rright_any oa cap L w h hl

set_option maxHeartbeats 1000000 in
theorem rfind_any (x : Int) (oa : Option Addr) (cap : Nat) (L : List Sn) (w : World) (h : Sl w oa L) (hl : L.length ≤ 60) :
    Calls Try.prog 10 #[.slice oa L.length cap, .int .i64 x] w fun e w' => e = .returned (.tuple #[sv (optV (find L x)), .bool (find L x).isSome]) ∧ Below w.heap.size w w' := by
  cases hr : right L with
  | false =>
    have HL : Hid (find L x = none) := look_bad hr
    have HR := Lib.hid hr
    clear hr
    go_enter Try.func10, Try.ntmps10
    go_wp2
    have q0 : Blk (w.alloc (.cells #[.string ⟨#[]⟩, .int .i64 0, .int .i64 0, .int .i64 0] 25)) w.heap.size 25 #[.string ⟨#[]⟩, .int .i64 0, .int .i64 0, .int .i64 0] := Blk.new' _ _ rfl
    have Q0 := Lib.hid q0
    clear q0
    go_loopg [6] 0 (fun q v6 wq => v6 = .int .i64 0 ∧ Blk wq w.heap.size 25 #[.string ⟨#[]⟩, .int .i64 0, .int .i64 0, .int .i64 0] ∧ Below w.heap.size w wq)
    case atStart => exact ⟨rfl, Q0.out, below_al (Below.refl _ _)⟩
    case round =>
      obtain ⟨rfl, Q, hB⟩ := hrel
      have R := Q.box4
      have e0 := R.e0
      have e1 := R.e1
      have e2 := R.e2
      have e3 := R.e3
      have f0 := R.f0
      have f1 := R.f1
      have f2 := R.f2
      have f3 := R.f3
      clear R
      by_cases hlt : 0 < L.length
      · go_wp2_with (go_at_call 14; refine (rright_to false oa cap L _ (h.on hB) hl HR.out).mono ?_; rintro e w2 ⟨rfl, hb2⟩; clear e0 e1 e2 e3 f0 f1 f2 f3; have q2 := Lib.hid (Blk.on Q hb2); have R := q2.out.box4; have e0 := R.e0; have e1 := R.e1; have e2 := R.e2; have e3 := R.e3; have f0 := R.f0; have f1 := R.f1; have f2 := R.f2; have f3 := R.f3; clear R)
        have R := (q2.out.set4 (.string ⟨#[]⟩) (.int .i64 0) (.int .i64 0) (.int .i64 0)).box4
        obtain ⟨e0, e1, e2, e3, _, _, _, _⟩ := R
        refine bodyPost_ret (v := .tuple #[sv dfl, .bool false]) (by rw [results_cell_tmp rfl]; go_simp; rfl) rfl ⟨?_, ?_⟩
        · rw [HL.out]; rfl
        · exact below_4 (hB.trans (hb2.mono hB.size)) (Nat.le_refl _) _ _ _ _
      · go_wp2
        have R := (Q.set4 (.string ⟨#[]⟩) (.int .i64 0) (.int .i64 0) (.int .i64 0)).box4
        obtain ⟨e0, e1, e2, e3, _, _, _, _⟩ := R
        refine bodyPost_ret (v := .tuple #[sv dfl, .bool false]) (by rw [results_cell_tmp rfl]; go_simp; rfl) rfl ⟨?_, ?_⟩
        · rw [HL.out]; rfl
        · exact below_4 hB (Nat.le_refl _) _ _ _ _
  | true =>
    have HR := Lib.hid hr
    clear hr
    go_enter Try.func10, Try.ntmps10
    go_wp2
    have q0 : Blk (w.alloc (.cells #[.string ⟨#[]⟩, .int .i64 0, .int .i64 0, .int .i64 0] 25)) w.heap.size 25 #[.string ⟨#[]⟩, .int .i64 0, .int .i64 0, .int .i64 0] := Blk.new' _ _ rfl
    have Q0 := Lib.hid q0
    clear q0
    go_loopg [6] L.length (fun q v6 wq => ∃ i : Nat, i ≤ L.length ∧ q = L.length - i ∧ v6 = .int .i64 i ∧ fst1 (fun i => p_find x (nth L i)) i = none ∧ Blk wq w.heap.size 25 #[.string ⟨#[]⟩, .int .i64 0, .int .i64 0, .int .i64 0] ∧ Below w.heap.size w wq)
    case atStart => exact ⟨0, by omega, by omega, rfl, rfl, Q0.out, below_al (Below.refl _ _)⟩
    case round =>
      obtain ⟨i, hi, rfl, rfl, hn, Q, hB⟩ := hrel
      have HN := Lib.hid hn
      clear hn
      by_cases hlt : i < L.length
      · obtain ⟨a, rfl, _, _⟩ := (h.on hB) i hlt
        cases hp : p_find x (nth L i) with
        | true =>
          have HL : Hid (find L x = some (nth L i)) := look_index HR.out (fst1_hit hlt HN.out hp)
          have HP : Hid (((nth L i).id == x) = true) := hp
          clear hp
          go_wp2_with (go_at_call 14; refine (rright_to true _ cap L _ (h.on hB) hl HR.out).mono ?_; rintro e w2 ⟨rfl, hb2⟩; have q2 := Lib.hid (Blk.on Q hb2); have R := q2.out.box4; have e0 := R.e0; have e1 := R.e1; have e2 := R.e2; have e3 := R.e3; have f0 := R.f0; have f1 := R.f1; have f2 := R.f2; have f3 := R.f3; clear R; obtain ⟨a', ha', A, _⟩ := ((h.on hB).on hb2) i hlt; cases ha'; obtain ⟨c0, c1, c2, c3⟩ := A; have hpp := HP.out)
          have R := (q2.out.set4 (.string (nth L i).nm) (.int .i64 (nth L i).id) (.int .i64 (nth L i).p) (.int .i64 (nth L i).src)).box4
          obtain ⟨e0, e1, e2, e3, _, _, _, _⟩ := R
          clear hpp
          refine bodyPost_ret (v := .tuple #[sv (nth L i), .bool true]) (by rw [results_cell_tmp rfl]; go_simp; rfl) rfl ⟨?_, ?_⟩
          · rw [HL.out]; rfl
          · exact below_4 (hB.trans (hb2.mono hB.size)) (Nat.le_refl _) _ _ _ _
        | false =>
          have HP : Hid (((nth L i).id == x) = false) := hp
          clear hp
          go_wp2_with (go_at_call 14; refine (rright_to true _ cap L _ (h.on hB) hl HR.out).mono ?_; rintro e w2 ⟨rfl, hb2⟩; obtain ⟨a', ha', A, _⟩ := ((h.on hB).on hb2) i hlt; cases ha'; obtain ⟨c0, c1, c2, c3⟩ := A; have hpp := HP.out)
          go_roundg (L.length - (i + 1))
          case measure => omega
          case rel => exact ⟨i + 1, by omega, rfl, by go_num, fst1_miss HN.out HP.out, Blk.on Q hb2, hB.trans (hb2.mono hB.size)⟩
      · have e : i = L.length := by omega
        have HL : Hid (find L x = none) := look_none (by rw [e] at HN; exact HN.out)
        have R := Q.box4
        have e0 := R.e0
        have e1 := R.e1
        have e2 := R.e2
        have e3 := R.e3
        have f0 := R.f0
        have f1 := R.f1
        have f2 := R.f2
        have f3 := R.f3
        clear R
        go_wp2
        have R := (Q.set4 (.string ⟨#[]⟩) (.int .i64 0) (.int .i64 0) (.int .i64 0)).box4
        obtain ⟨e0, e1, e2, e3, _, _, _, _⟩ := R
        refine bodyPost_ret (v := .tuple #[sv dfl, .bool false]) (by rw [results_cell_tmp rfl]; go_simp; rfl) rfl ⟨?_, ?_⟩
        · rw [HL.out]; rfl
        · exact below_4 hB (Nat.le_refl _) _ _ _ _

set_option maxHeartbeats 1000000 in
theorem rsource_any (x : Int) (oa : Option Addr) (cap : Nat) (L : List Sn) (w : World) (h : Sl w oa L) (hl : L.length ≤ 60) :
    Calls Try.prog 12 #[.slice oa L.length cap, .int .i64 x] w fun e w' => e = .returned (.tuple #[sv (optV (source L x)), .bool (source L x).isSome]) ∧ Below w.heap.size w w' := by
  cases hr : right L with
  | false =>
    have HL : Hid (source L x = none) := look_bad hr
    have HR := Lib.hid hr
    clear hr
    go_enter Try.func12, Try.ntmps12
    go_wp2
    have q0 : Blk (w.alloc (.cells #[.string ⟨#[]⟩, .int .i64 0, .int .i64 0, .int .i64 0] 25)) w.heap.size 25 #[.string ⟨#[]⟩, .int .i64 0, .int .i64 0, .int .i64 0] := Blk.new' _ _ rfl
    have Q0 := Lib.hid q0
    clear q0
    go_loopg [6] 0 (fun q v6 wq => v6 = .int .i64 0 ∧ Blk wq w.heap.size 25 #[.string ⟨#[]⟩, .int .i64 0, .int .i64 0, .int .i64 0] ∧ Below w.heap.size w wq)
    case atStart => exact ⟨rfl, Q0.out, below_al (Below.refl _ _)⟩
    case round =>
      obtain ⟨rfl, Q, hB⟩ := hrel
      have R := Q.box4
      have e0 := R.e0
      have e1 := R.e1
      have e2 := R.e2
      have e3 := R.e3
      have f0 := R.f0
      have f1 := R.f1
      have f2 := R.f2
      have f3 := R.f3
      clear R
      by_cases hlt : 0 < L.length
      · go_wp2_with (go_at_call 14; refine (rright_to false oa cap L _ (h.on hB) hl HR.out).mono ?_; rintro e w2 ⟨rfl, hb2⟩; clear e0 e1 e2 e3 f0 f1 f2 f3; have q2 := Lib.hid (Blk.on Q hb2); have R := q2.out.box4; have e0 := R.e0; have e1 := R.e1; have e2 := R.e2; have e3 := R.e3; have f0 := R.f0; have f1 := R.f1; have f2 := R.f2; have f3 := R.f3; clear R)
        have R := (q2.out.set4 (.string ⟨#[]⟩) (.int .i64 0) (.int .i64 0) (.int .i64 0)).box4
        obtain ⟨e0, e1, e2, e3, _, _, _, _⟩ := R
        refine bodyPost_ret (v := .tuple #[sv dfl, .bool false]) (by rw [results_cell_tmp rfl]; go_simp; rfl) rfl ⟨?_, ?_⟩
        · rw [HL.out]; rfl
        · exact below_4 (hB.trans (hb2.mono hB.size)) (Nat.le_refl _) _ _ _ _
      · go_wp2
        have R := (Q.set4 (.string ⟨#[]⟩) (.int .i64 0) (.int .i64 0) (.int .i64 0)).box4
        obtain ⟨e0, e1, e2, e3, _, _, _, _⟩ := R
        refine bodyPost_ret (v := .tuple #[sv dfl, .bool false]) (by rw [results_cell_tmp rfl]; go_simp; rfl) rfl ⟨?_, ?_⟩
        · rw [HL.out]; rfl
        · exact below_4 hB (Nat.le_refl _) _ _ _ _
  | true =>
    have HR := Lib.hid hr
    clear hr
    go_enter Try.func12, Try.ntmps12
    go_wp2
    have q0 : Blk (w.alloc (.cells #[.string ⟨#[]⟩, .int .i64 0, .int .i64 0, .int .i64 0] 25)) w.heap.size 25 #[.string ⟨#[]⟩, .int .i64 0, .int .i64 0, .int .i64 0] := Blk.new' _ _ rfl
    have Q0 := Lib.hid q0
    clear q0
    go_loopg [6] L.length (fun q v6 wq => ∃ i : Nat, i ≤ L.length ∧ q = L.length - i ∧ v6 = .int .i64 i ∧ fst1 (fun i => p_source x (nth L i)) i = none ∧ Blk wq w.heap.size 25 #[.string ⟨#[]⟩, .int .i64 0, .int .i64 0, .int .i64 0] ∧ Below w.heap.size w wq)
    case atStart => exact ⟨0, by omega, by omega, rfl, rfl, Q0.out, below_al (Below.refl _ _)⟩
    case round =>
      obtain ⟨i, hi, rfl, rfl, hn, Q, hB⟩ := hrel
      have HN := Lib.hid hn
      clear hn
      by_cases hlt : i < L.length
      · obtain ⟨a, rfl, _, _⟩ := (h.on hB) i hlt
        cases hp : p_source x (nth L i) with
        | true =>
          have HL : Hid (source L x = some (nth L i)) := look_index HR.out (fst1_hit hlt HN.out hp)
          have HP : Hid (((nth L i).src == x) = true) := hp
          clear hp
          go_wp2_with (go_at_call 14; refine (rright_to true _ cap L _ (h.on hB) hl HR.out).mono ?_; rintro e w2 ⟨rfl, hb2⟩; have q2 := Lib.hid (Blk.on Q hb2); have R := q2.out.box4; have e0 := R.e0; have e1 := R.e1; have e2 := R.e2; have e3 := R.e3; have f0 := R.f0; have f1 := R.f1; have f2 := R.f2; have f3 := R.f3; clear R; obtain ⟨a', ha', A, _⟩ := ((h.on hB).on hb2) i hlt; cases ha'; obtain ⟨c0, c1, c2, c3⟩ := A; have hpp := HP.out)
          have R := (q2.out.set4 (.string (nth L i).nm) (.int .i64 (nth L i).id) (.int .i64 (nth L i).p) (.int .i64 (nth L i).src)).box4
          obtain ⟨e0, e1, e2, e3, _, _, _, _⟩ := R
          clear hpp
          refine bodyPost_ret (v := .tuple #[sv (nth L i), .bool true]) (by rw [results_cell_tmp rfl]; go_simp; rfl) rfl ⟨?_, ?_⟩
          · rw [HL.out]; rfl
          · exact below_4 (hB.trans (hb2.mono hB.size)) (Nat.le_refl _) _ _ _ _
        | false =>
          have HP : Hid (((nth L i).src == x) = false) := hp
          clear hp
          go_wp2_with (go_at_call 14; refine (rright_to true _ cap L _ (h.on hB) hl HR.out).mono ?_; rintro e w2 ⟨rfl, hb2⟩; obtain ⟨a', ha', A, _⟩ := ((h.on hB).on hb2) i hlt; cases ha'; obtain ⟨c0, c1, c2, c3⟩ := A; have hpp := HP.out)
          go_roundg (L.length - (i + 1))
          case measure => omega
          case rel => exact ⟨i + 1, by omega, rfl, by go_num, fst1_miss HN.out HP.out, Blk.on Q hb2, hB.trans (hb2.mono hB.size)⟩
      · have e : i = L.length := by omega
        have HL : Hid (source L x = none) := look_none (by rw [e] at HN; exact HN.out)
        have R := Q.box4
        have e0 := R.e0
        have e1 := R.e1
        have e2 := R.e2
        have e3 := R.e3
        have f0 := R.f0
        have f1 := R.f1
        have f2 := R.f2
        have f3 := R.f3
        clear R
        go_wp2
        have R := (Q.set4 (.string ⟨#[]⟩) (.int .i64 0) (.int .i64 0) (.int .i64 0)).box4
        obtain ⟨e0, e1, e2, e3, _, _, _, _⟩ := R
        refine bodyPost_ret (v := .tuple #[sv dfl, .bool false]) (by rw [results_cell_tmp rfl]; go_simp; rfl) rfl ⟨?_, ?_⟩
        · rw [HL.out]; rfl
        · exact below_4 hB (Nat.le_refl _) _ _ _ _
end Go.Proofs.Ytlbdeabohjokeaa
