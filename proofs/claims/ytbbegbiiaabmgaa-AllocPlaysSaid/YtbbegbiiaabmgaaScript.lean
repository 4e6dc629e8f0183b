/- The script that comes in: a slice of calls, opened to its cells. -/
import Derived.Test.YtbbegbiiaabmgaaFrame
import Derived.Test.YtbbegbiiaabmgaaProg
import Derived.Deep.Slices
import Derived.Deep.Fields
import Derived.ChangeSame
import Derived.ShutString
namespace Go.Proofs.Ytbbegbiiaabmgaa
open Go.ChangeShapes Go.WideShapes Go.Deep Go.ChangeAt Go.RowKit

theorem script_cells {H : Type} {enc : TypeId × Value → H} {w : World} {base : Nat} {sp : Nat → Bool} {held : Bool} {n : Nat} {cs : List Value} {x : DataW H × List MemPlace}
    (h : DataW.trod enc Try.prog w base sp held n 22 cs = some x) :
    cs = [.slice none 0 0] ∨ ∃ (a : Addr) (len cap : Nat), cs = [.slice (some a) len cap] ∧ len ≤ cap ∧ cap ≤ maxLen ∧
      ∀ i, i < len → ∃ k s g : Int, w.cell? (a.add (i * 3)) = some (.int .i64 k) ∧ w.cell? (a.add (i * 3 + 1)) = some (.int .i64 s) ∧ w.cell? (a.add (i * 3 + 2)) = some (.int .i64 g) ∧
        (Lit.int .i64 k).wf = true ∧ (Lit.int .i64 s).wf = true ∧ (Lit.int .i64 g).wf = true := by
  have hC : Try.prog.cellsOf 31 = 3 := by kernel_rfl
  rcases open_slice Try.underlying22 h with ⟨h0, _⟩ | ⟨a, len, cap, m, n', D, Pl, rfl, _, hl, hm, hmm, _, hi⟩
  · exact .inl h0
  · refine .inr ⟨a, len, cap, rfl, hl, hm, fun i hil => ?_⟩
    have him : i < m := by
      rw [hmm]
      split <;> omega
    obtain ⟨cs', hc, ht⟩ := hi i him
    rw [hC] at hc
    obtain ⟨ys, n2, _, _, _, hyl, hf⟩ := DataW.trod_struct Try.underlying31 ht
    obtain ⟨_, hcl, hat⟩ := World.cells?_some hc
    have one : ∀ (j : Nat) (f : Field), (#[{ name := "Kind", type := 3, offset := 0, embedded := false, tag := "", pkgPath := "", byteOffset := 0 },
        { name := "N", type := 3, offset := 1, embedded := false, tag := "", pkgPath := "", byteOffset := 8 },
        { name := "Gen", type := 3, offset := 2, embedded := false, tag := "", pkgPath := "", byteOffset := 16 }] : Array Field)[j]? = some f → j < 3 → f.offset = j → f.type = 3 →
        ∃ z : Int, w.cell? (a.add (i * 3 + j)) = some (.int .i64 z) ∧ (Lit.int .i64 z).wf = true := by
      intro j f hj hj3 ho hty
      have h1 := hf j f hj
      have hk : Try.prog.cellsOf f.type = 1 := by rw [hty]; kernel_rfl
      rw [ho, hk, hty] at h1
      have e1 : (cs'.drop j).take 1 = [cs'[j]'(by omega)] := by
        rw [List.drop_eq_getElem_cons (by omega)]; rfl
      have hcell := hat j hj3
      rw [e1] at h1
      cases hy : ys[j]? with
      | none =>
        have h3 := List.getElem?_eq_none_iff.1 hy
        have h4 : ys.length = 3 := hyl
        omega
      | some y =>
        rw [hy] at h1
        obtain ⟨z, hz, _, hw⟩ := DataW.trod_int Try.underlying3 h1
        refine ⟨z, ?_, hw⟩
        have e2 : cs'[j]'(by omega) = .int .i64 z := by simpa using hz
        rw [← Go.Deep.add_add, hcell, List.getElem?_eq_getElem (by omega), e2]
    obtain ⟨k, hk, wk⟩ := one 0 _ rfl (by omega) rfl rfl
    obtain ⟨s, hs, ws⟩ := one 1 _ rfl (by omega) rfl rfl
    obtain ⟨g, hg, wg⟩ := one 2 _ rfl (by omega) rfl rfl
    exact ⟨k, s, g, hk, hs, hg, wk, ws, wg⟩
/-- A script of so many calls. -/
def Script (w : World) (v : Value) (len : Nat) : Prop :=
  (v = .slice none 0 0 ∧ len = 0) ∨ ∃ (a : Addr) (cap : Nat), v = .slice (some a) len cap ∧ len ≤ cap ∧ cap ≤ maxLen ∧
    ∀ i, i < len → ∃ k s g : Int, w.cell? (a.add (i * 3)) = some (.int .i64 k) ∧ w.cell? (a.add (i * 3 + 1)) = some (.int .i64 s) ∧ w.cell? (a.add (i * 3 + 2)) = some (.int .i64 g) ∧
      (Lit.int .i64 k).wf = true ∧ (Lit.int .i64 s).wf = true ∧ (Lit.int .i64 g).wf = true
theorem script_of {H : Type} {enc : TypeId × Value → H} {w : World} {r : Reach} {b0 base : Nat} {sp : Nat → Bool} {held : Bool} {v : Value} {d : DataW H} {p : List MemPlace}
    (hv : Value.okWide Try.prog w r b0 22 v) (h : DataW.Trod enc Try.prog w base sp held 22 v d p) : ∃ len, Script w v len := by
  obtain ⟨a, len, cap, rfl⟩ := okWide_slice Try.underlying22 hv
  obtain ⟨n, h⟩ := h
  rcases script_cells h with h0 | ⟨a', len', cap', h0, hl, hm, hc⟩
  · refine ⟨0, .inl ⟨?_, rfl⟩⟩
    have h1 : [Value.slice a len cap] = [.slice none 0 0] := h0
    simpa using h1
  · refine ⟨len', .inr ⟨a', cap', ?_, hl, hm, hc⟩⟩
    have h1 : [Value.slice a len cap] = [.slice (some a') len' cap'] := h0
    simpa using h1
end Go.Proofs.Ytbbegbiiaabmgaa
