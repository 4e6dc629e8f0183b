import Derived.Test.YtankjbppjabcoaaProg
import Derived.Test.YtankjbppjabcoaaPlain
import Derived.WalkKit
import Derived.WalkSpells
import Derived.WalkLawsBesides
import Derived.Lib.Hide
import Derived.Laws.IdiomStrings
namespace Go.Proofs.Ytankjbppjabcoaa
open Go.RowKit Ky

/-- The eight cells, as the walk spells them. -/
def c8 (n : Nat) : Array Value := #[.int .u8 ((n : Int) / 72057594037927936), .int .u8 ((n : Int) / 281474976710656 % 256), .int .u8 ((n : Int) / 1099511627776 % 256), .int .u8 ((n : Int) / 4294967296 % 256),
  .int .u8 ((n : Int) / 16777216 % 256), .int .u8 ((n : Int) / 65536 % 256), .int .u8 ((n : Int) / 256 % 256), .int .u8 ((n : Int) % 256)]
theorem bn_vals (n : Nat) (hn : n < 18446744073709551616) : (n : Int) / 72057594037927936 = ((bn n 7).toNat : Int) ∧ (n : Int) / 281474976710656 % 256 = ((bn n 6).toNat : Int) ∧ (n : Int) / 1099511627776 % 256 = ((bn n 5).toNat : Int) ∧
    (n : Int) / 4294967296 % 256 = ((bn n 4).toNat : Int) ∧ (n : Int) / 16777216 % 256 = ((bn n 3).toNat : Int) ∧ (n : Int) / 65536 % 256 = ((bn n 2).toNat : Int) ∧ (n : Int) / 256 % 256 = ((bn n 1).toNat : Int) ∧ (n : Int) % 256 = ((bn n 0).toNat : Int) := by
  have h7 : (n : Int) / 72057594037927936 = ((n : Int) / 72057594037927936) % 256 := by omega
  refine ⟨?_, ?_, ?_, ?_, ?_, ?_, ?_, ?_⟩
  · rw [h7, bn_val]; rfl
  all_goals (rw [bn_val]; simp)
theorem c8_fx (n : Nat) (hn : n < 18446744073709551616) (j : Nat) (hj : j < (fx n).length) : (c8 n)[j]? = some (.int .u8 ((fx n)[j].toNat : Int)) := by
  obtain ⟨h7, h6, h5, h4, h3, h2, h1, h0⟩ := bn_vals n hn
  have hj' : j < 8 := hj
  match j, hj' with
  | 0, _ => show some (Value.int .u8 _) = some (Value.int .u8 ((bn n 7).toNat : Int)); rw [h7]
  | 1, _ => show some (Value.int .u8 _) = some (Value.int .u8 ((bn n 6).toNat : Int)); rw [h6]
  | 2, _ => show some (Value.int .u8 _) = some (Value.int .u8 ((bn n 5).toNat : Int)); rw [h5]
  | 3, _ => show some (Value.int .u8 _) = some (Value.int .u8 ((bn n 4).toNat : Int)); rw [h4]
  | 4, _ => show some (Value.int .u8 _) = some (Value.int .u8 ((bn n 3).toNat : Int)); rw [h3]
  | 5, _ => show some (Value.int .u8 _) = some (Value.int .u8 ((bn n 2).toNat : Int)); rw [h2]
  | 6, _ => show some (Value.int .u8 _) = some (Value.int .u8 ((bn n 1).toNat : Int)); rw [h1]
  | 7, _ => show some (Value.int .u8 _) = some (Value.int .u8 ((bn n 0).toNat : Int)); rw [h0]
theorem add_at (b o j : Nat) : (⟨b, o, none⟩ : Addr).add j = ⟨b, o + j, none⟩ := by unfold Addr.add; split <;> simp_all
/-- 'string(..)' of a new block's bytes. -/
theorem conv_new (w : World) (C : Array Value) (t : TypeId) (l : Bs) (cap : Nat) (h : ∀ j (hj : j < l.length), C[j]? = some (.int .u8 (l[j].toNat : Int))) :
    (convert 42 9 (.slice (some ⟨w.heap.size, 0, none⟩) l.length cap)).run Try.prog (w.alloc (.cells C t (0, 0))) = .ok (.string (S l)) (w.alloc (.cells C t (0, 0))) :=
  run_convert_bytes_back _ 42 9 5 ⟨w.heap.size, 0, none⟩ cap l Try.underlying42 Try.underlying5 Try.underlying9 fun j hj => by
    rw [add_at, Nat.zero_add, World.cell?_alloc_mark]
    exact h j hj
theorem conv_one (w : World) (b : UInt8) (cap : Nat) : (convert 42 9 (.slice (some ⟨w.heap.size, 0, none⟩) 1 cap)).run Try.prog (w.alloc (.cells #[.int .u8 (b.toNat : Int)] 5 (0, 0))) = .ok (.string (S [b])) (w.alloc (.cells #[.int .u8 (b.toNat : Int)] 5 (0, 0))) :=
  conv_new w _ 5 [b] cap fun j hj => by
    have : j = 0 := by simpa using hj
    subst this
    rfl

theorem conv_at (w : World) (b : UInt8) (cap g : Nat) (hg : g = w.heap.size) : (convert 42 9 (.slice (some ⟨g, 0, none⟩) 1 cap)).run Try.prog (w.alloc (.cells #[.int .u8 (b.toNat : Int)] 5 (0, 0))) = .ok (.string (S [b])) (w.alloc (.cells #[.int .u8 (b.toNat : Int)] 5 (0, 0))) := by
  subst hg; exact conv_one w b cap
theorem below_al {w W : World} {o : Obj} (h : Below w.heap.size w W) : Below w.heap.size w (W.alloc o) := h.alloc h.size o
theorem below_dr {w W : World} (h : Below w.heap.size w W) : Below w.heap.size w W.drew := h.drew
theorem below_tr {w W W' : World} (h : Below w.heap.size w W) (k : Below W.heap.size W W') : Below w.heap.size w W' := h.trans (k.mono h.size)
theorem cell_on {w w' : World} {a : Addr} {u : Value} (h : w.cell? a = some u) (hb : Below w.heap.size w w') : w'.cell? a = some u := (hb.cell (World.block_lt_of_cell? w a h)).trans h
/-- 'string(b)' of one byte that lies in a cell. -/
theorem conv_cell (b : UInt8) (w : World) (g cap : Nat) (h : w.cell? ⟨g, 0, none⟩ = some (.int .u8 (b.toNat : Int))) : (convert 42 9 (.slice (some ⟨g, 0, none⟩) 1 cap)).run Try.prog w = .ok (.string (S [b])) w :=
  run_convert_bytes_back w 42 9 5 ⟨g, 0, none⟩ cap [b] Try.underlying42 Try.underlying5 Try.underlying9 fun j hj => by
    have : j = 0 := by simpa using hj
    subst this
    exact h
theorem fixed_any (n : Nat) (w : World) (hn : n < 18446744073709551616) :
    Calls Try.prog 16 #[.int .u64 (n : Int)] w fun e w' => e = .returned (.string (S (fx n))) ∧ Below w.heap.size w w' := by
  have hcv := conv_new w (c8 n) 54 (fx n) 8 (c8_fx n hn)
  unfold c8 at hcv
  rw [fx_length] at hcv
  go_enter Try.func16, Try.ntmps16
  go_wp2
  refine wp_loop_rounds 9 ?_
  iterate 9 (rw [rounds_succ]; go_wp2)
  go_ret
  exact ⟨rfl, (Below.refl _ _).alloc (Nat.le_refl _) _⟩
theorem rfixed_any (n : Nat) (w : World) (hn : n < 18446744073709551616) :
    Calls Try.prog 18 #[.int .u64 (n : Int)] w fun e w' => e = .returned (.string (S (fx n))) ∧ Below w.heap.size w w' := by
  obtain ⟨h7, h6, h5, h4, h3, h2, h1, h0⟩ := bn_vals n hn
  have hS := Lib.hid (show S (fx n) = S [bn n 7, bn n 6, bn n 5, bn n 4, bn n 3, bn n 2, bn n 1, bn n 0] from rfl)
  generalize bn n 7 = b7 at *
  generalize bn n 6 = b6 at *
  generalize bn n 5 = b5 at *
  generalize bn n 4 = b4 at *
  generalize bn n 3 = b3 at *
  generalize bn n 2 = b2 at *
  generalize bn n 1 = b1 at *
  generalize bn n 0 = b0 at *
  have hc := conv_at
  have hz := S_size
  have ha := S_app
  have he : (⟨#[]⟩ : ByteArray) = S [] := rfl
  go_enter Try.func18, Try.ntmps18
  go_wp2
  refine wp_loop_rounds 9 ?_
  iterate 9 (rw [rounds_succ]; go_wp2)
  go_ret
  exact ⟨by rw [hS.out]; simp, by repeat (first | exact Below.refl _ _ | apply below_al)⟩
end Go.Proofs.Ytankjbppjabcoaa
