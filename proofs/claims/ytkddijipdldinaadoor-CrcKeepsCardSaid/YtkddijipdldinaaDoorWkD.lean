import Derived.Test.YtkddijipdldinaaDoorWkC
namespace Go.Proofs.YtkddijipdldinaaDoor
open Go.RowKit Crc

def vals (l : List UInt8) : List Value := l.map fun b => .int .u8 (b.toNat : Int)
theorem vals_length (l : List UInt8) : (vals l).length = l.length := by simp [vals]
def OwnPost (w : World) (l : List UInt8) (e : Ending) (w' : World) : Prop := ∃ v', e = .returned v' ∧ w'.ownsRow w.heap.size 5 1 v' l.length (vals l) ∧ Below w.heap.size w w'
theorem info5 : (Tryd.prog.info? 5).map (fun i => (i.zero, i.size, i.bytes)) = some (some (.int .u8 0), 1, 1) := by kernel_rfl

theorem own_step {W wr w' : World} {l : List UInt8} {k : Nat} {v' v'' : Value} (hk : k < l.length) (hb : Below W.heap.size W wr)
    (hown : wr.ownsRow W.heap.size 5 1 v' k (vals (l.take k)))
    (hown' : w'.ownsRow W.heap.size 5 1 v'' (k + 1) (vals (l.take k) ++ [.int .u8 (l[k].toNat : Int)])) (hg : (wr.alloc (.cells #[.int .u8 (l[k].toNat : Int)] 5 (0, 0))).grownBy w' v'.ownBlock) :
    w'.ownsRow W.heap.size 5 1 v'' (k + 1) (vals (l.take (k + 1))) ∧ Below W.heap.size W w' := by
  have e : vals (l.take (k + 1)) = vals (l.take k) ++ [.int .u8 (l[k].toNat : Int)] := by
    rw [List.take_succ_eq_append_getElem hk]; unfold vals; rw [List.map_append]; rfl
  refine ⟨by rw [e]; exact hown', ?_⟩
  have h1 := hb.alloc hb.size (.cells #[.int .u8 (l[k].toNat : Int)] 5 (0, 0))
  exact h1.grown hg (by have := hb.size; simp; omega) (fun b hb' => (hown.lt b hb').1)

set_option maxHeartbeats 1000000 in
theorem own_any (A : Option Addr) (l : List UInt8) (cap : Nat) (w : World) (hb : Bytes w A l) (hl : l.length ≤ 1000000) :
    Calls Tryd.prog 11 #[.slice A l.length cap] w (OwnPost w l) := by
  obtain ⟨i0, hi, hz0, hz1, hz2⟩ := info_parts info5
  go_enter Tryd.func11, Tryd.ntmps11
  go_wp2
  go_loopw [3, 4] (fun v i wr => ∃ k : Nat, k ≤ l.length ∧ i = .int .i64 k ∧ wr.ownsRow w.heap.size 5 1 v k (vals (l.take k)) ∧ Below w.heap.size w wr) (fun _ i _ => l.length - (intOf i).toNat)
  case atStart => exact ⟨0, Nat.zero_le _, rfl, World.ownsRow_nil _ _ _ _, Below.refl _ _⟩
  case round =>
    obtain ⟨k, hk, rfl, hown, hbel⟩ := hrel
    by_cases hlt : k < l.length
    · obtain ⟨b, o, rfl, hc0⟩ := hb.at_ hlt
      have hc := (hbel.cell (p := ⟨b, o + k, none⟩) (World.block_lt_of_cell? w _ hc0)).trans hc0
      clear hc0
      have hsz := hbel.size
      go_wp2_with (at_builtin; refine wpList_append_own _ rfl _ _ 23 rfl w.heap.size 5 i0 (.int .u8 0) 1 1 Tryd.underlying23 hi hz0 hz1 hz2 rfl (by decide) _ _ _ rfl (hown.alloc _) ⟨_, 0, none⟩ 1 1 [.int .u8 (l[k].toNat : Int)] rfl rfl ?c1 ?c2 ?c3 ?c4 ?c5 ?_)
      case c1 => exact cell_one_new _ _ _
      case c2 => intro u hu; simp at hu; subst hu; rfl
      case c3 => unfold maxLen; omega
      case c4 => omega
      case c5 => simp; omega
      intro v' w1 hown' hgrow _
      have R := own_step hlt hbel hown hown' hgrow
      clear hown hown' hgrow hc hbel
      go_wp2
      go_roundw
      case rel => exact ⟨k + 1, by omega, by go_num, R.1, R.2⟩
      case measure => simp [intOf]; omega
    · go_wp2
      go_ret
      have e : k = l.length := by omega
      subst e
      rw [List.take_length] at hown
      exact ⟨_, rfl, hown, hbel⟩
end Go.Proofs.YtkddijipdldinaaDoor
