import Derived.Test.YtankjbppjabcoaaWkA
import Derived.Deep.RegionWith
import Derived.Deep.RegionHeld3
namespace Go.Proofs.Ytankjbppjabcoaa
open Go.RowKit Ky

theorem un_wrap (z : Int) : IntKind.u64.wrap z = (un z : Int) := by
  unfold un
  simp only [IntKind.wrap, IntKind.bits, IntKind.signed]
  simp
  omega
theorem bcell {W w1 : World} (hb : Below W.heap.size W w1) : ∀ b o, b < W.heap.size → w1.cell? ⟨b, o, none⟩ = W.cell? ⟨b, o, none⟩ := fun b o h => hb.cell (p := ⟨b, o, none⟩) h
theorem numbered_any (kind : UInt8) (ino : Int) (w : World) :
    Calls Try.prog 15 #[.int .u8 (kind.toNat : Int), .int .i64 ino] w fun e w' => e = .returned (.string (S (kind :: fx (un ino)))) ∧ Below w.heap.size w w' := by
  have hw := un_wrap ino
  have hcv := conv_cell kind
  have ha := S_app
  have hz := S_size
  have hf := fx_length
  go_enter Try.func15, Try.ntmps15
  go_wp2
  go_region_with (go_at_call 16; refine (fixed_any (un ino) _ (un_lt ino)).mono ?_; rintro e w1 ⟨rfl, hb1⟩; have hcc := bcell hb1)
  all_goals
    go_wp2
    go_ret
    refine ⟨rfl, ?_⟩
    repeat (first | exact Below.refl _ _ | assumption | apply below_al | apply below_dr | refine below_tr ?_ hb1)
end Go.Proofs.Ytankjbppjabcoaa
