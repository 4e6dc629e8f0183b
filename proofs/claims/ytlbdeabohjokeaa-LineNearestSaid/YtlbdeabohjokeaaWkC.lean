/- Check. -/
import Derived.Test.YtlbdeabohjokeaaWkB
import Derived.ChangeAlike
namespace Go.Proofs.Ytlbdeabohjokeaa
open Go.RowKit Mp Ln
open Go.ChangeMaps (setBlock)

def wv (n : Int) : Value := .int .i64 n
theorem zero3 (w : World) : (zeroValue 3).run Try.prog w = .ok (wv 0) w := by kernel_rfl
/-- The Sources seen, and where. -/
def seen (L : List Sn) : Nat → List (Int × Int)
  | 0 => []
  | i + 1 => put (nth L i).src (i : Int) (seen L i)
theorem seen_has (L : List Sn) (k : Int) : ∀ i, (Mp.get k (seen L i)).isSome = (List.range i).any fun j => (nth L j).src == k
  | 0 => rfl
  | i + 1 => by
    show (Mp.get k (put (nth L i).src (i : Int) (seen L i))).isSome = _
    rw [get_put, List.range_succ, List.any_append]
    by_cases e : k = (nth L i).src
    · rw [if_pos e, e]; simp
    · rw [if_neg e, seen_has L k i]
      have : ((nth L i).src == k) = false := by simpa using Ne.symm e
      simp [this]
def last (L : List Sn) (i : Nat) : Int := if i = 0 then 0 else (nth L (i - 1)).id
theorem up_map {w : World} {m : Nat} {l : List (Int × Int)} (h : Mp w m wv l) (k v : Int) :
    ∃ o, (Instr.mapUpdate 46 (.map (some m)) (.int .i64 k) (.int .i64 v)).run Try.prog w = .ok () (setBlock w m o) ∧ Mp (setBlock w m o) m wv (put k v l) := update Try.underlying46 Try.underlying3 h k v
theorem look_to {w : World} {m : Nat} {l : List (Int × Int)} (h : Mp w m wv l) (k x : Int) (b : Bool) (hx : (Mp.get k l).getD 0 = x) (hb : (Mp.get k l).isSome = b) :
    (Instr.lookup 46 (.map (some m)) (.int .i64 k) true).run Try.prog w = .ok (.tuple #[.int .i64 x, .bool b]) w := by
  subst hx; subst hb
  exact look_ok Try.underlying46 Try.underlying3 (zero3 w) h k
theorem _root_.Go.Proofs.Mp.Mp.on {w w' : World} {m : Nat} {l : List (Int × Int)} (h : Mp w m wv l) (k : Below w.heap.size w w') : Mp w' m wv l := by
  obtain ⟨es, c, k1, k2⟩ := h
  exact ⟨es, c, (k.block m (Array.getElem?_eq_some_iff.1 k1).1).trans k1, k2⟩
theorem below_set {W w : World} {m : Nat} (h : Below W.heap.size W w) (o : Obj) (hm : W.heap.size ≤ m) : Below W.heap.size W (setBlock w m o) :=
  ⟨h.os, h.tape, h.output, by simp [setBlock]; exact h.size, fun k hk => by
    have : k ≠ m := by omega
    rw [← h.block k hk]
    simp [setBlock, Ne.symm this]⟩
theorem bad1 {L : List Sn} {i : Nat} (hi : i < L.length) (h : ¬ Fit L i) : right L = false := not_right hi (by
  cases e : ok1 L i with
  | false => rfl
  | true => exact absurd (ok1_fit e) h)

/-- What Check answers. -/
def chk (L : List Sn) : Int := if right L then 0 else 170
theorem chk_yes {L : List Sn} (h : right L = true) : chk L = 0 := by unfold chk; rw [h]; rfl
theorem chk_no {L : List Sn} (h : right L = false) : chk L = 170 := by unfold chk; rw [h]; rfl
set_option maxHeartbeats 1000000 in
theorem check_any (oa : Option Addr) (cap : Nat) (L : List Sn) (w : World) (h : Sl w oa L) (hl : L.length ≤ 60) :
    Calls Try.prog 13 #[.slice oa L.length cap] w fun e w' => e = .returned (.int .i64 (chk L)) ∧ Below w.heap.size w w' := by
  have hmm := @run_makeMap Try.prog
  go_enter Try.func13, Try.ntmps13
  go_wp2
  clear hmm
  go_loopg [3, 5, 12] L.length (fun q v3 _ v12 wr => ∃ i : Nat, i ≤ L.length ∧ q = L.length - i ∧ v12 = .int .i64 i ∧ v3 = .int .i64 (last L i) ∧ good L i = true ∧ Mp wr w.heap.size wv (seen L i) ∧ Below w.heap.size w wr)
  case atStart => exact ⟨0, by omega, by omega, rfl, rfl, rfl, Mp.made _ _, below_al (Below.refl _ _)⟩
  case round =>
    obtain ⟨i, hi, rfl, rfl, rfl, hg, hM, hB⟩ := hrel
    have HG := Lib.hid hg
    clear hg
    by_cases hlt : i < L.length
    · obtain ⟨a, rfl, A, _⟩ := (h.on hB) i hlt
      have c0 := A.c0
      have c1 := A.c1
      have c2 := A.c2
      have c3 := A.c3
      obtain ⟨id, hid⟩ : ∃ id, (nth L i).id = id := ⟨_, rfl⟩
      obtain ⟨p, hp⟩ : ∃ p, (nth L i).p = p := ⟨_, rfl⟩
      obtain ⟨src, hsrc⟩ : ∃ src, (nth L i).src = src := ⟨_, rfl⟩
      obtain ⟨nm, hnm⟩ : ∃ nm, (nth L i).nm = nm := ⟨_, rfl⟩
      obtain ⟨la, hla⟩ : ∃ la, last L i = la := ⟨_, rfl⟩
      rw [hid] at c1
      rw [hp] at c2
      rw [hsrc] at c3
      rw [hnm] at c0
      rw [hla]
      have hbl : ∀ o, Below w.heap.size w (wr.alloc o) := fun o => below_al hB
      have HB := Lib.hid hbl
      have k1 : ∀ o, (Instr.lookup 46 (.map (some w.heap.size)) (.int .i64 src) true).run Try.prog (wr.alloc o) = .ok (.tuple #[.int .i64 ((Mp.get src (seen L i)).getD 0), .bool (dup L i)]) (wr.alloc o) :=
        fun o => look_to (hM.on (below_al (Below.refl _ _))) src _ _ rfl (by rw [seen_has, ← hsrc]; rfl)
      have HI : Hid ((nth L i).id = id ∧ (nth L i).p = p ∧ (nth L i).src = src ∧ last L i = la) := ⟨hid, hp, hsrc, hla⟩
      clear hid hp hsrc hnm hla hbl A
      obtain ⟨x, hx⟩ : ∃ x, (Mp.get src (seen L i)).getD 0 = x := ⟨_, rfl⟩
      rw [hx] at k1
      clear hx
      have hml : w.heap.size < wr.heap.size := by obtain ⟨es, c, k, _⟩ := hM; exact (Array.getElem?_eq_some_iff.1 k).1
      by_cases hf : Fit L i
      · have HF := Lib.hid hf
        obtain ⟨F, hF⟩ := Classical.skolem.1 (fun o => up_map ((hM.on (below_al (o := o) (Below.refl _ _))).same (w' := (wr.alloc o).drew) rfl) src i)
        have hF1 := fun o => (hF o).1
        have hF2 : Hid (∀ o, Mp (setBlock (wr.alloc o).drew w.heap.size (F o)) w.heap.size wv (put src i (seen L i))) := fun o => (hF o).2
        have i1 : ¬ id ≤ la := by
          have := hf.i1; have := hf.i3; have e := HI.out; unfold last at e
          by_cases z : i = 0
          · rw [if_pos z] at e; omega
          · rw [if_neg z] at e; omega
        have i2 : ¬ 1099511627776 < id := by have := hf.i2; have e := HI.out; omega
        have p0 : ¬ p < 0 := by have := hf.p0; have e := HI.out; omega
        have p1 : ¬ id ≤ p := by have := hf.p1; have e := HI.out; omega
        have s1 : ¬ src < 1 := by have := hf.s1; have e := HI.out; omega
        have s2 : ¬ 1152921504606846976 < src := by have := hf.s2; have e := HI.out; omega
        rw [hf.d] at k1
        clear hf hF
        go_wp2
        go_region
        all_goals
          go_wp2
          go_roundg (L.length - (i + 1))
          case measure => omega
          case rel =>
            have e := HI.out
            refine ⟨i + 1, by omega, rfl, by go_num, ?_, good_succ HG.out (fit_ok1 HF.out), ?_, ?_⟩
            · unfold last; rw [if_neg (by omega), show i + 1 - 1 = i by omega, e.1]
            · have := hF2.out (.cells #[.string nm, .int .i64 id, .int .i64 p, .int .i64 src] 25)
              rw [← e.2.2.1] at this ⊢
              exact this
            · exact below_set (HB.out _).drew _ (Nat.le_refl _)
      · have hr := Lib.hid (bad1 hlt hf)
        have hf' : la < id → id ≤ 1099511627776 → 0 ≤ p → p < id → 1 ≤ src → src ≤ 1152921504606846976 → dup L i = false → False := fun a1 a2 a3 a4 a5 a6 a7 => hf (by
          have e := HI.out
          have e4 := e.2.2.2
          unfold last at e4
          have hid : 1 ≤ id := by
            by_cases z : i = 0
            · rw [if_pos z] at e4; omega
            · rw [if_neg z] at e4
              have f := ok1_fit (good_at HG.out (i - 1) (by omega))
              have := f.i1
              omega
          refine ⟨by omega, by omega, ?_, by omega, by omega, by omega, by omega, a7⟩
          by_cases z : i = 0
          · exact .inl z
          · rw [if_neg z] at e4; exact .inr (by omega))
        have HF := Lib.hid hf'
        clear hf hf'
        by_cases i1 : id ≤ la
        · go_wp2
          go_ret
          exact ⟨by rw [chk_no hr.out]; rfl, HB.out _⟩
        · by_cases i2 : 1099511627776 < id
          · go_wp2
            go_ret
            exact ⟨by rw [chk_no hr.out]; rfl, HB.out _⟩
          · by_cases p0 : p < 0
            · go_wp2
              go_ret
              exact ⟨by rw [chk_no hr.out]; rfl, HB.out _⟩
            · by_cases p1 : id ≤ p
              · go_wp2
                go_ret
                exact ⟨by rw [chk_no hr.out]; rfl, HB.out _⟩
              · by_cases s1 : src < 1
                · go_wp2
                  go_ret
                  exact ⟨by rw [chk_no hr.out]; rfl, HB.out _⟩
                · by_cases s2 : 1152921504606846976 < src
                  · go_wp2
                    go_ret
                    exact ⟨by rw [chk_no hr.out]; rfl, HB.out _⟩
                  · cases hd : dup L i with
                    | false => exact absurd hd (fun e => HF.out (by omega) (by omega) (by omega) (by omega) (by omega) (by omega) e)
                    | true =>
                      rw [hd] at k1
                      clear hd
                      go_wp2
                      go_ret
                      exact ⟨by rw [chk_no hr.out]; rfl, HB.out _⟩
    · have e : i = L.length := by omega
      have hr : Hid (right L = true) := by rw [e] at HG; exact HG.out
      go_wp2
      go_ret
      exact ⟨by rw [chk_yes hr.out]; rfl, hB⟩
end Go.Proofs.Ytlbdeabohjokeaa
