/-
  Parts of the proof of the law BitmapCounts (part 1): what the functions it reaches come to, and the plain law. Conditions: those that each theorem names.
-/
import Derived.Test.YthpldfjjdmjcoaaDoorProg
import Derived.Below
import Derived.Deep.Draws
import Derived.Deep.AppendLies
import Derived.Maps.AppendAt
import Derived.OwnWalk
import Derived.Laws.BytesArg
import Derived.Laws.MakeOwn
import Derived.Laws.OwnMore
import Derived.Deep.OwnRows
import Derived.Tactics
import Derived.Lib.ConvBytes
import Derived.Laws.Slices
import Derived.WalkKit
import Derived.KernelRfl
import Derived.RowKit3
import Derived.Deep.LoopGhost
import Derived.Deep.QuietTactic
import Derived.BigQuiet
import Derived.WideLaws
import Derived.Deep.DeepCutAuto
import Derived.Deep.CutBlock
import Derived.Deep.RegionHeld3
import Derived.Laws.Rows
import Derived.Lib.AppendStr
import Derived.ArgAppend
import Derived.Laws.IdiomCopy
import Derived.OrdersHeld
import Derived.Laws.BitsLemmas
import Derived.RowKit
import Derived.Lib.TrailingZeros
import Derived.Test.YthpldfjjdmjcoaaDoorWWords
import Derived.Test.YthpldfjjdmjcoaaDoorWLast
import Derived.Test.YthpldfjjdmjcoaaDoorWTab
import Derived.Test.YthpldfjjdmjcoaaDoorWFour
import Derived.Test.YthpldfjjdmjcoaaDoorWQPut
import Derived.Test.YthpldfjjdmjcoaaDoorWApart
import Derived.Test.YthpldfjjdmjcoaaDoorWArr
import Derived.Test.YthpldfjjdmjcoaaDoorWZeros
import Derived.Test.YthpldfjjdmjcoaaDoorWFoot
import Derived.Test.YthpldfjjdmjcoaaDoorWKept
import Derived.Test.YthpldfjjdmjcoaaDoorWShare
import Derived.Test.YthpldfjjdmjcoaaDoorWN
import Derived.Test.YthpldfjjdmjcoaaDoorWFootNe
import Derived.Test.YthpldfjjdmjcoaaDoorWAt
import Derived.Test.YthpldfjjdmjcoaaDoorWEqStruct
import Derived.Test.YthpldfjjdmjcoaaDoorWRepsOne
import Derived.Test.YthpldfjjdmjcoaaDoorWInv
import Derived.Test.YthpldfjjdmjcoaaDoorWInvWords
import Derived.Test.YthpldfjjdmjcoaaDoorWGuard
import Derived.Test.YthpldfjjdmjcoaaDoorWNEv
import Derived.Test.YthpldfjjdmjcoaaDoorWMore
import Derived.Test.YthpldfjjdmjcoaaDoorRows
import Derived.ProofKit
import Derived.OpenShut
import Derived.Deep.DeepHandedRow
import Derived.Deep.SlicePairs
import Derived.Lib.LaidTab
import Derived.Lib.SmallJoins
import Derived.Laws.Bits64
import Derived.StillTailTactics
import Derived.Laws.AppendOwnNone
import Derived.Lib.SliceRun
import Derived.RangeFuncNested
import Derived.RangeFuncBound
import Derived.RangeFuncCalls
import Derived.RangeFuncLeaves
import Derived.Shelf.Abstract
import Derived.Shelf.RegionOpen
import Derived.OwnWalkIn
import Derived.TacticsInMore
import Derived.LoopNIn
import Derived.LoopIn
import Derived.Shelf.Spec.TrailingZeros
import Derived.Sort.BigQuietIn
import Derived.Outline
namespace Go.Proofs.YthpldfjjdmjcoaaDoor.P
open Go.RowKit Go.Proofs.YthpldfjjdmjcoaaDoorW.PrintWords Go.Proofs.YthpldfjjdmjcoaaDoorW.PrintLast Go.Proofs.YthpldfjjdmjcoaaDoorW.PrintMore
attribute [local go_sem] max2_int min2_int max_two min_two max_three min_three max_four min_four   -- for this text's walks alone
set_option linter.unusedVariables false
set_option linter.unusedSimpArgs false
def errW : Option Int → Value
  | none => .nilIface
  | some c => .iface 0 (.int .i64 c)
theorem errW_none : errW none = .nilIface := rfl
theorem errW_some (c : Int) : errW (some c) = .iface 0 (.int .i64 c) := rfl
/-- The library's table of 64 numbers, as its initialiser lays it. -/
structure TabOK (w : World) : Prop where
  lt : 0 < w.heap.size
  out : ∀ j, j < Lib.deBruijn64tab.length → w.cell? ⟨0, j, none⟩ = some (.int .u8 (Lib.deBruijn64tab.getD j 0))
theorem TabOK.below {w w1 : World} (h : TabOK w) (hb : Below w.heap.size w w1) : TabOK w1 := ⟨Nat.lt_of_lt_of_le h.lt hb.size, fun j hj => pw_cell_below hb (h.out j hj)⟩
theorem info55 : (Tryd.prog.info? 55).map (fun i => (i.zero, i.size, i.bytes)) = some (some (.int .u64 0), 1, 8) := by kernel_rfl
structure S24 where
  f0 : Int
  f1 : (List Int)
def z24 : S24 := ⟨(0 : Int), ([] : List Int)⟩
def k24 : Kd S24 := Kd.iso (Kd.pair (Kd.int .i64) (Kd.slice 55 (Kd.int .u64))) (fun x : S24 => (x.f0, x.f1))
theorem k24_open {w : World} {x : S24} {cs : List Value} (h : k24.K w x cs) : ∃ A1 c1, cs = [.int .i64 x.f0, .slice A1 x.f1.length c1] ∧ x.f1.length ≤ c1 ∧ (Kd.int .u64).C w A1 x.f1.length x.f1 := by
  obtain ⟨_, _, rfl, rfl, ⟨A1, c1, rfl, l1, g1⟩⟩ := h
  exact ⟨A1, c1, rfl, l1, g1⟩
theorem k24_mk (w : World) (x : S24) {A1 : Option Addr} {c1 : Nat} (l1 : x.f1.length ≤ c1) (g1 : (Kd.int .u64).C w A1 x.f1.length x.f1) : k24.K w x [.int .i64 x.f0, .slice A1 x.f1.length c1] := ⟨[.int .i64 x.f0], [.slice A1 x.f1.length c1], rfl, rfl, ⟨A1, c1, rfl, l1, g1⟩⟩
theorem k24_mkF (W : World) (ok : Nat → Prop) (x : S24) {A1 : Option Addr} {c1 : Nat} (l1 : x.f1.length ≤ c1) (g1 : Kd.F (Kd.int .u64) W ok A1 x.f1.length x.f1) : Kd.FK k24 W ok x [.int .i64 x.f0, .slice A1 x.f1.length c1] := fun W2 hW => k24_mk W2 x l1 (g1 W2 hW)
def rd_T24 (xs : List S24) (i : Int) : S24 := xs.getD i.toNat z24
theorem at_T24 {w : World} {A : Option Addr} {n : Nat} {xs : List S24} (h : Kd.C k24 w A n xs) (i : Int) (h0 : 0 ≤ i) (h1 : i < n) : ∃ ad A1 c1, A = some ad ∧ w.cell? (ad.add (i.toNat * 2)) = some (.int .i64 (rd_T24 xs i).f0) ∧ w.cell? ⟨(ad.add (i.toNat * 2)).block, (ad.add (i.toNat * 2)).off + 1, none⟩ = some (.slice A1 (rd_T24 xs i).f1.length c1) ∧ (rd_T24 xs i).f1.length ≤ c1 ∧ (Kd.int .u64).C w A1 (rd_T24 xs i).f1.length (rd_T24 xs i).f1 := by
  obtain ⟨ad, c, e, _, hK, hc0⟩ := Kd.C_get h z24 i h0 h1
  have hc : ∀ j u, c[j]? = some u → w.cell? (ad.add (i.toNat * 2 + j)) = some u := hc0
  obtain ⟨A1, c1, rfl, l1, g1⟩ := k24_open hK
  exact ⟨ad, A1, c1, e, hc 0 _ rfl, by rw [← add_field _ _ 1 (by omega)]; exact hc 1 _ rfl, l1, g1⟩
structure S26 where
  f0 : Int
  f1 : Int
def z26 : S26 := ⟨(0 : Int), (0 : Int)⟩
def k26 : Kd S26 := Kd.iso (Kd.pair (Kd.int .i64) (Kd.int .i64)) (fun x : S26 => (x.f0, x.f1))
theorem k26_open {w : World} {x : S26} {cs : List Value} (h : k26.K w x cs) : cs = [.int .i64 x.f0, .int .i64 x.f1] := by
  obtain ⟨_, _, rfl, rfl, rfl⟩ := h
  exact rfl
theorem k26_mkM (w : World) (base : Nat) (ok : Nat → Prop) (x : S26)  : k26.M w base ok x [.int .i64 x.f0, .int .i64 x.f1] := ⟨[.int .i64 x.f0], [.int .i64 x.f1], rfl, rfl, rfl⟩
def rd_T26 (xs : List S26) (i : Int) : S26 := xs.getD i.toNat z26
theorem at_T26 {w : World} {A : Option Addr} {n : Nat} {xs : List S26} (h : Kd.C k26 w A n xs) (i : Int) (h0 : 0 ≤ i) (h1 : i < n) : ∃ ad , A = some ad ∧ w.cell? (ad.add (i.toNat * 2)) = some (.int .i64 (rd_T26 xs i).f0) ∧ w.cell? ⟨(ad.add (i.toNat * 2)).block, (ad.add (i.toNat * 2)).off + 1, none⟩ = some (.int .i64 (rd_T26 xs i).f1) := by
  obtain ⟨ad, c, e, _, hK, hc0⟩ := Kd.C_get h z26 i h0 h1
  have hc : ∀ j u, c[j]? = some u → w.cell? (ad.add (i.toNat * 2 + j)) = some u := hc0
  obtain rfl := k26_open hK
  exact ⟨ad, e, hc 0 _ rfl, by rw [← add_field _ _ 1 (by omega)]; exact hc 1 _ rfl⟩
end Go.Proofs.YthpldfjjdmjcoaaDoor.P

namespace Go.Proofs.YthpldfjjdmjcoaaDoor.P
open Go.ChangeShapes Go.WideShapes Go.ChangeAt Go.RowKit Go.Deep Go.Joins Go.Proofs.YthpldfjjdmjcoaaDoorW.PrintWords Go.Proofs.YthpldfjjdmjcoaaDoorW.PrintLast Go.Proofs.YthpldfjjdmjcoaaDoorW.PrintMore
theorem laidOut : laidOutB Tryd.prog = true := by kernel_rfl
theorem wf_u64_out {n : Int} (h : (Lit.int .u64 n).wf = true) : 0 ≤ n ∧ n < 18446744073709551616 := by
  have := h
  simp [Lit.wf, IntKind.min, IntKind.max, IntKind.bits, IntKind.signed] at this
  omega
theorem F_of_C {k : IntKind} {W : World} {A : Option Addr} {n : Nat} {xs : List Int} (h : Kd.C (Kd.int k) W A n xs) : Kd.F (Kd.int k) W (fun _ => True) A n xs := fun W' hW =>
  ⟨h.1, h.2.1, fun h0 => by
    obtain ⟨ad, e, hc⟩ := h.2.2 h0
    refine ⟨ad, e, fun j p hj => ?_⟩
    obtain ⟨c, hl, hr, hcell⟩ := hc j p hj
    refine ⟨c, hl, hr, fun i u hu => ?_⟩
    have hw := hcell i u hu
    exact (World.cell?_of_block (hW _ trivial (World.block_lt_of_cell? W _ hw))).trans hw⟩
section
variable {H : Type} {enc : TypeId × Value → H} {W : World}
theorem ints_of {fuel : Nat} {v : Value} {x : DataW H × List MemPlace} {A : Option Addr} {len cap : Nat} (hv : v = .slice A len cap) (h : DataW.trod enc Tryd.prog W 0 (fun _ => true) true fuel 22 [v] = some x) :
    ∃ l : List Int, len = l.length ∧ l.length ≤ cap ∧ Kd.C (Kd.int .u64) W A l.length l ∧ ∀ n ∈ l, (Lit.int .u64 n).wf = true := by
  subst hv
  have key : (A = none ∧ len = 0 ∧ cap = 0 ∧ ([] : List Int) = []) ∨ ∃ (zs : List Int) (x : Addr), A = some x ∧ len ≤ cap ∧ cap ≤ maxLen ∧ zs.length = cap ∧ (∀ i, i < zs.length → W.cell? (x.add i) = some (.int .u64 (zs.getD i 0))) ∧ ∀ n ∈ zs, (Lit.int .u64 n).wf = true := by
    rcases open_ints Tryd.underlying22 Tryd.underlying55 (by kernel_rfl) h with ⟨hcs, _⟩ | ⟨x, l, c, zs, hcs, _, hl, hm, hz, _, hcell, hwz⟩
    · simp at hcs
      obtain ⟨rfl, rfl, rfl⟩ := hcs
      exact .inl ⟨rfl, rfl, rfl, rfl⟩
    · simp at hcs
      obtain ⟨rfl, rfl, rfl⟩ := hcs
      exact .inr ⟨zs, _, rfl, hl, hm, by simpa using hz, hcell, hwz⟩
  have key2 : ∃ zs : List Int, (A = none ∧ len = 0 ∧ cap = 0 ∧ zs = []) ∨ ∃ x, A = some x ∧ len ≤ cap ∧ cap ≤ maxLen ∧ zs.length = cap ∧ (∀ i, i < zs.length → W.cell? (x.add i) = some (.int .u64 (zs.getD i 0))) ∧ ∀ n ∈ zs, (Lit.int .u64 n).wf = true := by
    rcases key with h1 | ⟨zs, h1⟩
    · exact ⟨[], .inl h1⟩
    · exact ⟨zs, .inr h1⟩
  obtain ⟨zs, hz⟩ := key2
  obtain ⟨l, e, h1, _, h3, h4⟩ := ReadsInt.ofRowC hz
  exact ⟨l, e, h4, Kd.C_of_reads (d := (0 : Int)) (h1 := fun _ => rfl) h1, h3⟩
/-- A bitmap. -/
theorem open_bitmap {v : Value} {d : DataW H} {p : List MemPlace} (hv : Value.okWide Tryd.prog W .any 0 24 v ∨ ∃ b, Value.okWide Tryd.prog W .any b 24 v) (h : DataW.Trod enc Tryd.prog W 0 (fun _ => true) true 24 v d p) :
    ∃ (s : Int) (A : Option Addr) (c : Nat) (l : List Int), v = .agg #[.int .i64 s, .slice A l.length c] ∧ (Lit.int .i64 s).wf = true ∧ (∀ n ∈ l, 0 ≤ n ∧ n < 18446744073709551616) ∧ l.length ≤ c ∧ Kd.C (Kd.int .u64) W A l.length l ∧ Kd.V (Kd.int .u64) 55 W W.heap.size (fun _ => True) (.slice A l.length c) l := by
  obtain ⟨b, hv⟩ : ∃ b, Value.okWide Tryd.prog W .any b 24 v := by
    rcases hv with h | h
    · exact ⟨_, h⟩
    · exact h
  obtain ⟨v0, v1, y0, y1, n, rfl, rfl, rfl, h0, h1⟩ := open_agg2 Tryd.underlying24 (by kernel_rfl) (by kernel_rfl) hv h
  obtain ⟨s, hs, hy, hw⟩ := DataW.trod_int Tryd.underlying3 h0
  obtain rfl : v0 = .int .i64 s := by simpa using hs
  obtain ⟨A, len, cap, hcs⟩ : ∃ A len cap, v1 = .slice A len cap := by
    rcases open_ints Tryd.underlying22 Tryd.underlying55 (by kernel_rfl) h1 with ⟨hcs, _⟩ | ⟨x, l, c, zs, hcs, _⟩
    · exact ⟨_, _, _, by simpa using hcs⟩
    · exact ⟨_, _, _, by simpa using hcs⟩
  obtain ⟨l, rfl, hlc, hC, hwf⟩ := ints_of hcs h1
  exact ⟨s, A, cap, l, by rw [hcs], hw, fun n hn => wf_u64_out (hwf n hn), hlc, hC, Kd.V_mk hlc (F_of_C hC)⟩
/-- An argument reads behind the call as it read before. -/
theorem back {t : TypeId} (hr : Tryd.prog.readableRec t = true) (hrow : t < Tryd.prog.types.size) {W' : World} {v : Value} {d : DataW H} {ps : List MemPlace} (h : DataW.Trod enc Tryd.prog W 0 (fun _ => true) true t v d ps) (hb : Below W.heap.size W W') :
    DataW.Trod enc Tryd.prog W' 0 (fun b => decide (b < W.heap.size)) true t v d ps :=
  Below.trod laidOut hr hrow h hb (by obtain ⟨m, hm⟩ := h; exact DataW.trod_lt m _ _ _ hm)
end
end Go.Proofs.YthpldfjjdmjcoaaDoor.P

namespace Go.Proofs.YthpldfjjdmjcoaaDoor.P
open Go.RowKit Go.Proofs.YthpldfjjdmjcoaaDoorW.PrintWords Go.Proofs.YthpldfjjdmjcoaaDoorW.PrintLast Go.Proofs.YthpldfjjdmjcoaaDoorW.PrintMore
attribute [local go_sem] max2_int min2_int max_two min_two max_three min_three max_four min_four   -- for this text's walks alone
set_option linter.unusedVariables false
set_option linter.unusedSimpArgs false
def l02few.l0 : Nat → List (S24) → Int → Option (Bool)
  | 0, _, _ => none
  | k + 1, x0, x3 => if x3 < (x0.length : Int) then (if 0 ≤ x3 then (if (((rd_T24 x0 x3).f1).length : Int) > 20 then (some false) else (l02few.l0 k x0 (wrap64 (x3 + 1)))) else (none)) else (some true)
def l02few.f (k : Nat) (l0 : List (S24)) : Option (Bool) := l02few.l0 k l0 0
set_option maxHeartbeats 8000000 in
set_option maxRecDepth 100000 in
theorem l02few.calls (k : Nat) (A0 : Option Addr) (c0 : Nat) (l0 : List (S24)) (r : Bool) (w : World) (hr0 : Kd.C k24 w A0 l0.length l0) (hc0 : l0.length ≤ c0) (h : l02few.f k l0 = some r) :
    Calls Tryd.prog 11 #[.slice A0 l0.length c0] w fun e w' => e = .returned (.bool r) ∧ Drawn0 w w' := by
  have HR0 := Aside0.mk hr0
  have HC0 := Aside0.mk hc0
  clear hr0 hc0
  have H : (l02few.l0 k l0 0) = some r := h
  clear h
  have H' := Aside0.mk H
  clear H
  go_enter Tryd.func11, Tryd.ntmps11
  go_wp2
  go_loopg [3] k (fun kq v3 w' => ∃ (x3_1 : Int), v3 = .int .i64 x3_1 ∧ Aside0 (l02few.l0 kq l0 x3_1 = some r) ∧ Aside0 (kq ≤ k) ∧ Drawn0 w w')
  case atStart => exact ⟨(0), (by first | rfl | (simp; done) | (simp [*]; done)), H', ⟨Nat.le_refl _⟩, by repeat (first | exact Drawn0.refl _ | apply Drawn0.step)⟩
  case round =>
    clear H'
    try clear c1
    obtain ⟨x3_1, rfl, HA, HK1, ⟨m1, rfl⟩⟩ := hrel
    cases gk with
    | zero => exact absurd HA.out (by simp [l02few.l0])
    | succ k1 =>
      have H := HA.out
      clear HA
      simp only [l02few.l0] at H
      by_cases c2 : x3_1 < (l0.length : Int)
      · rw [if_pos c2] at H
        have c2b0 : decide (x3_1 < (l0.length : Int)) = true := decide_eq_true c2
        clear c2
        by_cases c3 : 0 ≤ x3_1
        · rw [if_pos c3] at H
          have c3b0 : decide (0 ≤ x3_1) = true := decide_eq_true c3
          clear c3
          by_cases c4 : (((rd_T24 l0 x3_1).f1).length : Int) > 20
          · rw [if_pos c4] at H
            have c4b0 : decide (20 < (((rd_T24 l0 x3_1).f1).length : Int)) = true := decide_eq_true c4
            have c4b1 : decide (20 < ((rd_T24 l0 x3_1).f1).length) = true := decide_eq_true (by omega)
            clear c4
            obtain rfl := Option.some.inj H
            have p101 : 0 ≤ (x3_1 : Int) := of_decide_eq_true (by first | (with_reducible assumption) | assumption)
            have q101 : x3_1 < (l0.length : Int) := of_decide_eq_true (by first | (with_reducible assumption) | assumption)
            obtain ⟨ad101, A101_1, c101_1, e101, hx101_0, hx101_1, hl101_1, hi101_1⟩ := at_T24 HR0.out x3_1 p101 q101
            cases e101
            have HR101_1 := Aside0.mk hi101_1
            have HC101_1 := Aside0.mk hl101_1
            clear hi101_1 hl101_1
            replace p101 := eq_true p101
            replace q101 := eq_true q101
            go_wp2
            go_ret
            exact ⟨by first | rfl | (simp; done) | (simp [*]; done), by repeat (first | exact Drawn0.refl _ | apply Drawn0.step)⟩
          · rw [if_neg c4] at H
            have c4b0 : decide (20 < (((rd_T24 l0 x3_1).f1).length : Int)) = false := decide_eq_false c4
            have c4b1 : decide (20 < ((rd_T24 l0 x3_1).f1).length) = false := decide_eq_false (by omega)
            clear c4
            have H' := Aside0.mk H
            clear H
            have p101 : 0 ≤ (x3_1 : Int) := of_decide_eq_true (by first | (with_reducible assumption) | assumption)
            have q101 : x3_1 < (l0.length : Int) := of_decide_eq_true (by first | (with_reducible assumption) | assumption)
            obtain ⟨ad101, A101_1, c101_1, e101, hx101_0, hx101_1, hl101_1, hi101_1⟩ := at_T24 HR0.out x3_1 p101 q101
            cases e101
            have HR101_1 := Aside0.mk hi101_1
            have HC101_1 := Aside0.mk hl101_1
            clear hi101_1 hl101_1
            replace p101 := eq_true p101
            replace q101 := eq_true q101
            go_wp2
            go_roundg k1
            case measure => have := HK1.out; omega
            case rel => exact ⟨(wrap64 (x3_1 + 1)), (by first | rfl | (simp; done) | (simp [*]; done)), H', ⟨by have := HK1.out; omega⟩, by repeat (first | exact Drawn0.refl _ | apply Drawn0.step)⟩
        · rw [if_neg c3] at H
          exact absurd H (by simp)
      · rw [if_neg c2] at H
        have c2b0 : decide (x3_1 < (l0.length : Int)) = false := decide_eq_false c2
        clear c2
        obtain rfl := Option.some.inj H
        go_wp2
        go_ret
        exact ⟨by first | rfl | (simp; done) | (simp [*]; done), by repeat (first | exact Drawn0.refl _ | apply Drawn0.step)⟩
def r02bit.f (a0_0 : Int) (l0_1 : List Int) (a1 : Int) : Option (Bool) := if 0 ≤ (wrap64 (Int.tdiv a1 64)) then (if (wrap64 (Int.tdiv a1 64)) < (l0_1.length : Int) then (if 0 ≤ (IntKind.u64.wrap (Int.tmod a1 64)) then (some ((Go.bits .and .u64 (shr .u64 (rd l0_1 (wrap64 (Int.tdiv a1 64))) (IntKind.u64.wrap (Int.tmod a1 64))) 1) == 1)) else (none)) else (none)) else (none)
set_option maxHeartbeats 8000000 in
set_option maxRecDepth 100000 in
theorem r02bit.calls (a0_0 : Int) (A0_1 : Option Addr) (c0_1 : Nat) (l0_1 : List Int) (a1 : Int) (r : Bool) (w : World) (hr0_1 : Kd.C (Kd.int .u64) w A0_1 l0_1.length l0_1) (hc0_1 : l0_1.length ≤ c0_1) (h : r02bit.f a0_0 l0_1 a1 = some r) :
    Calls Tryd.prog 44 #[.agg #[.int .i64 a0_0, .slice A0_1 l0_1.length c0_1], .int .i64 a1] w fun e w' => e = .returned (.bool r) ∧ Below w.heap.size w w' := by
  have hu24 := Tryd.underlying24
  have HR0_1 := Aside0.mk hr0_1
  have HC0_1 := Aside0.mk hc0_1
  clear hr0_1 hc0_1
  have HB := Aside0.mk (Below.refl w.heap.size w)
  have H : (if 0 ≤ (wrap64 (Int.tdiv a1 64)) then (if (wrap64 (Int.tdiv a1 64)) < (l0_1.length : Int) then (if 0 ≤ (IntKind.u64.wrap (Int.tmod a1 64)) then (some ((Go.bits .and .u64 (shr .u64 (rd l0_1 (wrap64 (Int.tdiv a1 64))) (IntKind.u64.wrap (Int.tmod a1 64))) 1) == 1)) else (none)) else (none)) else (none)) = some r := h
  clear h
  obtain ⟨ji3, hji3⟩ : ∃ j_ : Int, (wrap64 (Int.tdiv a1 64)) = j_ := ⟨_, rfl⟩
  replace H : (if 0 ≤ (ji3) then (if (ji3) < (l0_1.length : Int) then (if 0 ≤ (IntKind.u64.wrap (Int.tmod a1 64)) then (some ((Go.bits .and .u64 (shr .u64 (rd l0_1 (ji3)) (IntKind.u64.wrap (Int.tmod a1 64))) 1) == 1)) else (none)) else (none)) else (none)) = some r := by first | (rw [hji3] at H; exact H) | (simp only [hji3] at H ⊢; exact H)
  have hji3w : (IntKind.i64.wrap (Int.tdiv a1 64)) = ji3 := (i64_w _).trans hji3
  by_cases c4 : 0 ≤ (ji3)
  · rw [if_pos c4] at H
    have c4b0 : decide (0 ≤ (ji3)) = true := decide_eq_true c4
    clear c4
    by_cases c5 : (ji3) < (l0_1.length : Int)
    · rw [if_pos c5] at H
      have c5b0 : decide ((ji3) < (l0_1.length : Int)) = true := decide_eq_true c5
      clear c5
      obtain ⟨ji6, hji6⟩ : ∃ j_ : Int, (IntKind.u64.wrap (Int.tmod a1 64)) = j_ := ⟨_, rfl⟩
      replace H : (if 0 ≤ (ji6) then (some ((Go.bits .and .u64 (shr .u64 (rd l0_1 (ji3)) (ji6)) 1) == 1)) else (none)) = some r := by first | (rw [hji6] at H; exact H) | (simp only [hji6] at H ⊢; exact H)
      by_cases c7 : 0 ≤ (ji6)
      · rw [if_pos c7] at H
        have c7b0 := eq_true c7
        have c7b1 : decide (0 ≤ (ji6)) = true := decide_eq_true c7
        clear c7
        obtain ⟨ji8, hji8⟩ : ∃ j_ : Int, (shr .u64 (rd l0_1 (ji3)) (ji6)) = j_ := ⟨_, rfl⟩
        replace H : (some ((Go.bits .and .u64 (ji8) 1) == 1)) = some r := by first | (rw [hji8] at H; exact H) | (simp only [hji8] at H ⊢; exact H)
        have hji8_ : ((rd l0_1 (ji3)) / 2 ^ min (ji6).toNat 64) = ji8 := hji8
        have hji8z : (ji6) ≤ 64 → ((rd l0_1 (ji3)) / 2 ^ (ji6).toNat) = ji8 := shr_small hji8
        obtain rfl := Option.some.inj H
        go_enter Tryd.func44, Tryd.ntmps44
        go_wp2_with (first | ((with_reducible refine gate_dst (N := 2) rfl ?_); refine box_event ?hg (N := 2) ?hd (cs := #[.int .i64 a0_0, .slice A0_1 l0_1.length c0_1]) (t := 24) ?hr ?_; (case hd => rfl); (case hg => rfl); (case hr => first | (go_simp; done) | (go_simp; rfl)); intro gb102 hg w9 hbox hb; have n0_ := Aside0.mk (below_step (by repeat (first | (with_reducible first | exact HB.out | apply below_alloc | apply pw_below_drewN | apply below_drew1) | exact HB.out)) hb); have n1_ := Aside0.mk (hbox); have n2_ := Aside0.mk ((by rw [hg]; exact (below_size (by repeat (first | (with_reducible first | exact HB.out | apply below_alloc | apply pw_below_drewN | apply below_drew1) | exact HB.out))) : w.heap.size ≤ gb102)); have n3_ := Aside0.mk ((by rw [hg]; exact (below_size (by repeat (first | (with_reducible first | exact HB.out | apply below_alloc | apply pw_below_drewN | apply below_drew1) | exact HB.out))) : w.heap.size ≤ gb102)); clear HB; have HB := n0_; have BK102 := n1_; have GW102 := n2_; have GE102 := n3_; clear n0_ n1_ n2_ n3_; clear hb hbox hg; have hcz10_0 : w9.cell? ⟨gb102, 0, none⟩ = some (.int .i64 a0_0) := (blk_cell BK102.out 0).trans rfl; have hcz10_1 : w9.cell? ⟨gb102, 1, none⟩ = some (.slice A0_1 l0_1.length c0_1) := (blk_cell BK102.out 1).trans rfl; have hfz10_0 := blk_frozen BK102.out 0; have hfz10_1 := blk_frozen BK102.out 1; have p103 : 0 ≤ ((ji3) : Int) := of_decide_eq_true (by first | (with_reducible assumption) | assumption); have q103 : (ji3) < (l0_1.length : Int) := of_decide_eq_true (by first | (with_reducible assumption) | assumption); obtain ⟨ad103, e103, hx103_0⟩ := Kd.at_int HR0_1.out (ji3) p103 q103; cases e103; replace hx103_0 := (HB.out.cell (World.block_lt_of_cell? w _ hx103_0)).trans hx103_0; replace p103 := eq_true p103; replace q103 := eq_true q103))
        go_ret
        exact ⟨by first | rfl | (simp [errW_none, errW_some] <;> rfl) | (simp only [← hji3, ← hji6, ← hji8]; first | rfl | (simp [errW_none, errW_some] <;> rfl)) | (simp [*, errW_none, errW_some] <;> rfl), by repeat (first | (with_reducible first | exact HB.out | apply below_alloc | apply pw_below_drewN | apply below_drew1 | refine below_set ?_ GE102.out) | exact HB.out)⟩
      · rw [if_neg c7] at H
        exact absurd H (by simp)
    · rw [if_neg c5] at H
      exact absurd H (by simp)
  · rw [if_neg c4] at H
    exact absurd H (by simp)
mutual
def r02Check.j0 : Nat → Bool → Int → List Int → Option (Int)
  | 0, _, _, _ => none
  | k + 1, x21, x105000, x105001 => if x21 = true then (some 3) else (r02Check.l0 k x105000 x105000 x105001)
def r02Check.l0 : Nat → Int → Int → List Int → Option (Int)
  | 0, _, _, _ => none
  | k + 1, x3, x105000, x105001 => if x3 < (wrap64 (64 * (x105001.length : Int))) then ((r02bit.f x105000 x105001 x3).bind fun t105 => (if t105 = true then (some 3) else (r02Check.l0 k (wrap64 (x3 + 1)) x105000 x105001))) else (some 0)
end
def r02Check.f (k : Nat) (a0_0 : Int) (l0_1 : List Int) : Option (Int) := if a0_0 < 0 then (r02Check.j0 k true a0_0 l0_1) else (if a0_0 > 4096 then (r02Check.j0 k true a0_0 l0_1) else (r02Check.j0 k ((l0_1.length : Int) != (wrap64 (Int.tdiv (wrap64 (a0_0 + 63)) 64))) a0_0 l0_1))
set_option maxHeartbeats 8000000 in
set_option maxRecDepth 100000 in
theorem r02Check.calls (k : Nat) (a0_0 : Int) (A0_1 : Option Addr) (c0_1 : Nat) (l0_1 : List Int) (r : Int) (w : World) (hr0_1 : Kd.C (Kd.int .u64) w A0_1 l0_1.length l0_1) (hc0_1 : l0_1.length ≤ c0_1) (h : r02Check.f k a0_0 l0_1 = some r) :
    Calls Tryd.prog 21 #[.agg #[.int .i64 a0_0, .slice A0_1 l0_1.length c0_1]] w fun e w' => e = .returned (.int .i64 r) ∧ Below w.heap.size w w' := by
  have hu24 := Tryd.underlying24
  have HR0_1 := Aside0.mk hr0_1
  have HC0_1 := Aside0.mk hc0_1
  clear hr0_1 hc0_1
  have HB := Aside0.mk (Below.refl w.heap.size w)
  have H : (if a0_0 < 0 then (r02Check.j0 k true a0_0 l0_1) else (if a0_0 > 4096 then (r02Check.j0 k true a0_0 l0_1) else (r02Check.j0 k ((l0_1.length : Int) != (wrap64 (Int.tdiv (wrap64 (a0_0 + 63)) 64))) a0_0 l0_1))) = some r := h
  clear h
  have HC2 := Aside0.mk H
  clear H
  go_enter Tryd.func21, Tryd.ntmps21
  go_upto_region 1 with (first | ((with_reducible refine gate_dst (N := 1) rfl ?_); (try (refine gate_guard (by rfl) ?_; dsimp only)); refine box_event ?hg (N := 1) ?hd (cs := #[.int .i64 a0_0, .slice A0_1 l0_1.length c0_1]) (t := 24) ?hr ?_; (case hd => rfl); (case hg => rfl); (case hr => first | (go_simp; done) | (go_simp; rfl)); intro gb104 hg w3 hbox hb; have n0_ := Aside0.mk (below_step (by repeat (first | (with_reducible first | exact HB.out | apply below_alloc | apply pw_below_drewN | apply below_drew1) | exact HB.out)) hb); have n1_ := Aside0.mk (hbox); have n2_ := Aside0.mk ((by rw [hg]; exact (below_size (by repeat (first | (with_reducible first | exact HB.out | apply below_alloc | apply pw_below_drewN | apply below_drew1) | exact HB.out))) : w.heap.size ≤ gb104)); have n3_ := Aside0.mk ((by rw [hg]; exact (below_size (by repeat (first | (with_reducible first | exact HB.out | apply below_alloc | apply pw_below_drewN | apply below_drew1) | exact HB.out))) : w.heap.size ≤ gb104)); clear HB; have HB := n0_; have BK104 := n1_; have GW104 := n2_; have GE104 := n3_; clear n0_ n1_ n2_ n3_; clear hb hbox hg))
  (try simp only [Act.put, List.setIfInBounds_toArray, List.set_cons_zero, List.set_cons_succ])
  go_cut [21] (fun v21 wc => ∃ (kq : Nat) (x21_1 : Bool), v21 = .bool x21_1 ∧ Aside0 (r02Check.j0 kq x21_1 a0_0 l0_1 = some r) ∧ Aside0 (kq ≤ k) ∧ Aside0 (wc.heap[gb104]? = some (.cells #[.int .i64 a0_0, (.slice A0_1 l0_1.length c0_1)] 24 (0, 0))) ∧ Aside0 (Below w.heap.size w wc))
  case first =>
    have H := HC2.out
    clear HC2
    by_cases c4 : a0_0 < 0
    · rw [if_pos c4] at H
      have c4b0 : decide (a0_0 < 0) = true := decide_eq_true c4
      clear c4
      (first | rw [c4b0] | (simp only [i64_w, i32_w]; rw [c4b0]) | skip)
      have H' := Aside0.mk H
      clear H
      have hcz5_0 : w3.cell? ⟨gb104, 0, none⟩ = some (.int .i64 a0_0) := (blk_cell BK104.out 0).trans rfl
      have hcz5_1 : w3.cell? ⟨gb104, 1, none⟩ = some (.slice A0_1 l0_1.length c0_1) := (blk_cell BK104.out 1).trans rfl
      have hfz5_0 := blk_frozen BK104.out 0
      have hfz5_1 := blk_frozen BK104.out 1
      go_wp2
      go_meet
      case rel => exact ⟨_, (true), (by first | rfl | (simp; done) | (simp [*]; done)), H', ⟨by first | omega | exact Nat.le_refl _⟩, ⟨by (with_reducible repeat (first | refine blk_drewN ?_ _ | refine blk_drew ?_ | refine blk_alloc ?_ _)); exact BK104.out⟩, ⟨by repeat (first | (with_reducible first | exact HB.out | apply below_alloc | apply pw_below_drewN | apply below_drew1 | refine below_set ?_ GE104.out) | exact HB.out)⟩⟩
    · rw [if_neg c4] at H
      have c4b0 : decide (a0_0 < 0) = false := decide_eq_false c4
      clear c4
      (first | rw [c4b0] | (simp only [i64_w, i32_w]; rw [c4b0]) | skip)
      by_cases c6 : a0_0 > 4096
      · rw [if_pos c6] at H
        have c6b0 : decide (4096 < a0_0) = true := decide_eq_true c6
        clear c6
        have H' := Aside0.mk H
        clear H
        have hcz7_0 : w3.cell? ⟨gb104, 0, none⟩ = some (.int .i64 a0_0) := (blk_cell BK104.out 0).trans rfl
        have hcz7_1 : w3.cell? ⟨gb104, 1, none⟩ = some (.slice A0_1 l0_1.length c0_1) := (blk_cell BK104.out 1).trans rfl
        have hfz7_0 := blk_frozen BK104.out 0
        have hfz7_1 := blk_frozen BK104.out 1
        go_wp2
        go_meet
        case rel => exact ⟨_, (true), (by first | rfl | (simp; done) | (simp [*]; done)), H', ⟨by first | omega | exact Nat.le_refl _⟩, ⟨by (with_reducible repeat (first | refine blk_drewN ?_ _ | refine blk_drew ?_ | refine blk_alloc ?_ _)); exact BK104.out⟩, ⟨by repeat (first | (with_reducible first | exact HB.out | apply below_alloc | apply pw_below_drewN | apply below_drew1 | refine below_set ?_ GE104.out) | exact HB.out)⟩⟩
      · rw [if_neg c6] at H
        have c6b0 : decide (4096 < a0_0) = false := decide_eq_false c6
        clear c6
        have H' := Aside0.mk H
        clear H
        have hcz8_0 : w3.cell? ⟨gb104, 0, none⟩ = some (.int .i64 a0_0) := (blk_cell BK104.out 0).trans rfl
        have hcz8_1 : w3.cell? ⟨gb104, 1, none⟩ = some (.slice A0_1 l0_1.length c0_1) := (blk_cell BK104.out 1).trans rfl
        have hfz8_0 := blk_frozen BK104.out 0
        have hfz8_1 := blk_frozen BK104.out 1
        go_wp2
        go_meet
        case rel => exact ⟨_, (((l0_1.length : Int) != (wrap64 (Int.tdiv (wrap64 (a0_0 + 63)) 64)))), (by first | rfl | (simp; done) | (simp [*]; done)), H', ⟨by first | omega | exact Nat.le_refl _⟩, ⟨by (with_reducible repeat (first | refine blk_drewN ?_ _ | refine blk_drew ?_ | refine blk_alloc ?_ _)); exact BK104.out⟩, ⟨by repeat (first | (with_reducible first | exact HB.out | apply below_alloc | apply pw_below_drewN | apply below_drew1 | refine below_set ?_ GE104.out) | exact HB.out)⟩⟩
  case rest =>
    clear HC2
    try clear c2
    try clear p2
    try clear c4
    try clear c4b0
    try clear c6
    try clear c6b0
    try clear p6
    try clear hcz5_0
    try clear hcz5_1
    try clear hcz7_0
    try clear hcz7_1
    try clear hcz8_0
    try clear hcz8_1
    try clear hfz5_0
    try clear hfz5_1
    try clear hfz7_0
    try clear hfz7_1
    try clear hfz8_0
    try clear hfz8_1
    obtain ⟨kq, x21_1, rfl, HA, HJ1, BK104, HB⟩ := hcut
    cases kq with
    | zero => exact absurd HA.out (by simp [r02Check.j0])
    | succ kj1 =>
      have H := HA.out
      clear HA
      simp only [r02Check.j0] at H
      by_cases c9 : x21_1 = true
      · subst c9
        have H1 : (some 3) = some r := by rw [if_pos rfl] at H; exact H
        clear H
        have H := H1
        clear H1
        obtain rfl := Option.some.inj H
        go_wp2
        go_ret
        exact ⟨by first | rfl | (simp [errW_none, errW_some] <;> rfl) | (simp [*, errW_none, errW_some] <;> rfl), by repeat (first | (with_reducible first | exact HB.out | apply below_alloc | apply pw_below_drewN | apply below_drew1 | refine below_set ?_ GE104.out) | exact HB.out)⟩
      · replace c9 := Bool.eq_false_iff.mpr c9
        subst c9
        have H1 : (r02Check.l0 kj1 a0_0 a0_0 l0_1) = some r := by rw [if_neg (show ¬ (false = true) by decide)] at H; exact H
        clear H
        have H := H1
        clear H1
        have H' := Aside0.mk H
        clear H
        have hcz10_0 : wc.cell? ⟨gb104, 0, none⟩ = some (.int .i64 a0_0) := (blk_cell BK104.out 0).trans rfl
        have hcz10_1 : wc.cell? ⟨gb104, 1, none⟩ = some (.slice A0_1 l0_1.length c0_1) := (blk_cell BK104.out 1).trans rfl
        have hfz10_0 := blk_frozen BK104.out 0
        have hfz10_1 := blk_frozen BK104.out 1
        go_wp2
        go_loopg [3] kj1 (fun kq v3 w' => ∃ (x3_2 : Int), v3 = .int .i64 x3_2 ∧ Aside0 (r02Check.l0 kq x3_2 a0_0 l0_1 = some r) ∧ Aside0 (kq ≤ kj1) ∧ Aside0 (w'.heap[gb104]? = some (.cells #[.int .i64 a0_0, (.slice A0_1 l0_1.length c0_1)] 24 (0, 0))) ∧ Aside0 (Below w.heap.size w w'))
        case atStart => exact ⟨(a0_0), (by first | rfl | (simp; done) | (simp [*]; done)), H', ⟨Nat.le_refl _⟩, ⟨by (with_reducible repeat (first | refine blk_drewN ?_ _ | refine blk_drew ?_ | refine blk_alloc ?_ _)); exact BK104.out⟩, ⟨by repeat (first | (with_reducible first | exact HB.out | apply below_alloc | apply pw_below_drewN | apply below_drew1 | refine below_set ?_ GE104.out) | exact HB.out)⟩⟩
        case round =>
          clear H'
          try clear c2
          try clear p2
          try clear c4
          try clear c4b0
          try clear c6
          try clear c6b0
          try clear p6
          try clear c9
          try clear hcz10_0
          try clear hcz10_1
          try clear hcz5_0
          try clear hcz5_1
          try clear hcz7_0
          try clear hcz7_1
          try clear hcz8_0
          try clear hcz8_1
          try clear hfz10_0
          try clear hfz10_1
          try clear hfz5_0
          try clear hfz5_1
          try clear hfz7_0
          try clear hfz7_1
          try clear hfz8_0
          try clear hfz8_1
          try clear p2
          try clear p6
          obtain ⟨x3_2, rfl, HA, HK2, BK104, HB⟩ := hrel
          cases gk with
          | zero => exact absurd HA.out (by simp [r02Check.l0])
          | succ k2 =>
            have H := HA.out
            clear HA
            simp only [r02Check.l0] at H
            by_cases c11 : x3_2 < (wrap64 (64 * (l0_1.length : Int)))
            · rw [if_pos c11] at H
              have c11b0 : decide (x3_2 < (wrap64 (64 * (l0_1.length : Int)))) = true := decide_eq_true c11
              clear c11
              replace H := Option.bind_eq_some_iff.mp H
              obtain ⟨t105, A120, H⟩ := H
              replace H : (if t105 = true then (some 3) else (r02Check.l0 k2 (wrap64 (x3_2 + 1)) a0_0 l0_1)) = some r := H
              have A12 := Aside0.mk A120
              clear A120
              by_cases c13 : t105 = true
              · subst c13
                have H1 : (some 3) = some r := by rw [if_pos rfl] at H; exact H
                clear H
                have H := H1
                clear H1
                obtain rfl := Option.some.inj H
                have hcz14_0 : wr.cell? ⟨gb104, 0, none⟩ = some (.int .i64 a0_0) := (blk_cell BK104.out 0).trans rfl
                have hcz14_1 : wr.cell? ⟨gb104, 1, none⟩ = some (.slice A0_1 l0_1.length c0_1) := (blk_cell BK104.out 1).trans rfl
                have hfz14_0 := blk_frozen BK104.out 0
                have hfz14_1 := blk_frozen BK104.out 1
                go_wp2_with (first | ((with_reducible refine gate_callee (f := 44) rfl ?_); refine goesL_ (some 34) rfl rfl Tryd.func44 (by kernel_rfl) rfl #[.agg #[.int .i64 a0_0, .slice A0_1 l0_1.length c0_1], .int .i64 x3_2] rfl (by (try simp only [List.map_toArray, List.map_cons, List.map_nil]); first | done | rfl | (simp only [List.length_drop, List.length_take]; rfl)) ?_; (with_reducible refine (r02bit.calls a0_0 _ _ l0_1 x3_2 true _ ?side1 ?side2 A12.out).mono ?_); (case side1 => repeat (first | exact (Kd.C_below HR0_1.out HB.out) | (with_reducible refine Kd.C_alloc ?_ _) | (with_reducible refine Kd.C_drewN ?_ _) | (with_reducible refine Kd.C_drew ?_))); (case side2 => exact HC0_1.out); rintro e w15 ⟨rfl, hb⟩; refine ⟨_, rfl, ?_⟩; have n0_ := Aside0.mk (blk_below (g := gb104) (o := .cells #[.int .i64 a0_0, .slice A0_1 l0_1.length c0_1] 24 (0, 0)) (by (with_reducible repeat (first | refine blk_drewN ?_ _ | refine blk_drew ?_ | refine blk_alloc ?_ _)); exact BK104.out) hb); have n1_ := Aside0.mk (below_step (by repeat (first | (with_reducible first | exact HB.out | apply below_alloc | apply pw_below_drewN | apply below_drew1 | refine below_set ?_ GE104.out) | exact HB.out)) hb); clear BK104; clear HB; have BK104 := n0_; have HB := n1_; clear n0_ n1_; (try clear hb); (try clear hb2); (try clear hk); (try clear hi)))
                go_ret
                exact ⟨by first | rfl | (simp [errW_none, errW_some] <;> rfl) | (simp [*, errW_none, errW_some] <;> rfl), by repeat (first | (with_reducible first | exact HB.out | apply below_alloc | apply pw_below_drewN | apply below_drew1 | refine below_set ?_ GE104.out) | exact HB.out)⟩
              · replace c13 := Bool.eq_false_iff.mpr c13
                subst c13
                have H1 : (r02Check.l0 k2 (wrap64 (x3_2 + 1)) a0_0 l0_1) = some r := by rw [if_neg (show ¬ (false = true) by decide)] at H; exact H
                clear H
                have H := H1
                clear H1
                have H' := Aside0.mk H
                clear H
                have hcz16_0 : wr.cell? ⟨gb104, 0, none⟩ = some (.int .i64 a0_0) := (blk_cell BK104.out 0).trans rfl
                have hcz16_1 : wr.cell? ⟨gb104, 1, none⟩ = some (.slice A0_1 l0_1.length c0_1) := (blk_cell BK104.out 1).trans rfl
                have hfz16_0 := blk_frozen BK104.out 0
                have hfz16_1 := blk_frozen BK104.out 1
                go_wp2_with (first | ((with_reducible refine gate_callee (f := 44) rfl ?_); refine goesL_ (some 34) rfl rfl Tryd.func44 (by kernel_rfl) rfl #[.agg #[.int .i64 a0_0, .slice A0_1 l0_1.length c0_1], .int .i64 x3_2] rfl (by (try simp only [List.map_toArray, List.map_cons, List.map_nil]); first | done | rfl | (simp only [List.length_drop, List.length_take]; rfl)) ?_; (with_reducible refine (r02bit.calls a0_0 _ _ l0_1 x3_2 false _ ?side1 ?side2 A12.out).mono ?_); (case side1 => repeat (first | exact (Kd.C_below HR0_1.out HB.out) | (with_reducible refine Kd.C_alloc ?_ _) | (with_reducible refine Kd.C_drewN ?_ _) | (with_reducible refine Kd.C_drew ?_))); (case side2 => exact HC0_1.out); rintro e w17 ⟨rfl, hb⟩; refine ⟨_, rfl, ?_⟩; have n0_ := Aside0.mk (blk_below (g := gb104) (o := .cells #[.int .i64 a0_0, .slice A0_1 l0_1.length c0_1] 24 (0, 0)) (by (with_reducible repeat (first | refine blk_drewN ?_ _ | refine blk_drew ?_ | refine blk_alloc ?_ _)); exact BK104.out) hb); have n1_ := Aside0.mk (below_step (by repeat (first | (with_reducible first | exact HB.out | apply below_alloc | apply pw_below_drewN | apply below_drew1 | refine below_set ?_ GE104.out) | exact HB.out)) hb); clear BK104; clear HB; have BK104 := n0_; have HB := n1_; clear n0_ n1_; (try clear hb); (try clear hb2); (try clear hk); (try clear hi)))
                go_roundg k2
                case measure => have := HJ1.out; have := HK2.out; omega
                case rel => exact ⟨(wrap64 (x3_2 + 1)), (by first | rfl | (simp; done) | (simp [*]; done)), H', ⟨by have := HJ1.out; have := HK2.out; omega⟩, ⟨by (with_reducible repeat (first | refine blk_drewN ?_ _ | refine blk_drew ?_ | refine blk_alloc ?_ _)); exact BK104.out⟩, ⟨by repeat (first | (with_reducible first | exact HB.out | apply below_alloc | apply pw_below_drewN | apply below_drew1 | refine below_set ?_ GE104.out) | exact HB.out)⟩⟩
            · rw [if_neg c11] at H
              have c11b0 : decide (x3_2 < (wrap64 (64 * (l0_1.length : Int)))) = false := decide_eq_false c11
              clear c11
              obtain rfl := Option.some.inj H
              have hcz18_0 : wr.cell? ⟨gb104, 0, none⟩ = some (.int .i64 a0_0) := (blk_cell BK104.out 0).trans rfl
              have hcz18_1 : wr.cell? ⟨gb104, 1, none⟩ = some (.slice A0_1 l0_1.length c0_1) := (blk_cell BK104.out 1).trans rfl
              have hfz18_0 := blk_frozen BK104.out 0
              have hfz18_1 := blk_frozen BK104.out 1
              go_wp2
              go_ret
              exact ⟨by first | rfl | (simp [errW_none, errW_some] <;> rfl) | (simp [*, errW_none, errW_some] <;> rfl), by repeat (first | (with_reducible first | exact HB.out | apply below_alloc | apply pw_below_drewN | apply below_drew1 | refine below_set ?_ GE104.out) | exact HB.out)⟩
end Go.Proofs.YthpldfjjdmjcoaaDoor.P

namespace Go.Proofs.YthpldfjjdmjcoaaDoor.P
open Go.RowKit Go.Proofs.YthpldfjjdmjcoaaDoorW.PrintWords Go.Proofs.YthpldfjjdmjcoaaDoorW.PrintLast Go.Proofs.YthpldfjjdmjcoaaDoorW.PrintMore
attribute [local go_sem] max2_int min2_int max_two min_two max_three min_three max_four min_four   -- for this text's walks alone
set_option linter.unusedVariables false
set_option linter.unusedSimpArgs false
def bwords.f (a0 : Int) : Option (Int) := some (wrap64 (Int.tdiv (wrap64 ((wrap64 (a0 + 64)) - 1)) 64))
set_option maxHeartbeats 8000000 in
set_option maxRecDepth 100000 in
theorem bwords.calls (a0 : Int) (r : Int) (w : World) (h : bwords.f a0 = some r) :
    Calls Tryd.prog 43 #[.int .i64 a0] w fun e w' => e = .returned (.int .i64 r) ∧ Drawn0 w w' := by
  have H : (some (wrap64 (Int.tdiv (wrap64 ((wrap64 (a0 + 64)) - 1)) 64))) = some r := h
  clear h
  obtain rfl := Option.some.inj H
  go_enter Tryd.func43, Tryd.ntmps43
  go_wp2
  go_ret
  exact ⟨by first | rfl | (simp; done) | (simp [*]; done), by repeat (first | exact Drawn0.refl _ | apply Drawn0.step)⟩
end Go.Proofs.YthpldfjjdmjcoaaDoor.P

namespace Go.Proofs.YthpldfjjdmjcoaaDoor.P
open Go.RowKit Go.Proofs.YthpldfjjdmjcoaaDoorW.PrintWords Go.Proofs.YthpldfjjdmjcoaaDoorW.PrintLast Go.Proofs.YthpldfjjdmjcoaaDoorW.PrintMore
attribute [local go_sem] max2_int min2_int max_two min_two max_three min_three max_four min_four   -- for this text's walks alone
set_option linter.unusedVariables false
set_option linter.unusedSimpArgs false
def bCheck.j0 : Nat → Bool → Int → List Int → Option (Int)
  | 0, _, _, _ => none
  | k + 1, x20, x138000, x138001 => if x20 = true then (some 3) else (if (Int.tmod x138000 64) > 0 then (if 0 ≤ (wrap64 ((x138001.length : Int) - 1)) then (if (wrap64 ((x138001.length : Int) - 1)) < (x138001.length : Int) then (if 0 ≤ (Int.tmod x138000 64) then (if (shr .u64 (rd x138001 (wrap64 ((x138001.length : Int) - 1))) (Int.tmod x138000 64)) = 0 then (some 0) else (some 3)) else (none)) else (none)) else (none)) else (some 0))
def bCheck.f (k : Nat) (a0_0 : Int) (l0_1 : List Int) : Option (Int) := if a0_0 < 0 then (bCheck.j0 k true a0_0 l0_1) else (if a0_0 > 4096 then (bCheck.j0 k true a0_0 l0_1) else ((bwords.f a0_0).bind fun t138 => (bCheck.j0 k ((l0_1.length : Int) != t138) a0_0 l0_1)))
theorem bCheck.mono_l : ∀ k, (∀ y0 y1 y2, LeO (bCheck.j0 k y0 y1 y2) (bCheck.j0 (k + 1) y0 y1 y2))
  | 0 => fun _ _ _ r h => by simp [bCheck.j0] at h
  | k + 1 => by
    have ih0 := bCheck.mono_l k
    · intro y0 y1 y2
      unfold bCheck.j0
      repeat' first
      | (with_reducible exact ih0 _ _ _)
      | (with_reducible exact LeO.refl _)
      | (with_reducible exact LeO.none _)
      | (with_reducible refine LeO.ite ?_ ?_)
      | (with_reducible refine LeO.bind ?_ (fun _ => ?_))
      | exact ih0 _ _ _
      | exact LeO.none _
      | refine LeO.ite ?_ ?_
      | refine LeO.bind ?_ (fun _ => ?_)
theorem bCheck.mono : ∀ a0 a1 k, LeO (bCheck.f k a0 a1) (bCheck.f (k + 1) a0 a1) := by
  intro a0 a1 k
  have ih0 := bCheck.mono_l k
  unfold bCheck.f
  repeat' first
      | (with_reducible exact ih0 _ _ _)
      | (with_reducible exact LeO.refl _)
      | (with_reducible exact LeO.none _)
      | (with_reducible refine LeO.ite ?_ ?_)
      | (with_reducible refine LeO.bind ?_ (fun _ => ?_))
      | exact ih0 _ _ _
      | exact LeO.none _
      | refine LeO.ite ?_ ?_
      | refine LeO.bind ?_ (fun _ => ?_)
set_option maxHeartbeats 8000000 in
set_option maxRecDepth 100000 in
theorem bCheck.calls (k : Nat) (a0_0 : Int) (A0_1 : Option Addr) (c0_1 : Nat) (l0_1 : List Int) (r : Int) (w : World) (hr0_1 : Kd.C (Kd.int .u64) w A0_1 l0_1.length l0_1) (hc0_1 : l0_1.length ≤ c0_1) (h : bCheck.f k a0_0 l0_1 = some r) :
    Calls Tryd.prog 20 #[.agg #[.int .i64 a0_0, .slice A0_1 l0_1.length c0_1]] w fun e w' => e = .returned (.int .i64 r) ∧ Below w.heap.size w w' := by
  have hu24 := Tryd.underlying24
  have HR0_1 := Aside0.mk hr0_1
  have HC0_1 := Aside0.mk hc0_1
  clear hr0_1 hc0_1
  have HB := Aside0.mk (Below.refl w.heap.size w)
  have H : (if a0_0 < 0 then (bCheck.j0 k true a0_0 l0_1) else (if a0_0 > 4096 then (bCheck.j0 k true a0_0 l0_1) else ((bwords.f a0_0).bind fun t138 => (bCheck.j0 k ((l0_1.length : Int) != t138) a0_0 l0_1)))) = some r := h
  clear h
  have HC2 := Aside0.mk H
  clear H
  go_enter Tryd.func20, Tryd.ntmps20
  go_upto_region 1 with (first | ((with_reducible refine gate_dst (N := 1) rfl ?_); (try (refine gate_guard (by rfl) ?_; dsimp only)); refine box_event ?hg (N := 1) ?hd (cs := #[.int .i64 a0_0, .slice A0_1 l0_1.length c0_1]) (t := 24) ?hr ?_; (case hd => rfl); (case hg => rfl); (case hr => first | (go_simp; done) | (go_simp; rfl)); intro gb137 hg w3 hbox hb; have n0_ := Aside0.mk (below_step (by repeat (first | (with_reducible first | exact HB.out | apply below_alloc | apply pw_below_drewN | apply below_drew1) | exact HB.out)) hb); have n1_ := Aside0.mk (hbox); have n2_ := Aside0.mk ((by rw [hg]; exact (below_size (by repeat (first | (with_reducible first | exact HB.out | apply below_alloc | apply pw_below_drewN | apply below_drew1) | exact HB.out))) : w.heap.size ≤ gb137)); have n3_ := Aside0.mk ((by rw [hg]; exact (below_size (by repeat (first | (with_reducible first | exact HB.out | apply below_alloc | apply pw_below_drewN | apply below_drew1) | exact HB.out))) : w.heap.size ≤ gb137)); clear HB; have HB := n0_; have BK137 := n1_; have GW137 := n2_; have GE137 := n3_; clear n0_ n1_ n2_ n3_; clear hb hbox hg))
  repeat (go_quiet (first | ((with_reducible refine gate_dst (N := 1) rfl ?_); (try (refine gate_guard (by rfl) ?_; dsimp only)); refine box_event ?hg (N := 1) ?hd (cs := #[.int .i64 a0_0, .slice A0_1 l0_1.length c0_1]) (t := 24) ?hr ?_; (case hd => rfl); (case hg => rfl); (case hr => first | (go_simp; done) | (go_simp; rfl)); intro gb137 hg w3 hbox hb; have n0_ := Aside0.mk (below_step (by repeat (first | (with_reducible first | exact HB.out | apply below_alloc | apply pw_below_drewN | apply below_drew1) | exact HB.out)) hb); have n1_ := Aside0.mk (hbox); have n2_ := Aside0.mk ((by rw [hg]; exact (below_size (by repeat (first | (with_reducible first | exact HB.out | apply below_alloc | apply pw_below_drewN | apply below_drew1) | exact HB.out))) : w.heap.size ≤ gb137)); have n3_ := Aside0.mk ((by rw [hg]; exact (below_size (by repeat (first | (with_reducible first | exact HB.out | apply below_alloc | apply pw_below_drewN | apply below_drew1) | exact HB.out))) : w.heap.size ≤ gb137)); clear HB; have HB := n0_; have BK137 := n1_; have GW137 := n2_; have GE137 := n3_; clear n0_ n1_ n2_ n3_; clear hb hbox hg)); go_upto_region 1 with (first | ((with_reducible refine gate_dst (N := 1) rfl ?_); (try (refine gate_guard (by rfl) ?_; dsimp only)); refine box_event ?hg (N := 1) ?hd (cs := #[.int .i64 a0_0, .slice A0_1 l0_1.length c0_1]) (t := 24) ?hr ?_; (case hd => rfl); (case hg => rfl); (case hr => first | (go_simp; done) | (go_simp; rfl)); intro gb137 hg w3 hbox hb; have n0_ := Aside0.mk (below_step (by repeat (first | (with_reducible first | exact HB.out | apply below_alloc | apply pw_below_drewN | apply below_drew1) | exact HB.out)) hb); have n1_ := Aside0.mk (hbox); have n2_ := Aside0.mk ((by rw [hg]; exact (below_size (by repeat (first | (with_reducible first | exact HB.out | apply below_alloc | apply pw_below_drewN | apply below_drew1) | exact HB.out))) : w.heap.size ≤ gb137)); have n3_ := Aside0.mk ((by rw [hg]; exact (below_size (by repeat (first | (with_reducible first | exact HB.out | apply below_alloc | apply pw_below_drewN | apply below_drew1) | exact HB.out))) : w.heap.size ≤ gb137)); clear HB; have HB := n0_; have BK137 := n1_; have GW137 := n2_; have GE137 := n3_; clear n0_ n1_ n2_ n3_; clear hb hbox hg)))
  (try simp only [Act.put, List.setIfInBounds_toArray, List.set_cons_zero, List.set_cons_succ])
  go_cut [20] (fun v20 wc => ∃ (kq : Nat) (x20_1 : Bool), v20 = .bool x20_1 ∧ Aside0 (bCheck.j0 kq x20_1 a0_0 l0_1 = some r) ∧ Aside0 (kq ≤ k) ∧ Aside0 (wc.heap[gb137]? = some (.cells #[.int .i64 a0_0, (.slice A0_1 l0_1.length c0_1)] 24 (0, 0))) ∧ Aside0 (Below w.heap.size w wc))
  case first =>
    have H := HC2.out
    clear HC2
    by_cases c4 : a0_0 < 0
    · rw [if_pos c4] at H
      have c4b0 : decide (a0_0 < 0) = true := decide_eq_true c4
      clear c4
      (first | rw [c4b0] | (simp only [i64_w, i32_w]; rw [c4b0]) | skip)
      have H' := Aside0.mk H
      clear H
      have hcz5_0 : w3.cell? ⟨gb137, 0, none⟩ = some (.int .i64 a0_0) := (blk_cell BK137.out 0).trans rfl
      have hcz5_1 : w3.cell? ⟨gb137, 1, none⟩ = some (.slice A0_1 l0_1.length c0_1) := (blk_cell BK137.out 1).trans rfl
      have hfz5_0 := blk_frozen BK137.out 0
      have hfz5_1 := blk_frozen BK137.out 1
      go_wp2
      repeat (go_quiet (fail); try go_wp2)
      go_meet
      case rel => exact ⟨_, (true), (by first | rfl | (simp; done) | (simp [*]; done)), H', ⟨by first | omega | exact Nat.le_refl _⟩, ⟨by (with_reducible repeat (first | refine blk_drewN ?_ _ | refine blk_drew ?_ | refine blk_alloc ?_ _)); exact BK137.out⟩, ⟨by repeat (first | (with_reducible first | exact HB.out | apply below_alloc | apply pw_below_drewN | apply below_drew1 | refine below_set ?_ GE137.out) | exact HB.out)⟩⟩
    · rw [if_neg c4] at H
      have c4b0 : decide (a0_0 < 0) = false := decide_eq_false c4
      clear c4
      (first | rw [c4b0] | (simp only [i64_w, i32_w]; rw [c4b0]) | skip)
      by_cases c6 : a0_0 > 4096
      · rw [if_pos c6] at H
        have c6b0 : decide (4096 < a0_0) = true := decide_eq_true c6
        clear c6
        have H' := Aside0.mk H
        clear H
        have hcz7_0 : w3.cell? ⟨gb137, 0, none⟩ = some (.int .i64 a0_0) := (blk_cell BK137.out 0).trans rfl
        have hcz7_1 : w3.cell? ⟨gb137, 1, none⟩ = some (.slice A0_1 l0_1.length c0_1) := (blk_cell BK137.out 1).trans rfl
        have hfz7_0 := blk_frozen BK137.out 0
        have hfz7_1 := blk_frozen BK137.out 1
        go_wp2
        repeat (go_quiet (fail); try go_wp2)
        go_meet
        case rel => exact ⟨_, (true), (by first | rfl | (simp; done) | (simp [*]; done)), H', ⟨by first | omega | exact Nat.le_refl _⟩, ⟨by (with_reducible repeat (first | refine blk_drewN ?_ _ | refine blk_drew ?_ | refine blk_alloc ?_ _)); exact BK137.out⟩, ⟨by repeat (first | (with_reducible first | exact HB.out | apply below_alloc | apply pw_below_drewN | apply below_drew1 | refine below_set ?_ GE137.out) | exact HB.out)⟩⟩
      · rw [if_neg c6] at H
        have c6b0 : decide (4096 < a0_0) = false := decide_eq_false c6
        clear c6
        replace H := Option.bind_eq_some_iff.mp H
        obtain ⟨t138, A80, H⟩ := H
        replace H : (bCheck.j0 k ((l0_1.length : Int) != t138) a0_0 l0_1) = some r := H
        have A8 := Aside0.mk A80
        clear A80
        have H' := Aside0.mk H
        clear H
        have hcz9_0 : w3.cell? ⟨gb137, 0, none⟩ = some (.int .i64 a0_0) := (blk_cell BK137.out 0).trans rfl
        have hcz9_1 : w3.cell? ⟨gb137, 1, none⟩ = some (.slice A0_1 l0_1.length c0_1) := (blk_cell BK137.out 1).trans rfl
        have hfz9_0 := blk_frozen BK137.out 0
        have hfz9_1 := blk_frozen BK137.out 1
        go_wp2_with (first | (go_at_call 43; (with_reducible refine (bwords.calls a0_0 t138 _ A8.out).mono ?_); rintro e w' ⟨rfl, ⟨nd, rfl⟩⟩; (try first | exact ⟨rfl, _, World.drewN_drewN _ _ _⟩ | exact ⟨rfl, _, Eq.trans (World.drewN_drewN _ _ _) (congrArg (World.drewN _) (Nat.add_assoc _ _ _))⟩)))
        repeat (go_quiet (first | (go_at_call 43; (with_reducible refine (bwords.calls a0_0 t138 _ A8.out).mono ?_); rintro e w' ⟨rfl, ⟨nd, rfl⟩⟩; (try first | exact ⟨rfl, _, World.drewN_drewN _ _ _⟩ | exact ⟨rfl, _, Eq.trans (World.drewN_drewN _ _ _) (congrArg (World.drewN _) (Nat.add_assoc _ _ _))⟩))); try go_wp2_with (first | (go_at_call 43; (with_reducible refine (bwords.calls a0_0 t138 _ A8.out).mono ?_); rintro e w' ⟨rfl, ⟨nd, rfl⟩⟩; (try first | exact ⟨rfl, _, World.drewN_drewN _ _ _⟩ | exact ⟨rfl, _, Eq.trans (World.drewN_drewN _ _ _) (congrArg (World.drewN _) (Nat.add_assoc _ _ _))⟩))))
        go_meet
        case rel => exact ⟨_, (((l0_1.length : Int) != t138)), (by first | rfl | (simp; done) | (simp [*]; done)), H', ⟨by first | omega | exact Nat.le_refl _⟩, ⟨by (with_reducible repeat (first | refine blk_drewN ?_ _ | refine blk_drew ?_ | refine blk_alloc ?_ _)); exact BK137.out⟩, ⟨by repeat (first | (with_reducible first | exact HB.out | apply below_alloc | apply pw_below_drewN | apply below_drew1 | refine below_set ?_ GE137.out) | exact HB.out)⟩⟩
  case rest =>
    clear HC2
    try clear c2
    try clear p2
    try clear c4
    try clear c4b0
    try clear c6
    try clear c6b0
    try clear hcz5_0
    try clear hcz5_1
    try clear hcz7_0
    try clear hcz7_1
    try clear hcz9_0
    try clear hcz9_1
    try clear hfz5_0
    try clear hfz5_1
    try clear hfz7_0
    try clear hfz7_1
    try clear hfz9_0
    try clear hfz9_1
    obtain ⟨kq, x20_1, rfl, HA, HJ1, BK137, HB⟩ := hcut
    cases kq with
    | zero => exact absurd HA.out (by simp [bCheck.j0])
    | succ kj1 =>
      have H := HA.out
      clear HA
      simp only [bCheck.j0] at H
      by_cases c10 : x20_1 = true
      · subst c10
        have H1 : (some 3) = some r := by rw [if_pos rfl] at H; exact H
        clear H
        have H := H1
        clear H1
        obtain rfl := Option.some.inj H
        go_wp2
        repeat (go_quiet (fail); try go_wp2)
        go_ret
        exact ⟨by first | rfl | (simp [errW_none, errW_some] <;> rfl) | (simp [*, errW_none, errW_some] <;> rfl), by repeat (first | (with_reducible first | exact HB.out | apply below_alloc | apply pw_below_drewN | apply below_drew1 | refine below_set ?_ GE137.out) | exact HB.out)⟩
      · replace c10 := Bool.eq_false_iff.mpr c10
        subst c10
        have H1 : (if (Int.tmod a0_0 64) > 0 then (if 0 ≤ (wrap64 ((l0_1.length : Int) - 1)) then (if (wrap64 ((l0_1.length : Int) - 1)) < (l0_1.length : Int) then (if 0 ≤ (Int.tmod a0_0 64) then (if (shr .u64 (rd l0_1 (wrap64 ((l0_1.length : Int) - 1))) (Int.tmod a0_0 64)) = 0 then (some 0) else (some 3)) else (none)) else (none)) else (none)) else (some 0)) = some r := by rw [if_neg (show ¬ (false = true) by decide)] at H; exact H
        clear H
        have H := H1
        clear H1
        by_cases c11 : (Int.tmod a0_0 64) > 0
        · rw [if_pos c11] at H
          have c11b0 : decide (0 < (Int.tmod a0_0 64)) = true := decide_eq_true c11
          clear c11
          obtain ⟨ji12, hji12⟩ : ∃ j_ : Int, (wrap64 ((l0_1.length : Int) - 1)) = j_ := ⟨_, rfl⟩
          replace H : (if 0 ≤ (ji12) then (if (ji12) < (l0_1.length : Int) then (if 0 ≤ (Int.tmod a0_0 64) then (if (shr .u64 (rd l0_1 (ji12)) (Int.tmod a0_0 64)) = 0 then (some 0) else (some 3)) else (none)) else (none)) else (none)) = some r := by first | (rw [hji12] at H; exact H) | (simp only [hji12] at H ⊢; exact H)
          have hji12w : (IntKind.i64.wrap ((l0_1.length : Int) - 1)) = ji12 := (i64_w _).trans hji12
          by_cases c13 : 0 ≤ (ji12)
          · rw [if_pos c13] at H
            have c13b0 : decide (0 ≤ (ji12)) = true := decide_eq_true c13
            clear c13
            by_cases c14 : (ji12) < (l0_1.length : Int)
            · rw [if_pos c14] at H
              have c14b0 : decide ((ji12) < (l0_1.length : Int)) = true := decide_eq_true c14
              clear c14
              obtain ⟨ji15, hji15⟩ : ∃ j_ : Int, (Int.tmod a0_0 64) = j_ := ⟨_, rfl⟩
              replace H : (if 0 ≤ (ji15) then (if (shr .u64 (rd l0_1 (ji12)) (ji15)) = 0 then (some 0) else (some 3)) else (none)) = some r := by first | (rw [hji15] at H; exact H) | (simp only [hji15] at H ⊢; exact H)
              (try rw [hji15] at c11b0)
              by_cases c16 : 0 ≤ (ji15)
              · rw [if_pos c16] at H
                have c16b0 := eq_true c16
                have c16b1 : decide (0 ≤ (ji15)) = true := decide_eq_true c16
                clear c16
                obtain ⟨ji17, hji17⟩ : ∃ j_ : Int, (shr .u64 (rd l0_1 (ji12)) (ji15)) = j_ := ⟨_, rfl⟩
                replace H : (if (ji17) = 0 then (some 0) else (some 3)) = some r := by first | (rw [hji17] at H; exact H) | (simp only [hji17] at H ⊢; exact H)
                have hji17_ : ((rd l0_1 (ji12)) / 2 ^ min (ji15).toNat 64) = ji17 := hji17
                have hji17z : (ji15) ≤ 64 → ((rd l0_1 (ji12)) / 2 ^ (ji15).toNat) = ji17 := shr_small hji17
                by_cases c18 : (ji17) = 0
                · rw [if_pos c18] at H
                  have c18b0 : ((ji17) == 0) = true := beq_iff_eq.mpr c18
                  have c18b1 : ((ji17) != 0) = false := bne_eq_false_iff_eq.mpr c18
                  clear c18
                  obtain rfl := Option.some.inj H
                  have hcz19_0 : wc.cell? ⟨gb137, 0, none⟩ = some (.int .i64 a0_0) := (blk_cell BK137.out 0).trans rfl
                  have hcz19_1 : wc.cell? ⟨gb137, 1, none⟩ = some (.slice A0_1 l0_1.length c0_1) := (blk_cell BK137.out 1).trans rfl
                  have hfz19_0 := blk_frozen BK137.out 0
                  have hfz19_1 := blk_frozen BK137.out 1
                  have p139 : 0 ≤ ((ji12) : Int) := of_decide_eq_true (by first | (with_reducible assumption) | assumption)
                  have q139 : (ji12) < (l0_1.length : Int) := of_decide_eq_true (by first | (with_reducible assumption) | assumption)
                  obtain ⟨ad139, e139, hx139_0⟩ := Kd.at_int HR0_1.out (ji12) p139 q139
                  cases e139
                  replace hx139_0 := (HB.out.cell (World.block_lt_of_cell? w _ hx139_0)).trans hx139_0
                  replace p139 := eq_true p139
                  replace q139 := eq_true q139
                  go_wp2
                  repeat (go_quiet (fail); try go_wp2)
                  go_ret
                  exact ⟨by first | rfl | (simp [errW_none, errW_some] <;> rfl) | (simp only [← hji12, ← hji15, ← hji17]; first | rfl | (simp [errW_none, errW_some] <;> rfl)) | (simp [*, errW_none, errW_some] <;> rfl), by repeat (first | (with_reducible first | exact HB.out | apply below_alloc | apply pw_below_drewN | apply below_drew1 | refine below_set ?_ GE137.out) | exact HB.out)⟩
                · rw [if_neg c18] at H
                  have c18b0 : ((ji17) == 0) = false := beq_eq_false_iff_ne.mpr c18
                  have c18b1 : ((ji17) != 0) = true := bne_iff_ne.mpr c18
                  obtain rfl := Option.some.inj H
                  have hcz20_0 : wc.cell? ⟨gb137, 0, none⟩ = some (.int .i64 a0_0) := (blk_cell BK137.out 0).trans rfl
                  have hcz20_1 : wc.cell? ⟨gb137, 1, none⟩ = some (.slice A0_1 l0_1.length c0_1) := (blk_cell BK137.out 1).trans rfl
                  have hfz20_0 := blk_frozen BK137.out 0
                  have hfz20_1 := blk_frozen BK137.out 1
                  have p139 : 0 ≤ ((ji12) : Int) := of_decide_eq_true (by first | (with_reducible assumption) | assumption)
                  have q139 : (ji12) < (l0_1.length : Int) := of_decide_eq_true (by first | (with_reducible assumption) | assumption)
                  obtain ⟨ad139, e139, hx139_0⟩ := Kd.at_int HR0_1.out (ji12) p139 q139
                  cases e139
                  replace hx139_0 := (HB.out.cell (World.block_lt_of_cell? w _ hx139_0)).trans hx139_0
                  replace p139 := eq_true p139
                  replace q139 := eq_true q139
                  go_wp2
                  repeat (go_quiet (fail); try go_wp2)
                  go_ret
                  exact ⟨by first | rfl | (simp [errW_none, errW_some] <;> rfl) | (simp only [← hji12, ← hji15, ← hji17]; first | rfl | (simp [errW_none, errW_some] <;> rfl)) | (simp [*, errW_none, errW_some] <;> rfl), by repeat (first | (with_reducible first | exact HB.out | apply below_alloc | apply pw_below_drewN | apply below_drew1 | refine below_set ?_ GE137.out) | exact HB.out)⟩
              · rw [if_neg c16] at H
                exact absurd H (by simp)
            · rw [if_neg c14] at H
              exact absurd H (by simp)
          · rw [if_neg c13] at H
            exact absurd H (by simp)
        · rw [if_neg c11] at H
          have c11b0 : decide (0 < (Int.tmod a0_0 64)) = false := decide_eq_false c11
          clear c11
          obtain rfl := Option.some.inj H
          have hcz21_0 : wc.cell? ⟨gb137, 0, none⟩ = some (.int .i64 a0_0) := (blk_cell BK137.out 0).trans rfl
          have hcz21_1 : wc.cell? ⟨gb137, 1, none⟩ = some (.slice A0_1 l0_1.length c0_1) := (blk_cell BK137.out 1).trans rfl
          have hfz21_0 := blk_frozen BK137.out 0
          have hfz21_1 := blk_frozen BK137.out 1
          go_wp2
          repeat (go_quiet (fail); try go_wp2)
          go_ret
          exact ⟨by first | rfl | (simp [errW_none, errW_some] <;> rfl) | (simp [*, errW_none, errW_some] <;> rfl), by repeat (first | (with_reducible first | exact HB.out | apply below_alloc | apply pw_below_drewN | apply below_drew1 | refine below_set ?_ GE137.out) | exact HB.out)⟩
def bfits.f (a0_0 : Int) (a0_1 : Int) (a1 : Int) : Option (Bool) := if a0_0 ≥ 0 then (if a0_1 ≥ 0 then (if a0_0 ≤ a1 then (some (decide (a0_1 ≤ (wrap64 (a1 - a0_0))))) else (some false)) else (some false)) else (some false)
set_option maxHeartbeats 8000000 in
set_option maxRecDepth 100000 in
theorem bfits.calls (a0_0 : Int) (a0_1 : Int) (a1 : Int) (r : Bool) (w : World) (h : bfits.f a0_0 a0_1 a1 = some r) :
    Calls Tryd.prog 53 #[.agg #[.int .i64 a0_0, .int .i64 a0_1], .int .i64 a1] w fun e w' => e = .returned (.bool r) ∧ Below w.heap.size w w' := by
  have hu26 := Tryd.underlying26
  have HB := Aside0.mk (Below.refl w.heap.size w)
  have H : (if a0_0 ≥ 0 then (if a0_1 ≥ 0 then (if a0_0 ≤ a1 then (some (decide (a0_1 ≤ (wrap64 (a1 - a0_0))))) else (some false)) else (some false)) else (some false)) = some r := h
  clear h
  by_cases c3 : a0_0 ≥ 0
  · rw [if_pos c3] at H
    have c3b0 : decide (0 ≤ a0_0) = true := decide_eq_true c3
    clear c3
    by_cases c4 : a0_1 ≥ 0
    · rw [if_pos c4] at H
      have c4b0 : decide (0 ≤ a0_1) = true := decide_eq_true c4
      clear c4
      by_cases c5 : a0_0 ≤ a1
      · rw [if_pos c5] at H
        have c5b0 : decide (a0_0 ≤ a1) = true := decide_eq_true c5
        clear c5
        obtain rfl := Option.some.inj H
        go_enter Tryd.func53, Tryd.ntmps53
        go_wp2_with (first | ((with_reducible refine gate_dst (N := 2) rfl ?_); refine box_event ?hg (N := 2) ?hd (cs := #[.int .i64 a0_0, .int .i64 a0_1]) (t := 26) ?hr ?_; (case hd => rfl); (case hg => rfl); (case hr => first | (go_simp; done) | (go_simp; rfl)); intro gb140 hg w6 hbox hb; have n0_ := Aside0.mk (below_step (by repeat (first | (with_reducible first | exact HB.out | apply below_alloc | apply pw_below_drewN | apply below_drew1) | exact HB.out)) hb); have n1_ := Aside0.mk (hbox); have n2_ := Aside0.mk ((by rw [hg]; exact (below_size (by repeat (first | (with_reducible first | exact HB.out | apply below_alloc | apply pw_below_drewN | apply below_drew1) | exact HB.out))) : w.heap.size ≤ gb140)); have n3_ := Aside0.mk ((by rw [hg]; exact (below_size (by repeat (first | (with_reducible first | exact HB.out | apply below_alloc | apply pw_below_drewN | apply below_drew1) | exact HB.out))) : w.heap.size ≤ gb140)); clear HB; have HB := n0_; have BK140 := n1_; have GW140 := n2_; have GE140 := n3_; clear n0_ n1_ n2_ n3_; clear hb hbox hg; have hcz7_0 : w6.cell? ⟨gb140, 0, none⟩ = some (.int .i64 a0_0) := (blk_cell BK140.out 0).trans rfl; have hcz7_1 : w6.cell? ⟨gb140, 1, none⟩ = some (.int .i64 a0_1) := (blk_cell BK140.out 1).trans rfl; have hfz7_0 := blk_frozen BK140.out 0; have hfz7_1 := blk_frozen BK140.out 1))
        go_ret
        exact ⟨by first | rfl | (simp [errW_none, errW_some] <;> rfl) | (simp [*, errW_none, errW_some] <;> rfl), by repeat (first | (with_reducible first | exact HB.out | apply below_alloc | apply pw_below_drewN | apply below_drew1 | refine below_set ?_ GE140.out) | exact HB.out)⟩
      · rw [if_neg c5] at H
        have c5b0 : decide (a0_0 ≤ a1) = false := decide_eq_false c5
        clear c5
        obtain rfl := Option.some.inj H
        go_enter Tryd.func53, Tryd.ntmps53
        go_wp2_with (first | ((with_reducible refine gate_dst (N := 2) rfl ?_); refine box_event ?hg (N := 2) ?hd (cs := #[.int .i64 a0_0, .int .i64 a0_1]) (t := 26) ?hr ?_; (case hd => rfl); (case hg => rfl); (case hr => first | (go_simp; done) | (go_simp; rfl)); intro gb140 hg w8 hbox hb; have n0_ := Aside0.mk (below_step (by repeat (first | (with_reducible first | exact HB.out | apply below_alloc | apply pw_below_drewN | apply below_drew1) | exact HB.out)) hb); have n1_ := Aside0.mk (hbox); have n2_ := Aside0.mk ((by rw [hg]; exact (below_size (by repeat (first | (with_reducible first | exact HB.out | apply below_alloc | apply pw_below_drewN | apply below_drew1) | exact HB.out))) : w.heap.size ≤ gb140)); have n3_ := Aside0.mk ((by rw [hg]; exact (below_size (by repeat (first | (with_reducible first | exact HB.out | apply below_alloc | apply pw_below_drewN | apply below_drew1) | exact HB.out))) : w.heap.size ≤ gb140)); clear HB; have HB := n0_; have BK140 := n1_; have GW140 := n2_; have GE140 := n3_; clear n0_ n1_ n2_ n3_; clear hb hbox hg; have hcz9_0 : w8.cell? ⟨gb140, 0, none⟩ = some (.int .i64 a0_0) := (blk_cell BK140.out 0).trans rfl; have hcz9_1 : w8.cell? ⟨gb140, 1, none⟩ = some (.int .i64 a0_1) := (blk_cell BK140.out 1).trans rfl; have hfz9_0 := blk_frozen BK140.out 0; have hfz9_1 := blk_frozen BK140.out 1))
        go_ret
        exact ⟨by first | rfl | (simp [errW_none, errW_some] <;> rfl) | (simp [*, errW_none, errW_some] <;> rfl), by repeat (first | (with_reducible first | exact HB.out | apply below_alloc | apply pw_below_drewN | apply below_drew1 | refine below_set ?_ GE140.out) | exact HB.out)⟩
    · rw [if_neg c4] at H
      have c4b0 : decide (0 ≤ a0_1) = false := decide_eq_false c4
      clear c4
      obtain rfl := Option.some.inj H
      go_enter Tryd.func53, Tryd.ntmps53
      go_wp2_with (first | ((with_reducible refine gate_dst (N := 2) rfl ?_); refine box_event ?hg (N := 2) ?hd (cs := #[.int .i64 a0_0, .int .i64 a0_1]) (t := 26) ?hr ?_; (case hd => rfl); (case hg => rfl); (case hr => first | (go_simp; done) | (go_simp; rfl)); intro gb140 hg w10 hbox hb; have n0_ := Aside0.mk (below_step (by repeat (first | (with_reducible first | exact HB.out | apply below_alloc | apply pw_below_drewN | apply below_drew1) | exact HB.out)) hb); have n1_ := Aside0.mk (hbox); have n2_ := Aside0.mk ((by rw [hg]; exact (below_size (by repeat (first | (with_reducible first | exact HB.out | apply below_alloc | apply pw_below_drewN | apply below_drew1) | exact HB.out))) : w.heap.size ≤ gb140)); have n3_ := Aside0.mk ((by rw [hg]; exact (below_size (by repeat (first | (with_reducible first | exact HB.out | apply below_alloc | apply pw_below_drewN | apply below_drew1) | exact HB.out))) : w.heap.size ≤ gb140)); clear HB; have HB := n0_; have BK140 := n1_; have GW140 := n2_; have GE140 := n3_; clear n0_ n1_ n2_ n3_; clear hb hbox hg; have hcz11_0 : w10.cell? ⟨gb140, 0, none⟩ = some (.int .i64 a0_0) := (blk_cell BK140.out 0).trans rfl; have hcz11_1 : w10.cell? ⟨gb140, 1, none⟩ = some (.int .i64 a0_1) := (blk_cell BK140.out 1).trans rfl; have hfz11_0 := blk_frozen BK140.out 0; have hfz11_1 := blk_frozen BK140.out 1))
      go_ret
      exact ⟨by first | rfl | (simp [errW_none, errW_some] <;> rfl) | (simp [*, errW_none, errW_some] <;> rfl), by repeat (first | (with_reducible first | exact HB.out | apply below_alloc | apply pw_below_drewN | apply below_drew1 | refine below_set ?_ GE140.out) | exact HB.out)⟩
  · rw [if_neg c3] at H
    have c3b0 : decide (0 ≤ a0_0) = false := decide_eq_false c3
    clear c3
    obtain rfl := Option.some.inj H
    go_enter Tryd.func53, Tryd.ntmps53
    go_wp2_with (first | ((with_reducible refine gate_dst (N := 2) rfl ?_); refine box_event ?hg (N := 2) ?hd (cs := #[.int .i64 a0_0, .int .i64 a0_1]) (t := 26) ?hr ?_; (case hd => rfl); (case hg => rfl); (case hr => first | (go_simp; done) | (go_simp; rfl)); intro gb140 hg w12 hbox hb; have n0_ := Aside0.mk (below_step (by repeat (first | (with_reducible first | exact HB.out | apply below_alloc | apply pw_below_drewN | apply below_drew1) | exact HB.out)) hb); have n1_ := Aside0.mk (hbox); have n2_ := Aside0.mk ((by rw [hg]; exact (below_size (by repeat (first | (with_reducible first | exact HB.out | apply below_alloc | apply pw_below_drewN | apply below_drew1) | exact HB.out))) : w.heap.size ≤ gb140)); have n3_ := Aside0.mk ((by rw [hg]; exact (below_size (by repeat (first | (with_reducible first | exact HB.out | apply below_alloc | apply pw_below_drewN | apply below_drew1) | exact HB.out))) : w.heap.size ≤ gb140)); clear HB; have HB := n0_; have BK140 := n1_; have GW140 := n2_; have GE140 := n3_; clear n0_ n1_ n2_ n3_; clear hb hbox hg; have hcz13_0 : w12.cell? ⟨gb140, 0, none⟩ = some (.int .i64 a0_0) := (blk_cell BK140.out 0).trans rfl; have hcz13_1 : w12.cell? ⟨gb140, 1, none⟩ = some (.int .i64 a0_1) := (blk_cell BK140.out 1).trans rfl; have hfz13_0 := blk_frozen BK140.out 0; have hfz13_1 := blk_frozen BK140.out 1))
    go_ret
    exact ⟨by first | rfl | (simp [errW_none, errW_some] <;> rfl) | (simp [*, errW_none, errW_some] <;> rfl), by repeat (first | (with_reducible first | exact HB.out | apply below_alloc | apply pw_below_drewN | apply below_drew1 | refine below_set ?_ GE140.out) | exact HB.out)⟩
def bmask.f (a0 : Int) (a1 : Int) (a2 : Int) : Option (Int) := if (mx (wrap64 (a1 - (wrap64 (a0 * 64)))) 0) ≥ (mn (wrap64 (a2 - (wrap64 (a0 * 64)))) 64) then (some 0) else (if 0 ≤ (wrap64 (64 - (wrap64 ((mn (wrap64 (a2 - (wrap64 (a0 * 64)))) 64) - (mx (wrap64 (a1 - (wrap64 (a0 * 64)))) 0))))) then (some (shl .u64 (shr .u64 18446744073709551615 (wrap64 (64 - (wrap64 ((mn (wrap64 (a2 - (wrap64 (a0 * 64)))) 64) - (mx (wrap64 (a1 - (wrap64 (a0 * 64)))) 0)))))) (mx (wrap64 (a1 - (wrap64 (a0 * 64)))) 0))) else (none))
end Go.Proofs.YthpldfjjdmjcoaaDoor.P

namespace Go.Proofs.YthpldfjjdmjcoaaDoor.P
/-- The places of the bits of a word, in ascending order. -/
def bitsOf (w : Nat) : List Nat := (List.range 64).filter fun i => w.testBit i
theorem filter_first (k : Nat) (p q : Nat → Bool) (hp : ∀ i, p i = (decide (i = k) || q i)) (hq : ∀ i, q i = true → k < i) :
    ∀ n, ((List.range n).filter p = if k < n then k :: (List.range n).filter q else []) ∧ (n ≤ k → (List.range n).filter q = [])
  | 0 => by simp
  | n + 1 => by
    obtain ⟨h1, h2⟩ := filter_first k p q hp hq n
    rw [List.range_succ, List.filter_append, List.filter_append, h1]
    have hpn : p n = (decide (n = k) || q n) := hp n
    constructor
    · rcases Nat.lt_trichotomy n k with h | h | h
      · have hqn : q n = false := by
          cases e : q n
          · rfl
          · have := hq n e; omega
        rw [if_neg (by omega), if_neg (by omega)]
        simp [hpn, hqn, show n ≠ k by omega]
      · subst h
        have hqn : q n = false := by
          cases e : q n
          · rfl
          · have := hq n e; omega
        rw [if_neg (by omega), if_pos (by omega), h2 (by omega)]
        simp [hpn, hqn]
      · rw [if_pos h, if_pos (by omega)]
        have : p n = q n := by rw [hpn]; simp [show n ≠ k by omega]
        simp [List.filter_cons, this]
    · intro hn
      rw [h2 (by omega)]
      have hqn : q n = false := by
        cases e : q n
        · rfl
        · have := hq n e; omega
      simp [hqn]
theorem bitsOf_zero : bitsOf 0 = [] := by unfold bitsOf; simp
theorem tb_mul (k a i : Nat) : (2 ^ k * a).testBit i = (decide (k ≤ i) && a.testBit (i - k)) := by rw [Nat.mul_comm, Nat.testBit_mul_two_pow]
/-- x & (x - 1) for x = 2^k (2m + 1): 2^(k+1) m. -/
theorem and_pred (k m : Nat) : (2 ^ k * (2 * m + 1)) &&& (2 ^ k * (2 * m + 1) - 1) = 2 ^ (k + 1) * m := by
  have hp : 0 < 2 ^ k := Nat.pow_pos (by decide)
  have e : 2 ^ k * (2 * m + 1) - 1 = 2 ^ k * (2 * m) + (2 ^ k - 1) := by rw [Nat.mul_add, Nat.mul_one]; omega
  apply Nat.eq_of_testBit_eq
  intro i
  rw [Nat.testBit_and, e, Nat.testBit_two_pow_mul_add _ (by omega), tb_mul, tb_mul]
  by_cases h : i < k
  · simp [h, show ¬ k ≤ i by omega, show ¬ k + 1 ≤ i by omega]
  · by_cases h2 : i = k
    · subst h2
      simp
      omega
    · obtain ⟨j, rfl⟩ : ∃ j, i = k + (j + 1) := ⟨i - k - 1, by omega⟩
      rw [if_neg (by omega)]
      have e3 : k + (j + 1) - k = j + 1 := by omega
      have e4 : k + (j + 1) - (k + 1) = j := by omega
      simp only [e3, e4, show k ≤ k + (j + 1) by omega, show k + 1 ≤ k + (j + 1) by omega, decide_true, Bool.true_and]
      rw [Nat.testBit_succ, Nat.testBit_succ]
      have d1 : (2 * m + 1) / 2 = m := by omega
      have d2 : 2 * m / 2 = m := by omega
      rw [d1, d2, Bool.and_self]
/-- The lowest bit first. -/
theorem bitsOf_step (x : Nat) (h0 : x ≠ 0) (h : x < 2 ^ 64) : bitsOf x = Lib.ctz 64 x :: bitsOf (x &&& (x - 1)) ∧ (x &&& (x - 1)) < x ∧ Lib.ctz 64 x < 64 := by
  obtain ⟨m, hm, hk⟩ := Lib.ctzFrom_spec 64 x (by omega) h
  have e : Lib.ctz 64 x = Lib.ctzFrom 64 x := by simp [Lib.ctz, h0]
  rw [e]
  have ha := and_pred (Lib.ctzFrom 64 x) m
  rw [← hm] at ha
  generalize Lib.ctzFrom 64 x = k at *
  have hpos : 0 < 2 ^ k := Nat.pow_pos (by decide)
  refine ⟨?_, ?_, hk⟩
  · have := (filter_first k (fun i => x.testBit i) (fun i => (x &&& (x - 1)).testBit i) (fun i => ?_) (fun i hi => ?_) 64).1
    · rw [if_pos hk] at this; exact this
    · rw [ha, hm, tb_mul, tb_mul]
      rcases Nat.lt_trichotomy i k with g | g | g
      · simp [show ¬ k ≤ i by omega, show ¬ k + 1 ≤ i by omega, show i ≠ k by omega]
      · subst g; simp
      · obtain ⟨j, rfl⟩ : ∃ j, i = k + (j + 1) := ⟨i - k - 1, by omega⟩
        have e3 : k + (j + 1) - k = j + 1 := by omega
        have e4 : k + (j + 1) - (k + 1) = j := by omega
        simp only [e3, e4, show k ≤ k + (j + 1) by omega, show k + 1 ≤ k + (j + 1) by omega, decide_true, Bool.true_and]
        rw [Nat.testBit_succ, show (2 * m + 1) / 2 = m by omega]
        simp
    · rw [ha, tb_mul] at hi
      simp only [Bool.and_eq_true, decide_eq_true_eq] at hi
      omega
  · rw [ha, hm, Nat.pow_succ, Nat.mul_assoc]
    exact Nat.mul_lt_mul_of_pos_left (by omega) hpos
end Go.Proofs.YthpldfjjdmjcoaaDoor.P

namespace Go.Proofs.YthpldfjjdmjcoaaDoor.P
open Go.RowKit Go.Proofs.YthpldfjjdmjcoaaDoorW.PrintWords Go.Proofs.YthpldfjjdmjcoaaDoorW.PrintLast Go.Proofs.YthpldfjjdmjcoaaDoorW.PrintMore
/-- The mask of a word. -/
def mkW (i lo hi : Int) : Int := (bmask.f i lo hi).getD 0
/-- Is a bitmap well-formed? -/
def good (size : Int) (ws : List Int) : Bool := decide (bCheck.f 1 size ws = some 0)
def fit (s c size : Int) : Bool := decide (bfits.f s c size = some true)
def bChange (op : BinOp) (size : Int) (ws : List Int) (s c : Int) : Int × List Int × Int :=
  if good size ws then (if fit s c size then (size, ws.mapIdx fun i w => Go.bits op .u64 w (mkW i s (wrap64 (s + c))), 0) else (0, [], 2)) else (0, [], 3)
def bSet.f (size : Int) (ws : List Int) (s c : Int) : Option (Int × List Int × Int) := some (bChange .or size ws s c)
def bClear.f (size : Int) (ws : List Int) (s c : Int) : Option (Int × List Int × Int) := some (bChange .andNot size ws s c)
def bBoth (op : BinOp) (n : Int) (xs : List Int) (m : Int) (ys : List Int) : Int × List Int × Int :=
  if good n xs then (if good m ys then (if n = m then (n, List.zipWith (Go.bits op .u64) xs ys, 0) else (0, [], 22)) else (0, [], 3)) else (0, [], 3)
def bOr.f (n : Int) (xs : List Int) (m : Int) (ys : List Int) : Option (Int × List Int × Int) := some (bBoth .or n xs m ys)
def bAnd.f (n : Int) (xs : List Int) (m : Int) (ys : List Int) : Option (Int × List Int × Int) := some (bBoth .and n xs m ys)
def bAndNot.f (n : Int) (xs : List Int) (m : Int) (ys : List Int) : Option (Int × List Int × Int) := some (bBoth .andNot n xs m ys)
/-- The word i, with the bits before 'lo' struck, and those from the size on. -/
def cutW (ws : List Int) (lo size : Int) (i : Nat) : Nat := (Go.bits .and .u64 (rd ws i) (mkW i lo size)).toNat
def elemsW (ws : List Int) (lo size : Int) (i : Nat) : List Int := (bitsOf (cutW ws lo size i)).map fun (b : Nat) => ((i * 64 + b : Nat) : Int)
/-- The elements from 'lo' on, in ascending order. -/
def elems (ws : List Int) (lo size : Int) : List Int := (List.range ws.length).flatMap (elemsW ws lo size)
def bElems (size : Int) (ws : List Int) (lo : Int) : List Int := if good size ws then elems ws lo size else []
def bNext.f (size : Int) (ws : List Int) (lo : Int) : Option Int := some ((bElems size ws (mx lo 0)).head?.getD (-1))
/-- One element more: it lengthens the last extent, or begins a new one. -/
def joinE (l : List S26) (x : Int) : List S26 :=
  match l.getLast? with
  | some e => if wrap64 (e.f0 + e.f1) = x then l.dropLast ++ [⟨e.f0, wrap64 (e.f1 + 1)⟩] else l ++ [⟨x, 1⟩]
  | none => [⟨x, 1⟩]
def bExtents.f (size : Int) (ws : List Int) : Option (List S26) := some ((bElems size ws 0).foldl joinE [])
theorem w64 (x : Int) (h0 : -9223372036854775808 ≤ x) (h1 : x ≤ 9223372036854775807) : wrap64 x = x := by unfold wrap64; omega
theorem words_eq (n : Int) (h0 : 0 ≤ n) (h1 : n ≤ 4096) : bwords.f n = some ((n + 63) / 64) := by
  unfold bwords.f
  rw [w64 (n + 64) (by omega) (by omega), w64 (n + 64 - 1) (by omega) (by omega), Int.tdiv_eq_ediv_of_nonneg (by omega), w64 _ (by omega) (by omega)]
  congr 2; omega
/-- Well-formed, in plain words. -/
structure Good (size : Int) (ws : List Int) : Prop where
  lo : 0 ≤ size
  hi : size ≤ 4096
  len : (ws.length : Int) = (size + 63) / 64
  last : 0 < size % 64 → rd ws ((ws.length : Int) - 1) / 2 ^ (size % 64).toNat = 0
theorem check_j (b : Bool) (size : Int) (ws : List Int) (k : Nat) : b = true → bCheck.j0 (k + 1) b size ws = some 3 := by
  intro h; simp only [bCheck.j0]; rw [if_pos h]
theorem check_any (k : Nat) (size : Int) (ws : List Int) : (Good size ws ∧ bCheck.f (k + 1) size ws = some 0) ∨ (¬ Good size ws ∧ bCheck.f (k + 1) size ws = some 3) := by
  unfold bCheck.f
  by_cases h1 : size < 0
  · rw [if_pos h1]; exact .inr ⟨fun g => by have := g.lo; omega, check_j _ _ _ _ rfl⟩
  rw [if_neg h1]
  by_cases h2 : size > 4096
  · rw [if_pos h2]; exact .inr ⟨fun g => by have := g.hi; omega, check_j _ _ _ _ rfl⟩
  rw [if_neg h2, words_eq size (by omega) (by omega)]
  simp only [Option.bind_some]
  by_cases h3 : (ws.length : Int) = (size + 63) / 64
  · rw [show ((ws.length : Int) != (size + 63) / 64) = false from by simpa using h3]
    simp only [bCheck.j0]
    rw [if_neg (by decide), Int.tmod_eq_emod_of_nonneg (by omega)]
    by_cases h4 : size % 64 > 0
    · rw [if_pos h4, w64 ((ws.length : Int) - 1) (by omega) (by omega), if_pos (by omega), if_pos (by omega), if_pos (by omega)]
      have hs : shr .u64 (rd ws ((ws.length : Int) - 1)) (size % 64) = rd ws ((ws.length : Int) - 1) / 2 ^ (size % 64).toNat := by
        unfold shr; rw [Nat.min_eq_left (by simp only [IntKind.bits]; omega)]
      rw [hs]
      by_cases h5 : rd ws ((ws.length : Int) - 1) / 2 ^ (size % 64).toNat = 0
      · rw [if_pos h5]; exact .inl ⟨⟨by omega, by omega, h3, fun _ => h5⟩, rfl⟩
      · rw [if_neg h5]; exact .inr ⟨fun g => h5 (g.last h4), rfl⟩
    · rw [if_neg h4]; exact .inl ⟨⟨by omega, by omega, h3, fun h => absurd h h4⟩, rfl⟩
  · rw [show ((ws.length : Int) != (size + 63) / 64) = true from by simpa using h3]
    exact .inr ⟨fun g => h3 g.len, check_j _ _ _ _ rfl⟩
theorem good_yes {size : Int} {ws : List Int} (h : Good size ws) (k : Nat) : bCheck.f (k + 1) size ws = some 0 := by
  rcases check_any k size ws with h' | h'
  · exact h'.2
  · exact absurd h h'.1
theorem good_no {size : Int} {ws : List Int} (h : ¬ Good size ws) (k : Nat) : bCheck.f (k + 1) size ws = some 3 := by
  rcases check_any k size ws with h' | h'
  · exact absurd h'.1 h
  · exact h'.2
theorem good_iff (size : Int) (ws : List Int) : good size ws = true ↔ Good size ws := by
  unfold good
  rw [decide_eq_true_iff]
  rcases check_any 0 size ws with ⟨h, e⟩ | ⟨h, e⟩
  · exact ⟨fun _ => h, fun _ => e⟩
  · exact ⟨fun h' => by rw [e] at h'; simp at h', fun h' => absurd h' h⟩
theorem Good.len_le {size : Int} {ws : List Int} (h : Good size ws) : ws.length ≤ 64 := by have := h.len; have := h.hi; omega
def Fits (s c size : Int) : Prop := 0 ≤ s ∧ 0 ≤ c ∧ s ≤ size ∧ c ≤ wrap64 (size - s)
instance (s c size : Int) : Decidable (Fits s c size) := by unfold Fits; infer_instance
theorem fits_eq (s c size : Int) : bfits.f s c size = some (decide (Fits s c size)) := by
  unfold bfits.f Fits
  by_cases h1 : s ≥ 0
  · rw [if_pos h1]
    by_cases h2 : c ≥ 0
    · rw [if_pos h2]
      by_cases h3 : s ≤ size
      · rw [if_pos h3]; congr 1; simp [show 0 ≤ s from h1, show 0 ≤ c from h2, h3]
      · rw [if_neg h3]; congr 1; simp [h3]
    · rw [if_neg h2]; congr 1; simp [show ¬ 0 ≤ c from h2]
  · rw [if_neg h1]; congr 1; simp [show ¬ 0 ≤ s from h1]
theorem fit_eq (s c size : Int) : fit s c size = decide (Fits s c size) := by unfold fit; rw [fits_eq]; by_cases h : Fits s c size <;> simp [h]
theorem Fits.bounds {s c size : Int} (h : Fits s c size) (h0 : 0 ≤ size) (h1 : size ≤ 4096) : 0 ≤ s ∧ 0 ≤ c ∧ s + c ≤ size := by
  obtain ⟨a, b, d, e⟩ := h
  rw [w64 (size - s) (by omega) (by omega)] at e
  omega
theorem mx_eq (a b : Int) : mx a b = max a b := by unfold mx; omega
theorem mn_eq (a b : Int) : mn a b = min a b := by unfold mn; omega
/-- The mask of word i: the bits from 'lo' to before 'hi'. -/
def maskN (a b : Nat) : Nat := if b ≤ a then 0 else (2 ^ (b - a) - 1) * 2 ^ a
theorem mask_eq (i : Nat) (lo hi : Int) (hi0 : i ≤ 64) (l0 : 0 ≤ lo) (l1 : lo ≤ 9223372036854775807) (h0 : 0 ≤ hi) (h1 : hi ≤ 4096) :
    bmask.f i lo hi = some ((maskN (lo - i * 64).toNat (min (hi - i * 64) 64).toNat : Nat) : Int) := by
  have e1 : wrap64 ((i : Int) * 64) = i * 64 := w64 _ (by omega) (by omega)
  have e2 : wrap64 (lo - (i : Int) * 64) = lo - i * 64 := w64 _ (by omega) (by omega)
  have e3 : wrap64 (hi - (i : Int) * 64) = hi - i * 64 := w64 _ (by omega) (by omega)
  unfold bmask.f
  rw [e1, e2, e3, mx_eq, mn_eq]
  unfold maskN
  by_cases h : max (lo - (i : Int) * 64) 0 ≥ min (hi - (i : Int) * 64) 64
  · rw [if_pos h, if_pos (show (min (hi - (i : Int) * 64) 64).toNat ≤ (lo - (i : Int) * 64).toNat by omega)]; rfl
  · rw [if_neg h, if_neg (show ¬ (min (hi - (i : Int) * 64) 64).toNat ≤ (lo - (i : Int) * 64).toNat by omega)]
    have e4 : wrap64 (min (hi - (i : Int) * 64) 64 - max (lo - (i : Int) * 64) 0) = min (hi - (i : Int) * 64) 64 - max (lo - (i : Int) * 64) 0 := w64 _ (by omega) (by omega)
    rw [e4]
    have e5 : wrap64 (64 - (min (hi - (i : Int) * 64) 64 - max (lo - (i : Int) * 64) 0)) = 64 - (min (hi - (i : Int) * 64) 64 - max (lo - (i : Int) * 64) 0) := w64 _ (by omega) (by omega)
    rw [e5, if_pos (by omega)]
    obtain ⟨a, ha⟩ : ∃ a : Nat, max (lo - (i : Int) * 64) 0 = a := ⟨(max (lo - (i : Int) * 64) 0).toNat, by omega⟩
    obtain ⟨b, hb⟩ : ∃ b : Nat, min (hi - (i : Int) * 64) 64 = b := ⟨(min (hi - (i : Int) * 64) 64).toNat, by omega⟩
    rw [ha, hb]
    have hab : a < b ∧ b ≤ 64 := by omega
    rw [show (lo - (i : Int) * 64).toNat = a from by omega, Int.toNat_natCast]
    have e6 : (64 - ((b : Int) - a)).toNat = 64 - (b - a) := by omega
    have e7 : shr .u64 18446744073709551615 (64 - ((b : Int) - a)) = ((2 ^ (b - a) - 1 : Nat) : Int) := by
      unfold shr
      rw [e6, Nat.min_eq_left (by simp only [IntKind.bits]; omega)]
      have : (18446744073709551615 : Int) = ((2 ^ 64 - 1 : Nat) : Int) := by decide
      rw [this]
      have h2 : (2 : Int) ^ (64 - (b - a)) = ((2 ^ (64 - (b - a)) : Nat) : Int) := by simp
      rw [h2, ← Int.natCast_ediv]
      congr 1
      have h3 : 2 ^ 64 = 2 ^ (b - a) * 2 ^ (64 - (b - a)) := by rw [← Nat.pow_add]; congr 1; omega
      rw [h3]
      have hp : 0 < 2 ^ (64 - (b - a)) := Nat.pow_pos (by decide)
      have hq : 0 < 2 ^ (b - a) := Nat.pow_pos (by decide)
      generalize 2 ^ (64 - (b - a)) = P at hp
      generalize 2 ^ (b - a) = Q at hq
      refine Nat.div_eq_of_lt_le ?_ ?_
      · rw [Nat.sub_mul]; omega
      · rw [Nat.sub_add_cancel hq]; exact Nat.sub_lt (Nat.mul_pos hq hp) (by decide)
    rw [e7]
    unfold shl
    rw [Int.toNat_natCast, Nat.min_eq_left (by simp only [IntKind.bits]; omega)]
    have h2 : (2 : Int) ^ a = ((2 ^ a : Nat) : Int) := by simp
    rw [h2, ← Int.natCast_mul]
    congr 1
    have hlt : (2 ^ (b - a) - 1) * 2 ^ a < 18446744073709551616 := by
      have : (2 ^ (b - a) - 1) * 2 ^ a < 2 ^ (b - a) * 2 ^ a := Nat.mul_lt_mul_of_pos_right (Nat.sub_lt (Nat.pow_pos (by decide)) (by decide)) (Nat.pow_pos (by decide))
      rw [← Nat.pow_add] at this
      exact Nat.lt_of_lt_of_le this (by rw [show 18446744073709551616 = 2 ^ 64 from by decide]; exact Nat.pow_le_pow_right (by decide) (by omega))
    generalize (2 ^ (b - a) - 1) * 2 ^ a = M at hlt
    rw [IntKind.wrap_u64]
    omega
theorem mkW_eq (i : Nat) (lo hi : Int) (hi0 : i ≤ 64) (l0 : 0 ≤ lo) (l1 : lo ≤ 9223372036854775807) (h0 : 0 ≤ hi) (h1 : hi ≤ 4096) :
    mkW i lo hi = ((maskN (lo - i * 64).toNat (min (hi - i * 64) 64).toNat : Nat) : Int) := by
  unfold mkW; rw [mask_eq i lo hi hi0 l0 l1 h0 h1]; rfl
theorem mask_some (i : Nat) (lo hi : Int) (hi0 : i ≤ 64) (l0 : 0 ≤ lo) (l1 : lo ≤ 9223372036854775807) (h0 : 0 ≤ hi) (h1 : hi ≤ 4096) : bmask.f i lo hi = some (mkW i lo hi) := by
  rw [mkW_eq i lo hi hi0 l0 l1 h0 h1, mask_eq i lo hi hi0 l0 l1 h0 h1]
end Go.Proofs.YthpldfjjdmjcoaaDoor.P

namespace Go.Proofs.YthpldfjjdmjcoaaDoor.P
open Go.RowKit Go.Proofs.YthpldfjjdmjcoaaDoorW.PrintWords Go.Proofs.YthpldfjjdmjcoaaDoorW.PrintLast Go.Proofs.YthpldfjjdmjcoaaDoorW.PrintMore
def U1 (x : Int) : Prop := 0 ≤ x ∧ x < 18446744073709551616
def U (ws : List Int) : Prop := ∀ x ∈ ws, U1 x
def wbit (x : Int) (j : Nat) : Bool := x.toNat.testBit j
def tb (ws : List Int) (i : Nat) : Bool := wbit (ws.getD (i / 64) 0) (i % 64)
def opb : BinOp → Bool → Bool → Bool
  | .or, a, b => a || b
  | .and, a, b => a && b
  | .andNot, a, b => a && !b
  | _, _, _ => false
def OpOK (op : BinOp) : Prop := op = .or ∨ op = .and ∨ op = .andNot
theorem ofInt_toNat {x : Int} (h : U1 x) : (BitVec.ofInt 64 x).toNat = x.toNat := by
  obtain ⟨n, rfl⟩ : ∃ n : Nat, x = n := ⟨x.toNat, by have := h.1; omega⟩
  have h2 := h.2
  rw [BitVec.ofInt_natCast, BitVec.toNat_ofNat, Int.toNat_natCast]
  exact Nat.mod_eq_of_lt (by omega)
theorem wrap_bv (b : BitVec 64) : IntKind.u64.wrap (b.toNat : Int) = b.toNat := by
  rw [IntKind.wrap_u64]; have := b.isLt; omega
theorem bits_bv (op : BinOp) (hop : OpOK op) (x y : Int) : ∃ b : BitVec 64, Go.bits op .u64 x y = (b.toNat : Int) ∧ ∀ j, j < 64 → b.toNat.testBit j = opb op ((BitVec.ofInt 64 x).toNat.testBit j) ((BitVec.ofInt 64 y).toNat.testBit j) := by
  rcases hop with rfl | rfl | rfl
  · exact ⟨BitVec.ofInt 64 x ||| BitVec.ofInt 64 y, wrap_bv _, fun j hj => by rw [BitVec.toNat_or, Nat.testBit_or]; rfl⟩
  · exact ⟨BitVec.ofInt 64 x &&& BitVec.ofInt 64 y, wrap_bv _, fun j hj => by rw [BitVec.toNat_and, Nat.testBit_and]; rfl⟩
  · refine ⟨BitVec.ofInt 64 x &&& ~~~ BitVec.ofInt 64 y, wrap_bv _, fun j hj => ?_⟩
    simp only [BitVec.testBit_toNat, BitVec.getLsbD_and, BitVec.getLsbD_not]
    simp [opb, hj]
theorem bits_U1 {op : BinOp} (hop : OpOK op) (x y : Int) : U1 (Go.bits op .u64 x y) := by
  obtain ⟨b, e, -⟩ := bits_bv op hop x y
  rw [e]; have := b.isLt; exact ⟨by omega, by omega⟩
theorem bits_wbit {op : BinOp} (hop : OpOK op) {x y : Int} (hx : U1 x) (hy : U1 y) {j : Nat} (hj : j < 64) : wbit (Go.bits op .u64 x y) j = opb op (wbit x j) (wbit y j) := by
  obtain ⟨b, e, h⟩ := bits_bv op hop x y
  unfold wbit
  rw [e, Int.toNat_natCast, h j hj, ofInt_toNat hx, ofInt_toNat hy]
theorem getD_U {ws : List Int} (h : U ws) (i : Nat) : U1 (ws.getD i 0) := by
  rw [List.getD_eq_getElem?_getD]
  cases e : ws[i]? with
  | none => exact ⟨by decide, by decide⟩
  | some x => exact h x (List.mem_of_getElem? e)
theorem wbit_zero (j : Nat) : wbit 0 j = false := by simp [wbit]
theorem wbit_ext {x y : Int} (hx : U1 x) (hy : U1 y) (h : ∀ j, j < 64 → wbit x j = wbit y j) : x = y := by
  obtain ⟨hx0, hx1⟩ := hx
  obtain ⟨hy0, hy1⟩ := hy
  have : x.toNat = y.toNat := by
    apply Nat.eq_of_testBit_eq
    intro j
    rcases Nat.lt_or_ge j 64 with hj | hj
    · exact h j hj
    · rw [Nat.testBit_lt_two_pow (Nat.lt_of_lt_of_le (show x.toNat < 2 ^ 64 by omega) (Nat.pow_le_pow_right (by decide) hj)), Nat.testBit_lt_two_pow (Nat.lt_of_lt_of_le (show y.toNat < 2 ^ 64 by omega) (Nat.pow_le_pow_right (by decide) hj))]
  omega
theorem tb_ext {xs ys : List Int} (hx : U xs) (hy : U ys) (hl : xs.length = ys.length) (h : ∀ i, i < 64 * xs.length → tb xs i = tb ys i) : xs = ys := by
  apply List.ext_getElem hl
  intro n h1 h2
  have e : ∀ zs : List Int, (hz : n < zs.length) → zs[n] = zs.getD n 0 := fun zs hz => by rw [List.getD_eq_getElem?_getD, List.getElem?_eq_getElem hz]; rfl
  rw [e _ h1, e _ h2]
  refine wbit_ext (getD_U hx n) (getD_U hy n) fun j hj => ?_
  have := h (64 * n + j) (by omega)
  unfold tb at this
  rw [show (64 * n + j) / 64 = n by omega, show (64 * n + j) % 64 = j by omega] at this
  exact this
theorem tb_ge {ws : List Int} {i : Nat} (h : 64 * ws.length ≤ i) : tb ws i = false := by
  unfold tb
  rw [List.getD_eq_getElem?_getD, List.getElem?_eq_none (by omega)]
  exact wbit_zero _
theorem rd_nat (ws : List Int) (i : Nat) : rd ws (i : Int) = ws.getD i 0 := rfl
theorem shr_bit {x : Int} (h : U1 x) {j : Nat} (hj : j < 64) : (Go.bits .and .u64 (shr .u64 x (j : Int)) 1 == 1) = wbit x j := by
  obtain ⟨n, rfl⟩ : ∃ n : Nat, x = n := ⟨x.toNat, by have := h.1; omega⟩
  have h2 : n < 18446744073709551616 := by have := h.2; omega
  have hs : shr .u64 (n : Int) (j : Int) = ((n / 2 ^ j : Nat) : Int) := by
    unfold shr
    rw [Int.toNat_natCast, Nat.min_eq_left (by simp only [IntKind.bits]; omega)]
    rw [show (2 : Int) ^ j = ((2 ^ j : Nat) : Int) by simp, Int.natCast_ediv]
  have hn : n / 2 ^ j < 18446744073709551616 := Nat.lt_of_le_of_lt (Nat.div_le_self _ _) h2
  have e : Go.bits .and .u64 ((n / 2 ^ j : Nat) : Int) 1 = ((n / 2 ^ j &&& 1 : Nat) : Int) := by
    show IntKind.u64.wrap ((BitVec.ofInt 64 ((n / 2 ^ j : Nat) : Int) &&& BitVec.ofInt 64 1).toNat : Int) = _
    have hU : U1 ((n / 2 ^ j : Nat) : Int) := by
      generalize n / 2 ^ j = q at hn
      exact ⟨by omega, by omega⟩
    rw [wrap_bv, BitVec.toNat_and, ofInt_toNat hU, ofInt_toNat ⟨by decide, by decide⟩]
    rfl
  rw [hs, e]
  unfold wbit
  rw [Int.toNat_natCast, Nat.testBit_eq_decide_div_mod_eq, Nat.and_one_is_mod]
  generalize n / 2 ^ j % 2 = m
  by_cases hm : m = 1
  · subst hm; rfl
  · simp [hm]; omega
end Go.Proofs.YthpldfjjdmjcoaaDoor.P

namespace Go.Proofs.YthpldfjjdmjcoaaDoor.P
open Go.RowKit Go.Proofs.YthpldfjjdmjcoaaDoorW.PrintWords Go.Proofs.YthpldfjjdmjcoaaDoorW.PrintLast Go.Proofs.YthpldfjjdmjcoaaDoorW.PrintMore
theorem dv64 (i : Nat) (h : i < 1000000) : wrap64 (Int.tdiv (i : Int) 64) = ((i / 64 : Nat) : Int) := by
  rw [Int.tdiv_eq_ediv_of_nonneg (by omega), w64 _ (by omega) (by omega)]; omega
theorem md64 (i : Nat) : Int.tmod (i : Int) 64 = ((i % 64 : Nat) : Int) := by
  rw [Int.tmod_eq_emod_of_nonneg (by omega)]; omega
theorem wmd64 (i : Nat) : IntKind.u64.wrap (Int.tmod (i : Int) 64) = ((i % 64 : Nat) : Int) := by
  rw [md64, IntKind.wrap_u64]; omega
theorem wsucc (i : Nat) (h : i < 1000000) : wrap64 ((i : Int) + 1) = ((i + 1 : Nat) : Int) := by rw [w64 _ (by omega) (by omega)]; rfl
theorem bit_eq (size : Int) {ws : List Int} (hU : U ws) (hl : ws.length ≤ 5000) {i : Nat} (hi : i < 64 * ws.length) : r02bit.f size ws i = some (tb ws i) := by
  unfold r02bit.f
  rw [dv64 i (by omega), wmd64, if_pos (by omega), if_pos (by omega), if_pos (by omega), rd_nat, shr_bit (getD_U hU _) (by omega)]
  rfl
theorem check_loop (size : Int) {ws : List Int} (hU : U ws) (hl : ws.length ≤ 5000) : ∀ (n k i : Nat), i + n = 64 * ws.length → n < k →
    r02Check.l0 k i size ws = some (if (List.range' i n).any (tb ws) then 3 else 0) := by
  intro n
  induction n with
  | zero =>
    intro k i hi hk
    obtain ⟨k, rfl⟩ : ∃ m, k = m + 1 := ⟨k - 1, by omega⟩
    rw [r02Check.l0, w64 _ (by omega) (by omega), if_neg (by omega)]
    rfl
  | succ n ih =>
    intro k i hi hk
    obtain ⟨k, rfl⟩ : ∃ m, k = m + 1 := ⟨k - 1, by omega⟩
    rw [r02Check.l0, w64 _ (by omega) (by omega), if_pos (by omega), bit_eq size hU hl (by omega), Option.bind_some, wsucc i (by omega), ih k (i + 1) (by omega) (by omega), List.range'_succ, List.any_cons]
    cases tb ws i
    · rw [if_neg (by decide), Bool.false_or]
    · rw [if_pos rfl, Bool.true_or]; rfl
theorem div_zero_iff {x : Int} (h : U1 x) (s : Nat) : x / 2 ^ s = 0 ↔ ∀ j, s ≤ j → j < 64 → wbit x j = false := by
  obtain ⟨n, rfl⟩ : ∃ n : Nat, x = n := ⟨x.toNat, by have := h.1; omega⟩
  have h2 : n < 2 ^ 64 := by have := h.2; omega
  rw [show (2 : Int) ^ s = ((2 ^ s : Nat) : Int) by simp, ← Int.natCast_ediv]
  unfold wbit
  rw [Int.toNat_natCast]
  have hp : 0 < 2 ^ s := Nat.pow_pos (by decide)
  constructor
  · intro e j hj _
    have hlt : n < 2 ^ s := by
      have : n / 2 ^ s = 0 := by omega
      exact (Nat.div_eq_zero_iff_lt hp).1 this
    exact Nat.testBit_lt_two_pow (Nat.lt_of_lt_of_le hlt (Nat.pow_le_pow_right (by decide) hj))
  · intro hj
    have hlt : n < 2 ^ s := Nat.lt_pow_two_of_testBit n fun j hs' => by
      rcases Nat.lt_or_ge j 64 with h | h
      · exact hj j hs' h
      · exact Nat.testBit_lt_two_pow (Nat.lt_of_lt_of_le h2 (Nat.pow_le_pow_right (by decide) h))
    have : n / 2 ^ s = 0 := (Nat.div_eq_zero_iff_lt hp).2 hlt
    omega
/-- No bit lies behind the size. -/
theorem Good.clear {size : Int} {ws : List Int} (hU : U ws) (h : Good size ws) {i : Nat} (hi : size.toNat ≤ i) : tb ws i = false := by
  rcases Nat.lt_or_ge i (64 * ws.length) with hlt | hge
  · have h1 := h.lo
    have h3 := h.len
    have hm : 0 < size % 64 := by omega
    have hl := h.last hm
    rw [show (ws.length : Int) - 1 = ((ws.length - 1 : Nat) : Int) by omega, rd_nat] at hl
    have := (div_zero_iff (getD_U hU _) _).1 hl
    unfold tb
    rw [show i / 64 = ws.length - 1 by omega]
    exact this _ (by omega) (by omega)
  · exact tb_ge hge
theorem Good.mk' {size : Int} {ws : List Int} (hU : U ws) (h0 : 0 ≤ size) (h1 : size ≤ 4096) (h2 : (ws.length : Int) = (size + 63) / 64) (h3 : ∀ i, size.toNat ≤ i → i < 64 * ws.length → tb ws i = false) : Good size ws := by
  refine ⟨h0, h1, h2, fun hm => ?_⟩
  rw [show (ws.length : Int) - 1 = ((ws.length - 1 : Nat) : Int) by omega, rd_nat, div_zero_iff (getD_U hU _) _]
  intro j hj hj2
  have := h3 (64 * (ws.length - 1) + j) (by omega) (by omega)
  unfold tb at this
  rw [show (64 * (ws.length - 1) + j) / 64 = ws.length - 1 by omega, show (64 * (ws.length - 1) + j) % 64 = j by omega] at this
  exact this
theorem rcheck_j (k : Nat) (size : Int) (ws : List Int) : r02Check.j0 (k + 1) true size ws = some 3 := by rw [r02Check.j0, if_pos rfl]
theorem rcheck_eq {size : Int} {ws : List Int} (hU : U ws) {k : Nat} (hk : 5000 ≤ k) : r02Check.f k size ws = some (if good size ws then 0 else 3) := by
  obtain ⟨k, rfl⟩ : ∃ m, k = m + 1 := ⟨k - 1, by omega⟩
  have hno : ¬ Good size ws → (if good size ws then (0 : Int) else 3) = 3 := fun h => by rw [if_neg (fun h' => h ((good_iff _ _).1 h'))]
  have hyes : Good size ws → (if good size ws then (0 : Int) else 3) = 0 := fun h => by rw [if_pos ((good_iff _ _).2 h)]
  unfold r02Check.f
  by_cases h1 : size < 0
  · rw [if_pos h1, rcheck_j, hno (fun g => by have := g.lo; omega)]
  rw [if_neg h1]
  by_cases h2 : size > 4096
  · rw [if_pos h2, rcheck_j, hno (fun g => by have := g.hi; omega)]
  rw [if_neg h2, w64 (size + 63) (by omega) (by omega), Int.tdiv_eq_ediv_of_nonneg (by omega), w64 _ (by omega) (by omega)]
  by_cases h3 : (ws.length : Int) = (size + 63) / 64
  · rw [show ((ws.length : Int) != (size + 63) / 64) = false by simpa using h3, r02Check.j0, if_neg (by decide)]
    obtain ⟨s, rfl⟩ : ∃ s : Nat, size = s := ⟨size.toNat, by omega⟩
    rw [check_loop s hU (by omega) (64 * ws.length - s) k s (by omega) (by omega)]
    by_cases h4 : (List.range' s (64 * ws.length - s)).any (tb ws) = true
    · rw [if_pos h4, hno]
      intro g
      rw [List.any_eq_true] at h4
      obtain ⟨x, hx, hb⟩ := h4
      rw [List.mem_range'_1] at hx
      have := g.clear hU (i := x) (by omega)
      rw [this] at hb
      cases hb
    · rw [if_neg h4, hyes]
      refine Good.mk' hU (by omega) (by omega) h3 fun i hi hi2 => ?_
      rw [Bool.not_eq_true] at h4
      rw [List.any_eq_false] at h4
      have := h4 i (by rw [List.mem_range'_1]; omega)
      simpa using this
  · rw [show ((ws.length : Int) != (size + 63) / 64) = true by simpa using h3, rcheck_j, hno (fun g => h3 g.len)]
theorem bcheck_eq (size : Int) (ws : List Int) (k : Nat) : bCheck.f (k + 1) size ws = some (if good size ws then 0 else 3) := by
  rcases check_any k size ws with ⟨h, e⟩ | ⟨h, e⟩
  · rw [e, if_pos ((good_iff _ _).2 h)]
  · rw [e, if_neg (fun h' => h ((good_iff _ _).1 h'))]
theorem Good.le {size : Int} {ws : List Int} (g : Good size ws) : size ≤ 64 * ws.length := by have := g.len; omega
end Go.Proofs.YthpldfjjdmjcoaaDoor.P

namespace Go.Proofs.YthpldfjjdmjcoaaDoor.Pop
/-- How many of the n low bits are set. -/
def pop : Nat → Nat → Nat
  | 0, _ => 0
  | n + 1, x => pop n x + (if x.testBit n then 1 else 0)
theorem pop_mod (n x : Nat) : ∀ m, m ≤ n → pop m (x % 2 ^ n) = pop m x
  | 0, _ => rfl
  | m + 1, h => by
    simp only [pop]
    rw [pop_mod n x m (by omega), Nat.testBit_mod_two_pow]
    simp [show m < n by omega]
theorem pop_add (m : Nat) : ∀ n x, pop (m + n) x = pop m x + pop n (x / 2 ^ m)
  | 0, x => rfl
  | n + 1, x => by
    rw [← Nat.add_assoc, pop, pop_add m n x, pop, Nat.add_assoc, ← Nat.shiftRight_eq_div_pow, Nat.testBit_shiftRight]
theorem and_split (q r M m : Nat) (hr : r < 256) (hm : m < 256) : (256 * q + r) &&& (256 * M + m) = 256 * (q &&& M) + (r &&& m) := by
  have e : ∀ q r : Nat, r < 256 → 256 * q + r = q <<< 8 ||| r := fun q r h => by
    rw [Nat.mul_comm, show (256 : Nat) = 2 ^ 8 from rfl, ← Nat.shiftLeft_eq, Nat.shiftLeft_add_eq_or_of_lt h]
  have hrm : r &&& m < 256 := Nat.lt_of_le_of_lt Nat.and_le_left hr
  rw [e _ _ hr, e _ _ hm, e _ _ hrm]
  apply Nat.eq_of_testBit_eq
  intro i
  simp only [Nat.testBit_and, Nat.testBit_or, Nat.testBit_shiftLeft]
  by_cases hi : 8 ≤ i
  · have h1 : r.testBit i = false := Nat.testBit_lt_two_pow (Nat.lt_of_lt_of_le hr (Nat.pow_le_pow_right (n := 2) (by decide) hi))
    have h2 : m.testBit i = false := Nat.testBit_lt_two_pow (Nat.lt_of_lt_of_le hm (Nat.pow_le_pow_right (n := 2) (by decide) hi))
    simp [hi, h1, h2]
  · simp [hi]
theorem half55 : ∀ (c : Fin 2) (r : Fin 256), (128 * c.val + r.val / 2) &&& 0x55 = (r.val / 2) &&& 0x55 := by decide +kernel
theorem quart33 : ∀ (c : Fin 4) (r : Fin 256), (64 * c.val + r.val / 4) &&& 0x33 = (r.val / 4) &&& 0x33 := by decide +kernel
theorem s1 (q r M : Nat) (hr : r < 256) : ((256 * q + r) / 2 &&& (256 * M + 0x55)) + ((256 * q + r) &&& (256 * M + 0x55)) = 256 * ((q / 2 &&& M) + (q &&& M)) + ((r / 2 &&& 0x55) + (r &&& 0x55)) := by
  have e : (256 * q + r) / 2 = 256 * (q / 2) + (128 * (q % 2) + r / 2) := by omega
  rw [e, and_split _ _ _ _ (by omega) (by decide), and_split _ _ _ _ hr (by decide)]
  have h := half55 ⟨q % 2, by omega⟩ ⟨r, hr⟩
  simp only at h
  rw [h]; omega
theorem s2 (q r M : Nat) (hr : r < 256) : ((256 * q + r) / 4 &&& (256 * M + 0x33)) + ((256 * q + r) &&& (256 * M + 0x33)) = 256 * ((q / 4 &&& M) + (q &&& M)) + ((r / 4 &&& 0x33) + (r &&& 0x33)) := by
  have e : (256 * q + r) / 4 = 256 * (q / 4) + (64 * (q % 4) + r / 4) := by omega
  rw [e, and_split _ _ _ _ (by omega) (by decide), and_split _ _ _ _ hr (by decide)]
  have h := quart33 ⟨q % 4, by omega⟩ ⟨r, hr⟩
  simp only at h
  rw [h]; omega
theorem s3low : ∀ (c : Fin 5) (r : Fin 256), r.val ≤ 0x44 → (16 * c.val + r.val / 16 + r.val) &&& 0x0f = (r.val / 16 + r.val) &&& 0x0f := by decide +kernel
theorem s3 (q r M : Nat) (hr : r ≤ 0x44) (hq : q % 16 ≤ 4) : ((256 * q + r) / 16 + (256 * q + r)) &&& (256 * M + 0x0f) = 256 * ((q / 16 + q) &&& M) + ((r / 16 + r) &&& 0x0f) := by
  have e : (256 * q + r) / 16 + (256 * q + r) = 256 * (q / 16 + q) + (16 * (q % 16) + r / 16 + r) := by omega
  rw [e, and_split _ _ _ _ (by omega) (by decide)]
  have h := s3low ⟨q % 16, by omega⟩ ⟨r, by omega⟩ hr
  simp only at h
  rw [h]
def st1 (r : Nat) : Nat := (r / 2 &&& 0x55) + (r &&& 0x55)
def st2 (y : Nat) : Nat := (y / 4 &&& 0x33) + (y &&& 0x33)
def st3 (z : Nat) : Nat := (z / 16 + z) &&& 0x0f
theorem st1_le : ∀ r : Fin 256, st1 r.val < 256 ∧ st2 (st1 r.val) ≤ 0x44 ∧ st2 (st1 r.val) % 16 ≤ 4 ∧ st3 (st2 (st1 r.val)) = pop 8 r.val ∧ pop 8 r.val ≤ 8 := by decide +kernel
/-- n bytes of the masks. -/
def mk (m : Nat) : Nat → Nat
  | 0 => 0
  | n + 1 => 256 * mk m n + m
def ok (n : Nat) (x : Nat) : Nat := let y := (x / 2 &&& mk 0x55 n) + (x &&& mk 0x55 n); let z := (y / 4 &&& mk 0x33 n) + (y &&& mk 0x33 n); (z / 16 + z) &&& mk 0x0f n
/-- a number by its n low bytes' counts -/
def cnt : Nat → Nat → Nat
  | 0, _ => 0
  | n + 1, x => 256 * cnt n (x / 256) + pop 8 (x % 256)
theorem ok_cnt : ∀ n x, x < 256 ^ n → ok n x = cnt n x ∧ (let y := (x / 2 &&& mk 0x55 n) + (x &&& mk 0x55 n); let z := (y / 4 &&& mk 0x33 n) + (y &&& mk 0x33 n); z % 16 ≤ 4)
  | 0, x, h => by
    have : x = 0 := by simpa using h
    subst this
    exact ⟨by decide, by decide⟩
  | n + 1, x, h => by
    have hq : x / 256 < 256 ^ n := by
      rw [Nat.pow_succ] at h
      exact Nat.div_lt_of_lt_mul (by rw [Nat.mul_comm]; exact h)
    obtain ⟨i1, i2⟩ := ok_cnt n (x / 256) hq
    have hr : x % 256 < 256 := Nat.mod_lt _ (by decide)
    obtain ⟨a1, a2, a3, a4, _⟩ := st1_le ⟨x % 256, hr⟩
    simp only at a1 a2 a3 a4
    have ex : x = 256 * (x / 256) + x % 256 := by omega
    have h1 := s1 (x / 256) (x % 256) (mk 0x55 n) hr
    rw [← ex] at h1
    have h2 := s2 ((x / 256 / 2 &&& mk 0x55 n) + (x / 256 &&& mk 0x55 n)) (st1 (x % 256)) (mk 0x33 n) a1
    have h3 := s3 (((x / 256 / 2 &&& mk 0x55 n) + (x / 256 &&& mk 0x55 n)) / 4 &&& mk 0x33 n) 0 (mk 0x0f n)
    clear h3
    simp only [ok, cnt, mk] at i1 i2 ⊢
    rw [h1, show (x % 256 / 2 &&& 0x55) + (x % 256 &&& 0x55) = st1 (x % 256) from rfl, h2, show (st1 (x % 256) / 4 &&& 0x33) + (st1 (x % 256) &&& 0x33) = st2 (st1 (x % 256)) from rfl]
    generalize hz : ((x / 256 / 2 &&& mk 0x55 n) + (x / 256 &&& mk 0x55 n)) / 4 &&& mk 0x33 n = z1 at *
    generalize hz2 : ((x / 256 / 2 &&& mk 0x55 n) + (x / 256 &&& mk 0x55 n)) &&& mk 0x33 n = z2 at *
    constructor
    · rw [s3 (z1 + z2) _ _ a2 i2, show (st2 (st1 (x % 256)) / 16 + st2 (st1 (x % 256))) &&& 0x0f = st3 (st2 (st1 (x % 256))) from rfl, a4, i1]
    · omega
theorem pop_cnt8 (x : Nat) : ∃ c0 c1 c2 c3 c4 c5 c6 c7 : Nat, cnt 8 x = c0 + 256 * (c1 + 256 * (c2 + 256 * (c3 + 256 * (c4 + 256 * (c5 + 256 * (c6 + 256 * c7)))))) ∧ pop 64 x = c0 + c1 + c2 + c3 + c4 + c5 + c6 + c7 ∧
    c0 ≤ 8 ∧ c1 ≤ 8 ∧ c2 ≤ 8 ∧ c3 ≤ 8 ∧ c4 ≤ 8 ∧ c5 ≤ 8 ∧ c6 ≤ 8 ∧ c7 ≤ 8 := by
  have le8 : ∀ y, pop 8 (y % 256) ≤ 8 := fun y => (st1_le ⟨y % 256, Nat.mod_lt _ (by decide)⟩).2.2.2.2
  have p8 : ∀ y, pop 8 y = pop 8 (y % 256) := fun y => (pop_mod 8 y 8 (Nat.le_refl _)).symm
  have e : ∀ n y, pop (8 + n) y = pop 8 (y % 256) + pop n (y / 256) := fun n y => by rw [pop_add, p8]
  refine ⟨_, _, _, _, _, _, _, _, ?_, ?_, le8 x, le8 (x / 256), le8 (x / 256 / 256), le8 (x / 256 / 256 / 256), le8 (x / 256 / 256 / 256 / 256), le8 (x / 256 / 256 / 256 / 256 / 256), le8 (x / 256 / 256 / 256 / 256 / 256 / 256), le8 (x / 256 / 256 / 256 / 256 / 256 / 256 / 256)⟩
  · simp only [cnt]; omega
  · have := e 56 x; have := e 48 (x / 256); have := e 40 (x / 256 / 256); have := e 32 (x / 256 / 256 / 256); have := e 24 (x / 256 / 256 / 256 / 256)
    have := e 16 (x / 256 / 256 / 256 / 256 / 256); have := e 8 (x / 256 / 256 / 256 / 256 / 256 / 256); have := p8 (x / 256 / 256 / 256 / 256 / 256 / 256 / 256)
    simp only [Nat.reduceAdd] at *
    omega
theorem fold8 (c0 c1 c2 c3 c4 c5 c6 c7 s : Nat) (h0 : c0 ≤ 8) (h1 : c1 ≤ 8) (h2 : c2 ≤ 8) (h3 : c3 ≤ 8) (h4 : c4 ≤ 8) (h5 : c5 ≤ 8) (h6 : c6 ≤ 8) (h7 : c7 ≤ 8)
    (hs : s = c0 + 256 * (c1 + 256 * (c2 + 256 * (c3 + 256 * (c4 + 256 * (c5 + 256 * (c6 + 256 * c7))))))) :
    ∃ t, s + s / 256 = t ∧ ∃ u, t + t / 65536 = u ∧ ∃ v, u + u / 4294967296 = v ∧ v % 128 = c0 + c1 + c2 + c3 + c4 + c5 + c6 + c7 ∧ t < 18446744073709551616 ∧ u < 18446744073709551616 ∧ v < 18446744073709551616 := by
  have d1 : s / 256 = c1 + 256 * (c2 + 256 * (c3 + 256 * (c4 + 256 * (c5 + 256 * (c6 + 256 * c7))))) := by omega
  obtain ⟨t, ht⟩ : ∃ t, t = (c0 + c1) + 256 * ((c1 + c2) + 256 * ((c2 + c3) + 256 * ((c3 + c4) + 256 * ((c4 + c5) + 256 * ((c5 + c6) + 256 * ((c6 + c7) + 256 * c7)))))) := ⟨_, rfl⟩
  have d2 : t / 65536 = (c2 + c3) + 256 * ((c3 + c4) + 256 * ((c4 + c5) + 256 * ((c5 + c6) + 256 * ((c6 + c7) + 256 * c7)))) := by clear d1 hs; omega
  obtain ⟨u, hu⟩ : ∃ u, u = (c0 + c1 + c2 + c3) + 256 * ((c1 + c2 + c3 + c4) + 256 * ((c2 + c3 + c4 + c5) + 256 * ((c3 + c4 + c5 + c6) + 256 * ((c4 + c5 + c6 + c7) + 256 * ((c5 + c6 + c7) + 256 * ((c6 + c7) + 256 * c7)))))) := ⟨_, rfl⟩
  have d3 : u / 4294967296 = (c4 + c5 + c6 + c7) + 256 * ((c5 + c6 + c7) + 256 * ((c6 + c7) + 256 * c7)) := by clear d1 d2 hs ht; omega
  obtain ⟨v, hv⟩ : ∃ v, v = (c0 + c1 + c2 + c3 + c4 + c5 + c6 + c7) + 256 * ((c1 + c2 + c3 + c4 + c5 + c6 + c7) + 256 * ((c2 + c3 + c4 + c5 + c6 + c7) + 256 * ((c3 + c4 + c5 + c6 + c7) + 256 * ((c4 + c5 + c6 + c7) + 256 * ((c5 + c6 + c7) + 256 * ((c6 + c7) + 256 * c7)))))) := ⟨_, rfl⟩
  refine ⟨t, by rw [d1, hs, ht]; clear d1 d2 d3 hs ht hu hv; omega, u, by rw [d2, ht, hu]; clear d1 d2 d3 hs ht hu hv; omega, v, by rw [d3, hu, hv]; clear d1 d2 d3 hs ht hu hv; omega, by rw [hv]; clear d1 d2 d3 hs ht hu hv; omega, by rw [ht]; clear d1 d2 d3 hs ht hu hv; omega, by rw [hu]; clear d1 d2 d3 hs ht hu hv; omega, by rw [hv]; clear d1 d2 d3 hs ht hu hv; omega⟩
/-- The Go text of OnesCount64, over the natural numbers. -/
theorem swar (x y z s : Nat) (hx : x < 18446744073709551616)
    (hy : y = (x / 2 &&& 0x5555555555555555) + (x &&& 0x5555555555555555))
    (hz : z = (y / 4 &&& 0x3333333333333333) + (y &&& 0x3333333333333333))
    (hs : s = (z / 16 + z) &&& 0x0f0f0f0f0f0f0f0f) :
    ∃ t, s + s / 256 = t ∧ ∃ u, t + t / 65536 = u ∧ ∃ v, u + u / 4294967296 = v ∧ v % 128 = pop 64 x ∧ t < 18446744073709551616 ∧ u < 18446744073709551616 ∧ v < 18446744073709551616 := by
  have e : s = cnt 8 x := by
    have := (ok_cnt 8 x (Nat.lt_of_lt_of_eq hx (by decide +kernel))).1
    rw [← this, hs, hz, hy]
    simp only [ok]
    rw [show mk 0x55 8 = 0x5555555555555555 from by decide +kernel, show mk 0x33 8 = 0x3333333333333333 from by decide +kernel, show mk 0x0f 8 = 0x0f0f0f0f0f0f0f0f from by decide +kernel]
  obtain ⟨c0, c1, c2, c3, c4, c5, c6, c7, h, hp, h0, h1, h2, h3, h4, h5, h6, h7⟩ := pop_cnt8 x
  rw [hp]
  exact fold8 c0 c1 c2 c3 c4 c5 c6 c7 s h0 h1 h2 h3 h4 h5 h6 h7 (e.trans h)
end Go.Proofs.YthpldfjjdmjcoaaDoor.Pop

namespace Go.Proofs.YthpldfjjdmjcoaaDoor.P
open Go.RowKit Go.Proofs.YthpldfjjdmjcoaaDoorW.PrintWords Go.Proofs.YthpldfjjdmjcoaaDoorW.PrintLast Go.Proofs.YthpldfjjdmjcoaaDoorW.PrintMore
attribute [local go_sem] max2_int min2_int max_two min_two max_three min_three max_four min_four   -- for this text's walks alone
set_option linter.unusedVariables false
set_option linter.unusedSimpArgs false
def bNew.f (a0 : Int) : Option (Int × List Int × Int) := if a0 < 0 then (some (0, ([] : List Int), 2)) else (if a0 > 4096 then (some (0, ([] : List Int), 2)) else ((bwords.f a0).bind fun t166 => (if 0 ≤ t166 then (if (t166 : Int).toNat ≤ 35184372088832 then (some (a0, (List.replicate (t166 : Int).toNat 0), 0)) else (none)) else (none))))
set_option maxHeartbeats 8000000 in
set_option maxRecDepth 100000 in
theorem bNew.calls (a0 : Int) (r1 : Int) (r2 : List Int) (r3 : Int) (w : World) (h : bNew.f a0 = some (r1, r2, r3)) :
    Calls Tryd.prog 18 #[.int .i64 a0] w fun e w' => ∃ v1_ : Value, e = .returned (.tuple #[.agg #[.int .i64 r1, v1_], .int .i64 r3]) ∧ Kd.R (Kd.int .u64) 55 w' w.heap.size (fun _ => True) v1_ r2 ∧ Below w.heap.size w w' := by
  have hu24 := Tryd.underlying24
  have HB := Aside0.mk (Below.refl w.heap.size w)
  have H : (if a0 < 0 then (some (0, ([] : List Int), 2)) else (if a0 > 4096 then (some (0, ([] : List Int), 2)) else ((bwords.f a0).bind fun t166 => (if 0 ≤ t166 then (if (t166 : Int).toNat ≤ 35184372088832 then (some (a0, (List.replicate (t166 : Int).toNat 0), 0)) else (none)) else (none))))) = some (r1, r2, r3) := h
  clear h
  by_cases c2 : a0 < 0
  · rw [if_pos c2] at H
    have c2b0 : decide (a0 < 0) = true := decide_eq_true c2
    clear c2
    simp only [Option.some.injEq, Prod.mk.injEq] at H
    obtain ⟨rfl, rfl, rfl⟩ := H
    go_enter Tryd.func18, Tryd.ntmps18
    go_wp2_with (first | ((with_reducible refine gate_dst (N := 2) rfl ?_); refine box_event ?hg (N := 2) ?hd (cs := #[.int .i64 0, .slice none 0 0]) (t := 24) ?hr ?_; (case hd => rfl); (case hg => rfl); (case hr => first | (go_simp; done) | (go_simp; rfl)); intro gb165 hg w3 hbox hb; have n0_ := Aside0.mk (below_step (by repeat (first | (with_reducible first | exact HB.out | apply below_alloc | apply pw_below_drewN | apply below_drew1) | exact HB.out)) hb); have n1_ := Aside0.mk (hbox); have n2_ := Aside0.mk ((by rw [hg]; exact (below_size (by repeat (first | (with_reducible first | exact HB.out | apply below_alloc | apply pw_below_drewN | apply below_drew1) | exact HB.out))) : w.heap.size ≤ gb165)); have n3_ := Aside0.mk ((by rw [hg]; exact (below_size (by repeat (first | (with_reducible first | exact HB.out | apply below_alloc | apply pw_below_drewN | apply below_drew1) | exact HB.out))) : w.heap.size ≤ gb165)); clear HB; have HB := n0_; have BK165 := n1_; have GW165 := n2_; have GE165 := n3_; clear n0_ n1_ n2_ n3_; clear hb hbox hg; have hcz4_0 : w3.cell? ⟨gb165, 0, none⟩ = some (.int .i64 0) := (blk_cell BK165.out 0).trans rfl; have hcz4_1 : w3.cell? ⟨gb165, 1, none⟩ = some (.slice none 0 0) := (blk_cell BK165.out 1).trans rfl; have hfz4_0 := blk_frozen BK165.out 0; have hfz4_1 := blk_frozen BK165.out 1))
    refine bodyPost_ret (results_ct rfl _ _ gb165 24 #[.int .i64 0, .slice none 0 0] (0, 0) _ rfl (by (with_reducible repeat (first | refine blk_drewN ?_ _ | refine blk_drew ?_ | refine blk_alloc ?_ _)); refine blk_put (cs := #[.int .i64 0, .slice none 0 0]) ?_ 1 _ rfl; (with_reducible repeat (first | refine blk_drewN ?_ _ | refine blk_drew ?_ | refine blk_alloc ?_ _)); refine blk_put (cs := #[.int .i64 0, .slice none 0 0]) ?_ 0 _ rfl; (with_reducible repeat (first | refine blk_drewN ?_ _ | refine blk_drew ?_ | refine blk_alloc ?_ _)); exact BK165.out) Tryd.underlying24 rfl (by kernel_rfl)) rfl ?_
    exact ⟨_, by first | rfl | (simp [errW_none, errW_some] <;> rfl) | (simp [*, errW_none, errW_some] <;> rfl), by first | exact Kd.R_nil _ _ _ _ _ | exact Kd.N_nil _ _ _ _ _ | exact Kd.V_nil _ _ _ _ _ | exact Kd.Q_nil _ _ _ _ _ | exact Kd.S_nil _ _ _ _ _, by repeat (first | (with_reducible first | exact HB.out | apply below_alloc | apply pw_below_drewN | apply below_drew1 | refine below_set ?_ GE165.out) | exact HB.out)⟩
  · rw [if_neg c2] at H
    have c2b0 : decide (a0 < 0) = false := decide_eq_false c2
    clear c2
    by_cases c5 : a0 > 4096
    · rw [if_pos c5] at H
      have c5b0 : decide (4096 < a0) = true := decide_eq_true c5
      clear c5
      simp only [Option.some.injEq, Prod.mk.injEq] at H
      obtain ⟨rfl, rfl, rfl⟩ := H
      go_enter Tryd.func18, Tryd.ntmps18
      go_wp2_with (first | ((with_reducible refine gate_dst (N := 2) rfl ?_); refine box_event ?hg (N := 2) ?hd (cs := #[.int .i64 0, .slice none 0 0]) (t := 24) ?hr ?_; (case hd => rfl); (case hg => rfl); (case hr => first | (go_simp; done) | (go_simp; rfl)); intro gb165 hg w6 hbox hb; have n0_ := Aside0.mk (below_step (by repeat (first | (with_reducible first | exact HB.out | apply below_alloc | apply pw_below_drewN | apply below_drew1) | exact HB.out)) hb); have n1_ := Aside0.mk (hbox); have n2_ := Aside0.mk ((by rw [hg]; exact (below_size (by repeat (first | (with_reducible first | exact HB.out | apply below_alloc | apply pw_below_drewN | apply below_drew1) | exact HB.out))) : w.heap.size ≤ gb165)); have n3_ := Aside0.mk ((by rw [hg]; exact (below_size (by repeat (first | (with_reducible first | exact HB.out | apply below_alloc | apply pw_below_drewN | apply below_drew1) | exact HB.out))) : w.heap.size ≤ gb165)); clear HB; have HB := n0_; have BK165 := n1_; have GW165 := n2_; have GE165 := n3_; clear n0_ n1_ n2_ n3_; clear hb hbox hg; have hcz7_0 : w6.cell? ⟨gb165, 0, none⟩ = some (.int .i64 0) := (blk_cell BK165.out 0).trans rfl; have hcz7_1 : w6.cell? ⟨gb165, 1, none⟩ = some (.slice none 0 0) := (blk_cell BK165.out 1).trans rfl; have hfz7_0 := blk_frozen BK165.out 0; have hfz7_1 := blk_frozen BK165.out 1))
      refine bodyPost_ret (results_ct rfl _ _ gb165 24 #[.int .i64 0, .slice none 0 0] (0, 0) _ rfl (by (with_reducible repeat (first | refine blk_drewN ?_ _ | refine blk_drew ?_ | refine blk_alloc ?_ _)); refine blk_put (cs := #[.int .i64 0, .slice none 0 0]) ?_ 1 _ rfl; (with_reducible repeat (first | refine blk_drewN ?_ _ | refine blk_drew ?_ | refine blk_alloc ?_ _)); refine blk_put (cs := #[.int .i64 0, .slice none 0 0]) ?_ 0 _ rfl; (with_reducible repeat (first | refine blk_drewN ?_ _ | refine blk_drew ?_ | refine blk_alloc ?_ _)); exact BK165.out) Tryd.underlying24 rfl (by kernel_rfl)) rfl ?_
      exact ⟨_, by first | rfl | (simp [errW_none, errW_some] <;> rfl) | (simp [*, errW_none, errW_some] <;> rfl), by first | exact Kd.R_nil _ _ _ _ _ | exact Kd.N_nil _ _ _ _ _ | exact Kd.V_nil _ _ _ _ _ | exact Kd.Q_nil _ _ _ _ _ | exact Kd.S_nil _ _ _ _ _, by repeat (first | (with_reducible first | exact HB.out | apply below_alloc | apply pw_below_drewN | apply below_drew1 | refine below_set ?_ GE165.out) | exact HB.out)⟩
    · rw [if_neg c5] at H
      have c5b0 : decide (4096 < a0) = false := decide_eq_false c5
      clear c5
      replace H := Option.bind_eq_some_iff.mp H
      obtain ⟨t166, A80, H⟩ := H
      replace H : (if 0 ≤ t166 then (if (t166 : Int).toNat ≤ 35184372088832 then (some (a0, (List.replicate (t166 : Int).toNat 0), 0)) else (none)) else (none)) = some (r1, r2, r3) := H
      have A8 := Aside0.mk A80
      clear A80
      by_cases c9 : 0 ≤ t166
      · rw [if_pos c9] at H
        have c9b0 := eq_true c9
        have c9b1 : decide (0 ≤ t166) = true := decide_eq_true c9
        clear c9
        by_cases c10 : (t166 : Int).toNat ≤ 35184372088832
        · rw [if_pos c10] at H
          have c10b0 := eq_true c10
          have c10b1 : decide ((t166 : Int).toNat ≤ 35184372088832) = true := decide_eq_true c10
          clear c10
          obtain ⟨y167, hy167⟩ : ∃ y_ : List Int, y_ = (List.replicate (t166 : Int).toNat 0) := ⟨_, rfl⟩
          replace H : (some (a0, y167, 0)) = some (r1, r2, r3) := by first | (rw [hy167]; with_reducible exact H) | (have H2_ := (Option.bind_some _ _).symm.trans H; rw [hy167]; with_reducible exact H2_) | (have H2_ := (Option.bind_some _ _).symm.trans H; with_reducible exact H2_) | with_reducible exact H | (rw [hy167]; exact H) | exact H
          have Ny167 := Aside0.mk hy167
          clear hy167
          simp only [Option.some.injEq, Prod.mk.injEq] at H
          obtain ⟨rfl, rfl, rfl⟩ := H
          go_enter Tryd.func18, Tryd.ntmps18
          go_wp2_with (first | ((with_reducible refine gate_dst (N := 2) rfl ?_); refine box_event ?hg (N := 2) ?hd (cs := #[.int .i64 0, .slice none 0 0]) (t := 24) ?hr ?_; (case hd => rfl); (case hg => rfl); (case hr => first | (go_simp; done) | (go_simp; rfl)); intro gb165 hg w11 hbox hb; have n0_ := Aside0.mk (below_step (by repeat (first | (with_reducible first | exact HB.out | apply below_alloc | apply pw_below_drewN | apply below_drew1) | exact HB.out)) hb); have n1_ := Aside0.mk (hbox); have n2_ := Aside0.mk ((by rw [hg]; exact (below_size (by repeat (first | (with_reducible first | exact HB.out | apply below_alloc | apply pw_below_drewN | apply below_drew1) | exact HB.out))) : w.heap.size ≤ gb165)); have n3_ := Aside0.mk ((by rw [hg]; exact (below_size (by repeat (first | (with_reducible first | exact HB.out | apply below_alloc | apply pw_below_drewN | apply below_drew1) | exact HB.out))) : w.heap.size ≤ gb165)); clear HB; have HB := n0_; have BK165 := n1_; have GW165 := n2_; have GE165 := n3_; clear n0_ n1_ n2_ n3_; clear hb hbox hg) | ((with_reducible refine gate_callee (f := 43) rfl ?_); refine goesL_ (some 13) rfl rfl Tryd.func43 (by kernel_rfl) rfl #[.int .i64 a0] rfl (by (try simp only [List.map_toArray, List.map_cons, List.map_nil]); first | done | rfl | (simp only [List.length_drop, List.length_take]; rfl)) ?_; (with_reducible refine (bwords.calls a0 t166 _ A8.out).mono ?_); rintro e w' ⟨rfl, ⟨nd, rfl⟩⟩; refine ⟨_, rfl, ?_⟩; (try (rw [drewN_self w11]; generalize hq_ : World.drewN w11 _ = w11; have n0_ : Aside0 (w11.heap[gb165]? = some (.cells #[.int .i64 0, .slice none 0 0] 24 (0, 0))) := ⟨by rw [← hq_]; exact (by (with_reducible repeat (first | refine blk_drewN ?_ _ | refine blk_drew ?_ | refine blk_alloc ?_ _)); exact BK165.out)⟩; have n1_ : Aside0 (Below w.heap.size w w11) := ⟨by rw [← hq_]; exact (by repeat (first | (with_reducible first | exact HB.out | apply below_alloc | apply pw_below_drewN | apply below_drew1 | refine below_set ?_ GE165.out) | exact HB.out))⟩; clear BK165 HB hq_; have BK165 := n0_; have HB := n1_; clear n0_ n1_))) | ((with_reducible refine gate_dst (N := 14) rfl ?_); refine Kd.R_make (Kd.int .u64) _ 55 rfl (N := 14) rfl 22 _ _ rfl t166 rfl rfl Tryd.underlying22 (.int .u64 0) 8 info55 rfl (by decide) (by omega) 0 (ok := fun _ => True) (okp := fun _ => True) rfl (fun _ hk => hk) trivial (of_decide_eq_true (by first | (with_reducible assumption) | assumption)) (Nat.le_trans (Nat.mul_le_mul_right _ (of_decide_eq_true (by first | (with_reducible assumption) | assumption) : t166.toNat ≤ 35184372088832)) (by omega)) (Below.refl _ _) (Nat.le_refl _) ?_; intro v168 w12 ho13 hb hg_ hnew_; clear hg_ hnew_; (first | rw [← Ny167.out] at ho13 | (simp only [Int.reduceToNat] at ho13; rw [← Ny167.out] at ho13)); have n0_ := Aside0.mk (Kd.R_lower ho13 (below_size (by repeat (first | (with_reducible first | exact HB.out | apply below_alloc | apply pw_below_drewN | apply below_drew1 | refine below_set ?_ GE165.out) | exact HB.out)))); have n1_ := Aside0.mk (blk_below (g := gb165) (o := .cells #[.int .i64 0, .slice none 0 0] 24 (0, 0)) (by (with_reducible repeat (first | refine blk_drewN ?_ _ | refine blk_drew ?_ | refine blk_alloc ?_ _)); exact BK165.out) hb); have n2_ := Aside0.mk (below_step (by repeat (first | (with_reducible first | exact HB.out | apply below_alloc | apply pw_below_drewN | apply below_drew1 | refine below_set ?_ GE165.out) | exact HB.out)) hb); clear BK165; clear HB; have HO169 := n0_; have BK165 := n1_; have HB := n2_; clear n0_ n1_ n2_; clear hb ho13; obtain ⟨Ao14, co14, eo14⟩ := Kd.R_slice HO169.out; subst eo14; have hcz15_0 : w12.cell? ⟨gb165, 0, none⟩ = some (.int .i64 0) := (blk_cell BK165.out 0).trans rfl; have hcz15_1 : w12.cell? ⟨gb165, 1, none⟩ = some (.slice none 0 0) := (blk_cell BK165.out 1).trans rfl; have hfz15_0 := blk_frozen BK165.out 0; have hfz15_1 := blk_frozen BK165.out 1))
          refine bodyPost_ret (results_ct rfl _ _ gb165 24 #[.int .i64 a0, .slice Ao14 y167.length co14] (0, 0) _ rfl (by (with_reducible repeat (first | refine blk_drewN ?_ _ | refine blk_drew ?_ | refine blk_alloc ?_ _)); refine blk_put (cs := #[.int .i64 a0, .slice none 0 0]) ?_ 1 _ rfl; (with_reducible repeat (first | refine blk_drewN ?_ _ | refine blk_drew ?_ | refine blk_alloc ?_ _)); refine blk_put (cs := #[.int .i64 0, .slice none 0 0]) ?_ 0 _ rfl; (with_reducible repeat (first | refine blk_drewN ?_ _ | refine blk_drew ?_ | refine blk_alloc ?_ _)); exact BK165.out) Tryd.underlying24 rfl (by kernel_rfl)) rfl ?_
          exact ⟨_, by first | rfl | (simp [errW_none, errW_some] <;> rfl) | (simp [*, errW_none, errW_some] <;> rfl), by (with_reducible repeat (first | apply Kd.R_alloc | apply Kd.R_drewN | apply Kd.R_drew)); exact Kd.R_mono (Kd.R_far (p := ⟨gb165, 1, none⟩) (Kd.R_far (p := ⟨gb165, 0, none⟩) (Kd.R_types HO169.out BK165.out (by decide)) (fun _ hk => hk.2) (.int .i64 a0)) (fun _ hk => hk.2) (.slice Ao14 y167.length co14)) (fun _ hk => trivial), by repeat (first | (with_reducible first | exact HB.out | apply below_alloc | apply pw_below_drewN | apply below_drew1 | refine below_set ?_ GE165.out) | exact HB.out)⟩
        · rw [if_neg c10] at H
          exact absurd H (by simp)
      · rw [if_neg c9] at H
        exact absurd H (by simp)
def bits_OnesCount64.f (a0 : Int) : Option (Int) := some (Go.bits .and .i64 (wrap64 (IntKind.u64.wrap ((IntKind.u64.wrap ((IntKind.u64.wrap ((Go.bits .and .u64 (IntKind.u64.wrap (((IntKind.u64.wrap ((Go.bits .and .u64 ((IntKind.u64.wrap ((Go.bits .and .u64 (a0 / 2) 6148914691236517205) + (Go.bits .and .u64 a0 6148914691236517205))) / 4) 3689348814741910323) + (Go.bits .and .u64 (IntKind.u64.wrap ((Go.bits .and .u64 (a0 / 2) 6148914691236517205) + (Go.bits .and .u64 a0 6148914691236517205))) 3689348814741910323))) / 16) + (IntKind.u64.wrap ((Go.bits .and .u64 ((IntKind.u64.wrap ((Go.bits .and .u64 (a0 / 2) 6148914691236517205) + (Go.bits .and .u64 a0 6148914691236517205))) / 4) 3689348814741910323) + (Go.bits .and .u64 (IntKind.u64.wrap ((Go.bits .and .u64 (a0 / 2) 6148914691236517205) + (Go.bits .and .u64 a0 6148914691236517205))) 3689348814741910323))))) 1085102592571150095) + ((Go.bits .and .u64 (IntKind.u64.wrap (((IntKind.u64.wrap ((Go.bits .and .u64 ((IntKind.u64.wrap ((Go.bits .and .u64 (a0 / 2) 6148914691236517205) + (Go.bits .and .u64 a0 6148914691236517205))) / 4) 3689348814741910323) + (Go.bits .and .u64 (IntKind.u64.wrap ((Go.bits .and .u64 (a0 / 2) 6148914691236517205) + (Go.bits .and .u64 a0 6148914691236517205))) 3689348814741910323))) / 16) + (IntKind.u64.wrap ((Go.bits .and .u64 ((IntKind.u64.wrap ((Go.bits .and .u64 (a0 / 2) 6148914691236517205) + (Go.bits .and .u64 a0 6148914691236517205))) / 4) 3689348814741910323) + (Go.bits .and .u64 (IntKind.u64.wrap ((Go.bits .and .u64 (a0 / 2) 6148914691236517205) + (Go.bits .and .u64 a0 6148914691236517205))) 3689348814741910323))))) 1085102592571150095) / 256))) + ((IntKind.u64.wrap ((Go.bits .and .u64 (IntKind.u64.wrap (((IntKind.u64.wrap ((Go.bits .and .u64 ((IntKind.u64.wrap ((Go.bits .and .u64 (a0 / 2) 6148914691236517205) + (Go.bits .and .u64 a0 6148914691236517205))) / 4) 3689348814741910323) + (Go.bits .and .u64 (IntKind.u64.wrap ((Go.bits .and .u64 (a0 / 2) 6148914691236517205) + (Go.bits .and .u64 a0 6148914691236517205))) 3689348814741910323))) / 16) + (IntKind.u64.wrap ((Go.bits .and .u64 ((IntKind.u64.wrap ((Go.bits .and .u64 (a0 / 2) 6148914691236517205) + (Go.bits .and .u64 a0 6148914691236517205))) / 4) 3689348814741910323) + (Go.bits .and .u64 (IntKind.u64.wrap ((Go.bits .and .u64 (a0 / 2) 6148914691236517205) + (Go.bits .and .u64 a0 6148914691236517205))) 3689348814741910323))))) 1085102592571150095) + ((Go.bits .and .u64 (IntKind.u64.wrap (((IntKind.u64.wrap ((Go.bits .and .u64 ((IntKind.u64.wrap ((Go.bits .and .u64 (a0 / 2) 6148914691236517205) + (Go.bits .and .u64 a0 6148914691236517205))) / 4) 3689348814741910323) + (Go.bits .and .u64 (IntKind.u64.wrap ((Go.bits .and .u64 (a0 / 2) 6148914691236517205) + (Go.bits .and .u64 a0 6148914691236517205))) 3689348814741910323))) / 16) + (IntKind.u64.wrap ((Go.bits .and .u64 ((IntKind.u64.wrap ((Go.bits .and .u64 (a0 / 2) 6148914691236517205) + (Go.bits .and .u64 a0 6148914691236517205))) / 4) 3689348814741910323) + (Go.bits .and .u64 (IntKind.u64.wrap ((Go.bits .and .u64 (a0 / 2) 6148914691236517205) + (Go.bits .and .u64 a0 6148914691236517205))) 3689348814741910323))))) 1085102592571150095) / 256))) / 65536))) + ((IntKind.u64.wrap ((IntKind.u64.wrap ((Go.bits .and .u64 (IntKind.u64.wrap (((IntKind.u64.wrap ((Go.bits .and .u64 ((IntKind.u64.wrap ((Go.bits .and .u64 (a0 / 2) 6148914691236517205) + (Go.bits .and .u64 a0 6148914691236517205))) / 4) 3689348814741910323) + (Go.bits .and .u64 (IntKind.u64.wrap ((Go.bits .and .u64 (a0 / 2) 6148914691236517205) + (Go.bits .and .u64 a0 6148914691236517205))) 3689348814741910323))) / 16) + (IntKind.u64.wrap ((Go.bits .and .u64 ((IntKind.u64.wrap ((Go.bits .and .u64 (a0 / 2) 6148914691236517205) + (Go.bits .and .u64 a0 6148914691236517205))) / 4) 3689348814741910323) + (Go.bits .and .u64 (IntKind.u64.wrap ((Go.bits .and .u64 (a0 / 2) 6148914691236517205) + (Go.bits .and .u64 a0 6148914691236517205))) 3689348814741910323))))) 1085102592571150095) + ((Go.bits .and .u64 (IntKind.u64.wrap (((IntKind.u64.wrap ((Go.bits .and .u64 ((IntKind.u64.wrap ((Go.bits .and .u64 (a0 / 2) 6148914691236517205) + (Go.bits .and .u64 a0 6148914691236517205))) / 4) 3689348814741910323) + (Go.bits .and .u64 (IntKind.u64.wrap ((Go.bits .and .u64 (a0 / 2) 6148914691236517205) + (Go.bits .and .u64 a0 6148914691236517205))) 3689348814741910323))) / 16) + (IntKind.u64.wrap ((Go.bits .and .u64 ((IntKind.u64.wrap ((Go.bits .and .u64 (a0 / 2) 6148914691236517205) + (Go.bits .and .u64 a0 6148914691236517205))) / 4) 3689348814741910323) + (Go.bits .and .u64 (IntKind.u64.wrap ((Go.bits .and .u64 (a0 / 2) 6148914691236517205) + (Go.bits .and .u64 a0 6148914691236517205))) 3689348814741910323))))) 1085102592571150095) / 256))) + ((IntKind.u64.wrap ((Go.bits .and .u64 (IntKind.u64.wrap (((IntKind.u64.wrap ((Go.bits .and .u64 ((IntKind.u64.wrap ((Go.bits .and .u64 (a0 / 2) 6148914691236517205) + (Go.bits .and .u64 a0 6148914691236517205))) / 4) 3689348814741910323) + (Go.bits .and .u64 (IntKind.u64.wrap ((Go.bits .and .u64 (a0 / 2) 6148914691236517205) + (Go.bits .and .u64 a0 6148914691236517205))) 3689348814741910323))) / 16) + (IntKind.u64.wrap ((Go.bits .and .u64 ((IntKind.u64.wrap ((Go.bits .and .u64 (a0 / 2) 6148914691236517205) + (Go.bits .and .u64 a0 6148914691236517205))) / 4) 3689348814741910323) + (Go.bits .and .u64 (IntKind.u64.wrap ((Go.bits .and .u64 (a0 / 2) 6148914691236517205) + (Go.bits .and .u64 a0 6148914691236517205))) 3689348814741910323))))) 1085102592571150095) + ((Go.bits .and .u64 (IntKind.u64.wrap (((IntKind.u64.wrap ((Go.bits .and .u64 ((IntKind.u64.wrap ((Go.bits .and .u64 (a0 / 2) 6148914691236517205) + (Go.bits .and .u64 a0 6148914691236517205))) / 4) 3689348814741910323) + (Go.bits .and .u64 (IntKind.u64.wrap ((Go.bits .and .u64 (a0 / 2) 6148914691236517205) + (Go.bits .and .u64 a0 6148914691236517205))) 3689348814741910323))) / 16) + (IntKind.u64.wrap ((Go.bits .and .u64 ((IntKind.u64.wrap ((Go.bits .and .u64 (a0 / 2) 6148914691236517205) + (Go.bits .and .u64 a0 6148914691236517205))) / 4) 3689348814741910323) + (Go.bits .and .u64 (IntKind.u64.wrap ((Go.bits .and .u64 (a0 / 2) 6148914691236517205) + (Go.bits .and .u64 a0 6148914691236517205))) 3689348814741910323))))) 1085102592571150095) / 256))) / 65536))) / 4294967296)))) 127)
set_option maxHeartbeats 8000000 in
set_option maxRecDepth 100000 in
theorem bits_OnesCount64.calls (a0 : Int) (r : Int) (w : World) (h : bits_OnesCount64.f a0 = some r) :
    Calls Tryd.prog 45 #[.int .u64 a0] w fun e w' => e = .returned (.int .i64 r) ∧ Drawn0 w w' := by
  have H : (some (Go.bits .and .i64 (wrap64 (IntKind.u64.wrap ((IntKind.u64.wrap ((IntKind.u64.wrap ((Go.bits .and .u64 (IntKind.u64.wrap (((IntKind.u64.wrap ((Go.bits .and .u64 ((IntKind.u64.wrap ((Go.bits .and .u64 (a0 / 2) 6148914691236517205) + (Go.bits .and .u64 a0 6148914691236517205))) / 4) 3689348814741910323) + (Go.bits .and .u64 (IntKind.u64.wrap ((Go.bits .and .u64 (a0 / 2) 6148914691236517205) + (Go.bits .and .u64 a0 6148914691236517205))) 3689348814741910323))) / 16) + (IntKind.u64.wrap ((Go.bits .and .u64 ((IntKind.u64.wrap ((Go.bits .and .u64 (a0 / 2) 6148914691236517205) + (Go.bits .and .u64 a0 6148914691236517205))) / 4) 3689348814741910323) + (Go.bits .and .u64 (IntKind.u64.wrap ((Go.bits .and .u64 (a0 / 2) 6148914691236517205) + (Go.bits .and .u64 a0 6148914691236517205))) 3689348814741910323))))) 1085102592571150095) + ((Go.bits .and .u64 (IntKind.u64.wrap (((IntKind.u64.wrap ((Go.bits .and .u64 ((IntKind.u64.wrap ((Go.bits .and .u64 (a0 / 2) 6148914691236517205) + (Go.bits .and .u64 a0 6148914691236517205))) / 4) 3689348814741910323) + (Go.bits .and .u64 (IntKind.u64.wrap ((Go.bits .and .u64 (a0 / 2) 6148914691236517205) + (Go.bits .and .u64 a0 6148914691236517205))) 3689348814741910323))) / 16) + (IntKind.u64.wrap ((Go.bits .and .u64 ((IntKind.u64.wrap ((Go.bits .and .u64 (a0 / 2) 6148914691236517205) + (Go.bits .and .u64 a0 6148914691236517205))) / 4) 3689348814741910323) + (Go.bits .and .u64 (IntKind.u64.wrap ((Go.bits .and .u64 (a0 / 2) 6148914691236517205) + (Go.bits .and .u64 a0 6148914691236517205))) 3689348814741910323))))) 1085102592571150095) / 256))) + ((IntKind.u64.wrap ((Go.bits .and .u64 (IntKind.u64.wrap (((IntKind.u64.wrap ((Go.bits .and .u64 ((IntKind.u64.wrap ((Go.bits .and .u64 (a0 / 2) 6148914691236517205) + (Go.bits .and .u64 a0 6148914691236517205))) / 4) 3689348814741910323) + (Go.bits .and .u64 (IntKind.u64.wrap ((Go.bits .and .u64 (a0 / 2) 6148914691236517205) + (Go.bits .and .u64 a0 6148914691236517205))) 3689348814741910323))) / 16) + (IntKind.u64.wrap ((Go.bits .and .u64 ((IntKind.u64.wrap ((Go.bits .and .u64 (a0 / 2) 6148914691236517205) + (Go.bits .and .u64 a0 6148914691236517205))) / 4) 3689348814741910323) + (Go.bits .and .u64 (IntKind.u64.wrap ((Go.bits .and .u64 (a0 / 2) 6148914691236517205) + (Go.bits .and .u64 a0 6148914691236517205))) 3689348814741910323))))) 1085102592571150095) + ((Go.bits .and .u64 (IntKind.u64.wrap (((IntKind.u64.wrap ((Go.bits .and .u64 ((IntKind.u64.wrap ((Go.bits .and .u64 (a0 / 2) 6148914691236517205) + (Go.bits .and .u64 a0 6148914691236517205))) / 4) 3689348814741910323) + (Go.bits .and .u64 (IntKind.u64.wrap ((Go.bits .and .u64 (a0 / 2) 6148914691236517205) + (Go.bits .and .u64 a0 6148914691236517205))) 3689348814741910323))) / 16) + (IntKind.u64.wrap ((Go.bits .and .u64 ((IntKind.u64.wrap ((Go.bits .and .u64 (a0 / 2) 6148914691236517205) + (Go.bits .and .u64 a0 6148914691236517205))) / 4) 3689348814741910323) + (Go.bits .and .u64 (IntKind.u64.wrap ((Go.bits .and .u64 (a0 / 2) 6148914691236517205) + (Go.bits .and .u64 a0 6148914691236517205))) 3689348814741910323))))) 1085102592571150095) / 256))) / 65536))) + ((IntKind.u64.wrap ((IntKind.u64.wrap ((Go.bits .and .u64 (IntKind.u64.wrap (((IntKind.u64.wrap ((Go.bits .and .u64 ((IntKind.u64.wrap ((Go.bits .and .u64 (a0 / 2) 6148914691236517205) + (Go.bits .and .u64 a0 6148914691236517205))) / 4) 3689348814741910323) + (Go.bits .and .u64 (IntKind.u64.wrap ((Go.bits .and .u64 (a0 / 2) 6148914691236517205) + (Go.bits .and .u64 a0 6148914691236517205))) 3689348814741910323))) / 16) + (IntKind.u64.wrap ((Go.bits .and .u64 ((IntKind.u64.wrap ((Go.bits .and .u64 (a0 / 2) 6148914691236517205) + (Go.bits .and .u64 a0 6148914691236517205))) / 4) 3689348814741910323) + (Go.bits .and .u64 (IntKind.u64.wrap ((Go.bits .and .u64 (a0 / 2) 6148914691236517205) + (Go.bits .and .u64 a0 6148914691236517205))) 3689348814741910323))))) 1085102592571150095) + ((Go.bits .and .u64 (IntKind.u64.wrap (((IntKind.u64.wrap ((Go.bits .and .u64 ((IntKind.u64.wrap ((Go.bits .and .u64 (a0 / 2) 6148914691236517205) + (Go.bits .and .u64 a0 6148914691236517205))) / 4) 3689348814741910323) + (Go.bits .and .u64 (IntKind.u64.wrap ((Go.bits .and .u64 (a0 / 2) 6148914691236517205) + (Go.bits .and .u64 a0 6148914691236517205))) 3689348814741910323))) / 16) + (IntKind.u64.wrap ((Go.bits .and .u64 ((IntKind.u64.wrap ((Go.bits .and .u64 (a0 / 2) 6148914691236517205) + (Go.bits .and .u64 a0 6148914691236517205))) / 4) 3689348814741910323) + (Go.bits .and .u64 (IntKind.u64.wrap ((Go.bits .and .u64 (a0 / 2) 6148914691236517205) + (Go.bits .and .u64 a0 6148914691236517205))) 3689348814741910323))))) 1085102592571150095) / 256))) + ((IntKind.u64.wrap ((Go.bits .and .u64 (IntKind.u64.wrap (((IntKind.u64.wrap ((Go.bits .and .u64 ((IntKind.u64.wrap ((Go.bits .and .u64 (a0 / 2) 6148914691236517205) + (Go.bits .and .u64 a0 6148914691236517205))) / 4) 3689348814741910323) + (Go.bits .and .u64 (IntKind.u64.wrap ((Go.bits .and .u64 (a0 / 2) 6148914691236517205) + (Go.bits .and .u64 a0 6148914691236517205))) 3689348814741910323))) / 16) + (IntKind.u64.wrap ((Go.bits .and .u64 ((IntKind.u64.wrap ((Go.bits .and .u64 (a0 / 2) 6148914691236517205) + (Go.bits .and .u64 a0 6148914691236517205))) / 4) 3689348814741910323) + (Go.bits .and .u64 (IntKind.u64.wrap ((Go.bits .and .u64 (a0 / 2) 6148914691236517205) + (Go.bits .and .u64 a0 6148914691236517205))) 3689348814741910323))))) 1085102592571150095) + ((Go.bits .and .u64 (IntKind.u64.wrap (((IntKind.u64.wrap ((Go.bits .and .u64 ((IntKind.u64.wrap ((Go.bits .and .u64 (a0 / 2) 6148914691236517205) + (Go.bits .and .u64 a0 6148914691236517205))) / 4) 3689348814741910323) + (Go.bits .and .u64 (IntKind.u64.wrap ((Go.bits .and .u64 (a0 / 2) 6148914691236517205) + (Go.bits .and .u64 a0 6148914691236517205))) 3689348814741910323))) / 16) + (IntKind.u64.wrap ((Go.bits .and .u64 ((IntKind.u64.wrap ((Go.bits .and .u64 (a0 / 2) 6148914691236517205) + (Go.bits .and .u64 a0 6148914691236517205))) / 4) 3689348814741910323) + (Go.bits .and .u64 (IntKind.u64.wrap ((Go.bits .and .u64 (a0 / 2) 6148914691236517205) + (Go.bits .and .u64 a0 6148914691236517205))) 3689348814741910323))))) 1085102592571150095) / 256))) / 65536))) / 4294967296)))) 127)) = some r := h
  clear h
  obtain rfl := Option.some.inj H
  go_enter Tryd.func45, Tryd.ntmps45
  go_wp2
  go_ret
  exact ⟨by first | rfl | (simp; done) | (simp [*]; done), by repeat (first | exact Drawn0.refl _ | apply Drawn0.step)⟩
def bCount.l0 : Nat → Int → List Int → Int → Int → Option (Int)
  | 0, _, _, _, _ => none
  | k + 1, x3, x10, x11, x12 => if x12 < x11 then (if 0 ≤ x12 then (if x12 < (x10.length : Int) then ((bits_OnesCount64.f (rd x10 x12)).bind fun t173 => (bCount.l0 k (wrap64 (x3 + t173)) x10 x11 (wrap64 (x12 + 1)))) else (none)) else (none)) else (some x3)
def bCount.f (k : Nat) (a0_0 : Int) (l0_1 : List Int) : Option (Int) := (bCheck.f k a0_0 l0_1).bind fun t171 => (if t171 = 0 then (bCount.l0 k 0 l0_1 (l0_1.length : Int) 0) else (some 0))
theorem bCount.mono_l : ∀ k, (∀ y0 y1 y2 y3, LeO (bCount.l0 k y0 y1 y2 y3) (bCount.l0 (k + 1) y0 y1 y2 y3))
  | 0 => fun _ _ _ _ r h => by simp [bCount.l0] at h
  | k + 1 => by
    have ih0 := bCount.mono_l k
    · intro y0 y1 y2 y3
      unfold bCount.l0
      repeat' first
      | (with_reducible exact ih0 _ _ _ _)
      | (with_reducible exact bCheck.mono _ _ _)
      | (with_reducible exact LeO.refl _)
      | (with_reducible exact LeO.none _)
      | (with_reducible refine LeO.ite ?_ ?_)
      | (with_reducible refine LeO.bind ?_ (fun _ => ?_))
      | exact ih0 _ _ _ _
      | exact bCheck.mono _ _ _
      | exact LeO.none _
      | refine LeO.ite ?_ ?_
      | refine LeO.bind ?_ (fun _ => ?_)
theorem bCount.mono : ∀ a0 a1 k, LeO (bCount.f k a0 a1) (bCount.f (k + 1) a0 a1) := by
  intro a0 a1 k
  have ih0 := bCount.mono_l k
  unfold bCount.f
  repeat' first
      | (with_reducible exact ih0 _ _ _ _)
      | (with_reducible exact bCheck.mono _ _ _)
      | (with_reducible exact LeO.refl _)
      | (with_reducible exact LeO.none _)
      | (with_reducible refine LeO.ite ?_ ?_)
      | (with_reducible refine LeO.bind ?_ (fun _ => ?_))
      | exact ih0 _ _ _ _
      | exact bCheck.mono _ _ _
      | exact LeO.none _
      | refine LeO.ite ?_ ?_
      | refine LeO.bind ?_ (fun _ => ?_)
set_option maxHeartbeats 8000000 in
set_option maxRecDepth 100000 in
theorem bCount.calls (k : Nat) (a0_0 : Int) (A0_1 : Option Addr) (c0_1 : Nat) (l0_1 : List Int) (r : Int) (w : World) (hr0_1 : Kd.C (Kd.int .u64) w A0_1 l0_1.length l0_1) (hc0_1 : l0_1.length ≤ c0_1) (h : bCount.f k a0_0 l0_1 = some r) :
    Calls Tryd.prog 24 #[.agg #[.int .i64 a0_0, .slice A0_1 l0_1.length c0_1]] w fun e w' => e = .returned (.int .i64 r) ∧ Below w.heap.size w w' := by
  have hu24 := Tryd.underlying24
  have HR0_1 := Aside0.mk hr0_1
  have HC0_1 := Aside0.mk hc0_1
  clear hr0_1 hc0_1
  have HB := Aside0.mk (Below.refl w.heap.size w)
  have H : ((bCheck.f k a0_0 l0_1).bind fun t171 => (if t171 = 0 then (bCount.l0 k 0 l0_1 (l0_1.length : Int) 0) else (some 0))) = some r := h
  clear h
  replace H := Option.bind_eq_some_iff.mp H
  obtain ⟨t171, A20, H⟩ := H
  replace H : (if t171 = 0 then (bCount.l0 k 0 l0_1 (l0_1.length : Int) 0) else (some 0)) = some r := H
  have A2 := Aside0.mk A20
  clear A20
  by_cases c3 : t171 = 0
  · rw [if_pos c3] at H
    have c3b0 : (t171 == 0) = true := beq_iff_eq.mpr c3
    have c3b1 : (t171 != 0) = false := bne_eq_false_iff_eq.mpr c3
    clear c3
    have H' := Aside0.mk H
    clear H
    go_enter Tryd.func24, Tryd.ntmps24
    go_wp2_with (first | ((with_reducible refine gate_dst (N := 1) rfl ?_); refine box_event ?hg (N := 1) ?hd (cs := #[.int .i64 a0_0, .slice A0_1 l0_1.length c0_1]) (t := 24) ?hr ?_; (case hd => rfl); (case hg => rfl); (case hr => first | (go_simp; done) | (go_simp; rfl)); intro gb170 hg w4 hbox hb; have n0_ := Aside0.mk (below_step (by repeat (first | (with_reducible first | exact HB.out | apply below_alloc | apply pw_below_drewN | apply below_drew1) | exact HB.out)) hb); have n1_ := Aside0.mk (hbox); have n2_ := Aside0.mk ((by rw [hg]; exact (below_size (by repeat (first | (with_reducible first | exact HB.out | apply below_alloc | apply pw_below_drewN | apply below_drew1) | exact HB.out))) : w.heap.size ≤ gb170)); have n3_ := Aside0.mk ((by rw [hg]; exact (below_size (by repeat (first | (with_reducible first | exact HB.out | apply below_alloc | apply pw_below_drewN | apply below_drew1) | exact HB.out))) : w.heap.size ≤ gb170)); clear HB; have HB := n0_; have BK170 := n1_; have GW170 := n2_; have GE170 := n3_; clear n0_ n1_ n2_ n3_; clear hb hbox hg; have hcz5_0 : w4.cell? ⟨gb170, 0, none⟩ = some (.int .i64 a0_0) := (blk_cell BK170.out 0).trans rfl; have hcz5_1 : w4.cell? ⟨gb170, 1, none⟩ = some (.slice A0_1 l0_1.length c0_1) := (blk_cell BK170.out 1).trans rfl; have hfz5_0 := blk_frozen BK170.out 0; have hfz5_1 := blk_frozen BK170.out 1) | ((with_reducible refine gate_callee (f := 20) rfl ?_); refine goesL_ (some 7) rfl rfl Tryd.func20 (by kernel_rfl) rfl #[.agg #[.int .i64 a0_0, .slice A0_1 l0_1.length c0_1]] rfl (by (try simp only [List.map_toArray, List.map_cons, List.map_nil]); first | done | rfl | (simp only [List.length_drop, List.length_take]; rfl)) ?_; (with_reducible refine (bCheck.calls k a0_0 _ _ l0_1 t171 _ ?side1 ?side2 A2.out).mono ?_); (case side1 => repeat (first | exact (Kd.C_below HR0_1.out HB.out) | (with_reducible refine Kd.C_alloc ?_ _) | (with_reducible refine Kd.C_drewN ?_ _) | (with_reducible refine Kd.C_drew ?_))); (case side2 => exact HC0_1.out); rintro e w6 ⟨rfl, hb⟩; refine ⟨_, rfl, ?_⟩; have n0_ := Aside0.mk (blk_below (g := gb170) (o := .cells #[.int .i64 a0_0, .slice A0_1 l0_1.length c0_1] 24 (0, 0)) (by (with_reducible repeat (first | refine blk_drewN ?_ _ | refine blk_drew ?_ | refine blk_alloc ?_ _)); exact BK170.out) hb); have n1_ := Aside0.mk (below_step (by repeat (first | (with_reducible first | exact HB.out | apply below_alloc | apply pw_below_drewN | apply below_drew1 | refine below_set ?_ GE170.out) | exact HB.out)) hb); clear BK170; clear HB; have BK170 := n0_; have HB := n1_; clear n0_ n1_; (try clear hb); (try clear hb2); (try clear hk); (try clear hi); have hcz7_0 : w6.cell? ⟨gb170, 0, none⟩ = some (.int .i64 a0_0) := (blk_cell BK170.out 0).trans rfl; have hcz7_1 : w6.cell? ⟨gb170, 1, none⟩ = some (.slice A0_1 l0_1.length c0_1) := (blk_cell BK170.out 1).trans rfl; have hfz7_0 := blk_frozen BK170.out 0; have hfz7_1 := blk_frozen BK170.out 1))
    go_loopg [3, 12] k (fun kq v3 v12 w' => ∃ (x3_1 : Int) (x12_1 : Int), v3 = .int .i64 x3_1 ∧ v12 = .int .i64 x12_1 ∧ Aside0 (bCount.l0 kq x3_1 l0_1 (l0_1.length : Int) x12_1 = some r) ∧ Aside0 (kq ≤ k) ∧ Aside0 (w'.heap[gb170]? = some (.cells #[.int .i64 a0_0, (.slice A0_1 l0_1.length c0_1)] 24 (0, 0))) ∧ Aside0 (Below w.heap.size w w'))
    case atStart => exact ⟨(0), (0), (by first | rfl | (simp; done) | (simp [*]; done)), (by first | rfl | (simp; done) | (simp [*]; done)), H', ⟨Nat.le_refl _⟩, ⟨by (with_reducible repeat (first | refine blk_drewN ?_ _ | refine blk_drew ?_ | refine blk_alloc ?_ _)); exact BK170.out⟩, ⟨by repeat (first | (with_reducible first | exact HB.out | apply below_alloc | apply pw_below_drewN | apply below_drew1 | refine below_set ?_ GE170.out) | exact HB.out)⟩⟩
    case round =>
      clear H'
      try clear c2
      try clear p2
      try clear c3
      try clear c3b0
      try clear c3b1
      try clear hcz5_0
      try clear hcz5_1
      try clear hcz7_0
      try clear hcz7_1
      try clear hfz5_0
      try clear hfz5_1
      try clear hfz7_0
      try clear hfz7_1
      obtain ⟨x3_1, x12_1, rfl, rfl, HA, HK1, BK170, HB⟩ := hrel
      cases gk with
      | zero => exact absurd HA.out (by simp [bCount.l0])
      | succ k1 =>
        have H := HA.out
        clear HA
        simp only [bCount.l0] at H
        by_cases c8 : x12_1 < (l0_1.length : Int)
        · rw [if_pos c8] at H
          have c8b0 : decide (x12_1 < (l0_1.length : Int)) = true := decide_eq_true c8
          clear c8
          by_cases c9 : 0 ≤ x12_1
          · rw [if_pos c9] at H
            have c9b0 : decide (0 ≤ x12_1) = true := decide_eq_true c9
            clear c9
            by_cases c10 : x12_1 < (l0_1.length : Int)
            · rw [if_pos c10] at H
              have c10b0 : decide (x12_1 < (l0_1.length : Int)) = true := decide_eq_true c10
              clear c10
              replace H := Option.bind_eq_some_iff.mp H
              obtain ⟨t173, A110, H⟩ := H
              replace H : (bCount.l0 k1 (wrap64 (x3_1 + t173)) l0_1 (l0_1.length : Int) (wrap64 (x12_1 + 1))) = some r := H
              have A11 := Aside0.mk A110
              clear A110
              have H' := Aside0.mk H
              clear H
              have p172 : 0 ≤ (x12_1 : Int) := of_decide_eq_true (by first | (with_reducible assumption) | assumption)
              have q172 : x12_1 < (l0_1.length : Int) := of_decide_eq_true (by first | (with_reducible assumption) | assumption)
              obtain ⟨ad172, e172, hx172_0⟩ := Kd.at_int HR0_1.out x12_1 p172 q172
              cases e172
              replace hx172_0 := (HB.out.cell (World.block_lt_of_cell? w _ hx172_0)).trans hx172_0
              replace p172 := eq_true p172
              replace q172 := eq_true q172
              go_wp2_with (first | ((with_reducible refine gate_callee (f := 45) rfl ?_); refine goesL_ (some 18) rfl rfl Tryd.func45 (by kernel_rfl) rfl #[.int .u64 (rd l0_1 x12_1)] rfl (by (try simp only [List.map_toArray, List.map_cons, List.map_nil]); first | done | rfl | (simp only [List.length_drop, List.length_take]; rfl)) ?_; (with_reducible refine (bits_OnesCount64.calls (rd l0_1 x12_1) t173 _ A11.out).mono ?_); rintro e w' ⟨rfl, ⟨nd, rfl⟩⟩; refine ⟨_, rfl, ?_⟩))
              go_roundg k1
              case measure => have := HK1.out; omega
              case rel => exact ⟨(wrap64 (x3_1 + t173)), (wrap64 (x12_1 + 1)), (by first | rfl | (simp; done) | (simp [*]; done)), (by first | rfl | (simp; done) | (simp [*]; done)), H', ⟨by have := HK1.out; omega⟩, ⟨by (with_reducible repeat (first | refine blk_drewN ?_ _ | refine blk_drew ?_ | refine blk_alloc ?_ _)); exact BK170.out⟩, ⟨by repeat (first | (with_reducible first | exact HB.out | apply below_alloc | apply pw_below_drewN | apply below_drew1 | refine below_set ?_ GE170.out) | exact HB.out)⟩⟩
            · rw [if_neg c10] at H
              exact absurd H (by simp)
          · rw [if_neg c9] at H
            exact absurd H (by simp)
        · rw [if_neg c8] at H
          have c8b0 : decide (x12_1 < (l0_1.length : Int)) = false := decide_eq_false c8
          clear c8
          obtain rfl := Option.some.inj H
          go_wp2
          go_ret
          exact ⟨by first | rfl | (simp [errW_none, errW_some] <;> rfl) | (simp [*, errW_none, errW_some] <;> rfl), by repeat (first | (with_reducible first | exact HB.out | apply below_alloc | apply pw_below_drewN | apply below_drew1 | refine below_set ?_ GE170.out) | exact HB.out)⟩
  · rw [if_neg c3] at H
    have c3b0 : (t171 == 0) = false := beq_eq_false_iff_ne.mpr c3
    have c3b1 : (t171 != 0) = true := bne_iff_ne.mpr c3
    obtain rfl := Option.some.inj H
    go_enter Tryd.func24, Tryd.ntmps24
    go_wp2_with (first | ((with_reducible refine gate_dst (N := 1) rfl ?_); refine box_event ?hg (N := 1) ?hd (cs := #[.int .i64 a0_0, .slice A0_1 l0_1.length c0_1]) (t := 24) ?hr ?_; (case hd => rfl); (case hg => rfl); (case hr => first | (go_simp; done) | (go_simp; rfl)); intro gb170 hg w12 hbox hb; have n0_ := Aside0.mk (below_step (by repeat (first | (with_reducible first | exact HB.out | apply below_alloc | apply pw_below_drewN | apply below_drew1) | exact HB.out)) hb); have n1_ := Aside0.mk (hbox); have n2_ := Aside0.mk ((by rw [hg]; exact (below_size (by repeat (first | (with_reducible first | exact HB.out | apply below_alloc | apply pw_below_drewN | apply below_drew1) | exact HB.out))) : w.heap.size ≤ gb170)); have n3_ := Aside0.mk ((by rw [hg]; exact (below_size (by repeat (first | (with_reducible first | exact HB.out | apply below_alloc | apply pw_below_drewN | apply below_drew1) | exact HB.out))) : w.heap.size ≤ gb170)); clear HB; have HB := n0_; have BK170 := n1_; have GW170 := n2_; have GE170 := n3_; clear n0_ n1_ n2_ n3_; clear hb hbox hg; have hcz13_0 : w12.cell? ⟨gb170, 0, none⟩ = some (.int .i64 a0_0) := (blk_cell BK170.out 0).trans rfl; have hcz13_1 : w12.cell? ⟨gb170, 1, none⟩ = some (.slice A0_1 l0_1.length c0_1) := (blk_cell BK170.out 1).trans rfl; have hfz13_0 := blk_frozen BK170.out 0; have hfz13_1 := blk_frozen BK170.out 1) | ((with_reducible refine gate_callee (f := 20) rfl ?_); refine goesL_ (some 7) rfl rfl Tryd.func20 (by kernel_rfl) rfl #[.agg #[.int .i64 a0_0, .slice A0_1 l0_1.length c0_1]] rfl (by (try simp only [List.map_toArray, List.map_cons, List.map_nil]); first | done | rfl | (simp only [List.length_drop, List.length_take]; rfl)) ?_; (with_reducible refine (bCheck.calls k a0_0 _ _ l0_1 t171 _ ?side1 ?side2 A2.out).mono ?_); (case side1 => repeat (first | exact (Kd.C_below HR0_1.out HB.out) | (with_reducible refine Kd.C_alloc ?_ _) | (with_reducible refine Kd.C_drewN ?_ _) | (with_reducible refine Kd.C_drew ?_))); (case side2 => exact HC0_1.out); rintro e w14 ⟨rfl, hb⟩; refine ⟨_, rfl, ?_⟩; have n0_ := Aside0.mk (blk_below (g := gb170) (o := .cells #[.int .i64 a0_0, .slice A0_1 l0_1.length c0_1] 24 (0, 0)) (by (with_reducible repeat (first | refine blk_drewN ?_ _ | refine blk_drew ?_ | refine blk_alloc ?_ _)); exact BK170.out) hb); have n1_ := Aside0.mk (below_step (by repeat (first | (with_reducible first | exact HB.out | apply below_alloc | apply pw_below_drewN | apply below_drew1 | refine below_set ?_ GE170.out) | exact HB.out)) hb); clear BK170; clear HB; have BK170 := n0_; have HB := n1_; clear n0_ n1_; (try clear hb); (try clear hb2); (try clear hk); (try clear hi)))
    go_ret
    exact ⟨by first | rfl | (simp [errW_none, errW_some] <;> rfl) | (simp [*, errW_none, errW_some] <;> rfl), by repeat (first | (with_reducible first | exact HB.out | apply below_alloc | apply pw_below_drewN | apply below_drew1 | refine below_set ?_ GE170.out) | exact HB.out)⟩
end Go.Proofs.YthpldfjjdmjcoaaDoor.P

namespace Go.Proofs.YthpldfjjdmjcoaaDoor.P
open Go.RowKit Go.Proofs.YthpldfjjdmjcoaaDoorW.PrintWords Go.Proofs.YthpldfjjdmjcoaaDoorW.PrintLast Go.Proofs.YthpldfjjdmjcoaaDoorW.PrintMore
attribute [local go_sem] max2_int min2_int max_two min_two max_three min_three max_four min_four   -- for this text's walks alone
set_option linter.unusedVariables false
set_option linter.unusedSimpArgs false
theorem eqA26 (d : Nat) (w : World) (x0 y0 : Int) (x1 y1 : Int) :
    (Op.equalIn (d + 2) 26 (.agg #[.int .i64 x0, .int .i64 x1]) (.agg #[.int .i64 y0, .int .i64 y1])).run Tryd.prog w = .ok (x0 == y0 && (x1 == y1)) w := by
  refine eqA_of Tryd.underlying26 (by kernel_rfl) ?_
  refine eqf_cons (by rfl) (by go_simp; rfl) (by go_simp; rfl) (by go_simp) ?_
  exact eqf_last (by rfl) (by go_simp; rfl) (by go_simp; rfl) (by go_simp)
end Go.Proofs.YthpldfjjdmjcoaaDoor.P

namespace Go.Proofs.YthpldfjjdmjcoaaDoor.P
open Go.RowKit Go.Proofs.YthpldfjjdmjcoaaDoorW.PrintWords Go.Proofs.YthpldfjjdmjcoaaDoorW.PrintLast Go.Proofs.YthpldfjjdmjcoaaDoorW.PrintMore
attribute [local go_sem] max2_int min2_int max_two min_two max_three min_three max_four min_four   -- for this text's walks alone
set_option linter.unusedVariables false
set_option linter.unusedSimpArgs false
attribute [local go_sem high] eqA26
def r02SameExtents.l0 : Nat → List (S26) → List (S26) → Int → Option (Bool)
  | 0, _, _, _ => none
  | k + 1, x0, x1, x5 => if x5 < (x0.length : Int) then (if 0 ≤ x5 then (if x5 < (x1.length : Int) then (if (!(((rd_T26 x0 x5).f0) == ((rd_T26 x1 x5).f0)) || (!(((rd_T26 x0 x5).f1) == ((rd_T26 x1 x5).f1)))) = true then (some false) else (r02SameExtents.l0 k x0 x1 (wrap64 (x5 + 1)))) else (none)) else (none)) else (some true)
def r02SameExtents.f (k : Nat) (l0 : List (S26)) (l1 : List (S26)) : Option (Bool) := if (l0.length : Int) = (l1.length : Int) then (r02SameExtents.l0 k l0 l1 0) else (some false)
theorem r02SameExtents.mono_l : ∀ k, (∀ y0 y1 y2, LeO (r02SameExtents.l0 k y0 y1 y2) (r02SameExtents.l0 (k + 1) y0 y1 y2))
  | 0 => fun _ _ _ r h => by simp [r02SameExtents.l0] at h
  | k + 1 => by
    have ih0 := r02SameExtents.mono_l k
    · intro y0 y1 y2
      unfold r02SameExtents.l0
      repeat' first
      | (with_reducible exact ih0 _ _ _)
      | (with_reducible exact LeO.refl _)
      | (with_reducible exact LeO.none _)
      | (with_reducible refine LeO.ite ?_ ?_)
      | (with_reducible refine LeO.bind ?_ (fun _ => ?_))
      | exact ih0 _ _ _
      | exact LeO.none _
      | refine LeO.ite ?_ ?_
      | refine LeO.bind ?_ (fun _ => ?_)
theorem r02SameExtents.mono : ∀ a0 a1 k, LeO (r02SameExtents.f k a0 a1) (r02SameExtents.f (k + 1) a0 a1) := by
  intro a0 a1 k
  have ih0 := r02SameExtents.mono_l k
  unfold r02SameExtents.f
  repeat' first
      | (with_reducible exact ih0 _ _ _)
      | (with_reducible exact LeO.refl _)
      | (with_reducible exact LeO.none _)
      | (with_reducible refine LeO.ite ?_ ?_)
      | (with_reducible refine LeO.bind ?_ (fun _ => ?_))
      | exact ih0 _ _ _
      | exact LeO.none _
      | refine LeO.ite ?_ ?_
      | refine LeO.bind ?_ (fun _ => ?_)
set_option maxHeartbeats 8000000 in
set_option maxRecDepth 100000 in
theorem r02SameExtents.calls (k : Nat) (A0 : Option Addr) (c0 : Nat) (l0 : List (S26)) (A1 : Option Addr) (c1 : Nat) (l1 : List (S26)) (r : Bool) (w : World) (hr0 : Kd.C k26 w A0 l0.length l0) (hc0 : l0.length ≤ c0) (hr1 : Kd.C k26 w A1 l1.length l1) (hc1 : l1.length ≤ c1) (h : r02SameExtents.f k l0 l1 = some r) :
    Calls Tryd.prog 30 #[.slice A0 l0.length c0, .slice A1 l1.length c1] w fun e w' => e = .returned (.bool r) ∧ Drawn0 w w' := by
  have hu26 := Tryd.underlying26
  have HR0 := Aside0.mk hr0
  have HC0 := Aside0.mk hc0
  clear hr0 hc0
  have HR1 := Aside0.mk hr1
  have HC1 := Aside0.mk hc1
  clear hr1 hc1
  have H : (if (l0.length : Int) = (l1.length : Int) then (r02SameExtents.l0 k l0 l1 0) else (some false)) = some r := h
  clear h
  by_cases c3 : (l0.length : Int) = (l1.length : Int)
  · rw [if_pos c3] at H
    have c3b0 : ((l0.length : Int) == (l1.length : Int)) = true := beq_iff_eq.mpr c3
    have c3b1 : ((l0.length : Int) != (l1.length : Int)) = false := bne_eq_false_iff_eq.mpr c3
    have c3b2 : (l0.length == l1.length) = true := by first | simpa using c3 | (simp at c3 ⊢; omega)
    clear c3
    have H' := Aside0.mk H
    clear H
    go_enter Tryd.func30, Tryd.ntmps30
    go_wp2
    repeat (go_quiet (fail); try go_wp2)
    go_loopg [5] k (fun kq v5 w' => ∃ (x5_1 : Int), v5 = .int .i64 x5_1 ∧ Aside0 (r02SameExtents.l0 kq l0 l1 x5_1 = some r) ∧ Aside0 (kq ≤ k) ∧ Drawn0 w w')
    case atStart => exact ⟨(0), (by first | rfl | (simp; done) | (simp [*]; done)), H', ⟨Nat.le_refl _⟩, by repeat (first | exact Drawn0.refl _ | apply Drawn0.step)⟩
    case round =>
      clear H'
      try clear c1
      try clear p2
      try clear c3
      try clear c3b0
      try clear c3b1
      try clear c3b2
      obtain ⟨x5_1, rfl, HA, HK1, ⟨m1, rfl⟩⟩ := hrel
      cases gk with
      | zero => exact absurd HA.out (by simp [r02SameExtents.l0])
      | succ k1 =>
        have H := HA.out
        clear HA
        simp only [r02SameExtents.l0] at H
        by_cases c4 : x5_1 < (l0.length : Int)
        · rw [if_pos c4] at H
          have c4b0 : decide (x5_1 < (l0.length : Int)) = true := decide_eq_true c4
          clear c4
          by_cases c5 : 0 ≤ x5_1
          · rw [if_pos c5] at H
            have c5b0 : decide (0 ≤ x5_1) = true := decide_eq_true c5
            clear c5
            by_cases c6 : x5_1 < (l1.length : Int)
            · rw [if_pos c6] at H
              have c6b0 : decide (x5_1 < (l1.length : Int)) = true := decide_eq_true c6
              clear c6
              by_cases c7 : (!(((rd_T26 l0 x5_1).f0) == ((rd_T26 l1 x5_1).f0)) || (!(((rd_T26 l0 x5_1).f1) == ((rd_T26 l1 x5_1).f1)))) = true
              · rw [if_pos c7] at H
                have c7b0 : (!(((rd_T26 l0 x5_1).f0) == ((rd_T26 l1 x5_1).f0)) || (!(((rd_T26 l0 x5_1).f1) == ((rd_T26 l1 x5_1).f1)))) = true := c7
                clear c7
                obtain rfl := Option.some.inj H
                have p180 : 0 ≤ (x5_1 : Int) := of_decide_eq_true (by first | (with_reducible assumption) | assumption)
                have q180 : x5_1 < (l0.length : Int) := of_decide_eq_true (by first | (with_reducible assumption) | assumption)
                obtain ⟨ad180, e180, hx180_0, hx180_1⟩ := at_T26 HR0.out x5_1 p180 q180
                cases e180
                replace p180 := eq_true p180
                replace q180 := eq_true q180
                have p181 : 0 ≤ (x5_1 : Int) := of_decide_eq_true (by first | (with_reducible assumption) | assumption)
                have q181 : x5_1 < (l1.length : Int) := of_decide_eq_true (by first | (with_reducible assumption) | assumption)
                obtain ⟨ad181, e181, hx181_0, hx181_1⟩ := at_T26 HR1.out x5_1 p181 q181
                cases e181
                replace p181 := eq_true p181
                replace q181 := eq_true q181
                go_wp2
                repeat (go_quiet (fail); try go_wp2)
                go_ret
                exact ⟨by first | rfl | (simp; done) | (simp [*]; done), by repeat (first | exact Drawn0.refl _ | apply Drawn0.step)⟩
              · rw [if_neg c7] at H
                have c7b0 : (!(((rd_T26 l0 x5_1).f0) == ((rd_T26 l1 x5_1).f0)) || (!(((rd_T26 l0 x5_1).f1) == ((rd_T26 l1 x5_1).f1)))) = false := by simpa using c7
                clear c7
                have H' := Aside0.mk H
                clear H
                have p180 : 0 ≤ (x5_1 : Int) := of_decide_eq_true (by first | (with_reducible assumption) | assumption)
                have q180 : x5_1 < (l0.length : Int) := of_decide_eq_true (by first | (with_reducible assumption) | assumption)
                obtain ⟨ad180, e180, hx180_0, hx180_1⟩ := at_T26 HR0.out x5_1 p180 q180
                cases e180
                replace p180 := eq_true p180
                replace q180 := eq_true q180
                have p181 : 0 ≤ (x5_1 : Int) := of_decide_eq_true (by first | (with_reducible assumption) | assumption)
                have q181 : x5_1 < (l1.length : Int) := of_decide_eq_true (by first | (with_reducible assumption) | assumption)
                obtain ⟨ad181, e181, hx181_0, hx181_1⟩ := at_T26 HR1.out x5_1 p181 q181
                cases e181
                replace p181 := eq_true p181
                replace q181 := eq_true q181
                go_wp2
                repeat (go_quiet (fail); try go_wp2)
                go_roundg k1
                case measure => have := HK1.out; omega
                case rel => exact ⟨(wrap64 (x5_1 + 1)), (by first | rfl | (simp; done) | (simp [*]; done)), H', ⟨by have := HK1.out; omega⟩, by repeat (first | exact Drawn0.refl _ | apply Drawn0.step)⟩
            · rw [if_neg c6] at H
              exact absurd H (by simp)
          · rw [if_neg c5] at H
            exact absurd H (by simp)
        · rw [if_neg c4] at H
          have c4b0 : decide (x5_1 < (l0.length : Int)) = false := decide_eq_false c4
          clear c4
          obtain rfl := Option.some.inj H
          go_wp2
          repeat (go_quiet (fail); try go_wp2)
          go_ret
          exact ⟨by first | rfl | (simp; done) | (simp [*]; done), by repeat (first | exact Drawn0.refl _ | apply Drawn0.step)⟩
  · rw [if_neg c3] at H
    have c3b0 : ((l0.length : Int) == (l1.length : Int)) = false := beq_eq_false_iff_ne.mpr c3
    have c3b1 : ((l0.length : Int) != (l1.length : Int)) = true := bne_iff_ne.mpr c3
    have c3b2 : (l0.length == l1.length) = false := by first | simpa using c3 | (simp at c3 ⊢; omega)
    obtain rfl := Option.some.inj H
    go_enter Tryd.func30, Tryd.ntmps30
    go_wp2
    repeat (go_quiet (fail); try go_wp2)
    go_ret
    exact ⟨by first | rfl | (simp; done) | (simp [*]; done), by repeat (first | exact Drawn0.refl _ | apply Drawn0.step)⟩
end Go.Proofs.YthpldfjjdmjcoaaDoor.P

namespace Go.Proofs.YthpldfjjdmjcoaaDoor.P
open Go.RowKit Go.Proofs.YthpldfjjdmjcoaaDoorW.PrintWords Go.Proofs.YthpldfjjdmjcoaaDoorW.PrintLast Go.Proofs.YthpldfjjdmjcoaaDoorW.PrintMore
attribute [local go_sem] max2_int min2_int max_two min_two max_three min_three max_four min_four
set_option maxHeartbeats 8000000 in
set_option maxRecDepth 100000 in
theorem bmask.same (a0 : Int) (a1 : Int) (a2 : Int) (r : Int) (w : World) (h : bmask.f a0 a1 a2 = some r) :
    Calls Tryd.prog 55 #[.int .i64 a0, .int .i64 a1, .int .i64 a2] w fun e w' => e = .returned (.int .u64 r) ∧ w' = w := by
  have H : (if (mx (wrap64 (a1 - (wrap64 (a0 * 64)))) 0) ≥ (mn (wrap64 (a2 - (wrap64 (a0 * 64)))) 64) then (some 0) else (if 0 ≤ (wrap64 (64 - (wrap64 ((mn (wrap64 (a2 - (wrap64 (a0 * 64)))) 64) - (mx (wrap64 (a1 - (wrap64 (a0 * 64)))) 0))))) then (some (shl .u64 (shr .u64 18446744073709551615 (wrap64 (64 - (wrap64 ((mn (wrap64 (a2 - (wrap64 (a0 * 64)))) 64) - (mx (wrap64 (a1 - (wrap64 (a0 * 64)))) 0)))))) (mx (wrap64 (a1 - (wrap64 (a0 * 64)))) 0))) else (none))) = some r := h
  clear h
  obtain ⟨ji4, hji4⟩ : ∃ j_ : Int, (mx (wrap64 (a1 - (wrap64 (a0 * 64)))) 0) = j_ := ⟨_, rfl⟩
  replace H : (if (ji4) ≥ (mn (wrap64 (a2 - (wrap64 (a0 * 64)))) 64) then (some 0) else (if 0 ≤ (wrap64 (64 - (wrap64 ((mn (wrap64 (a2 - (wrap64 (a0 * 64)))) 64) - (ji4))))) then (some (shl .u64 (shr .u64 18446744073709551615 (wrap64 (64 - (wrap64 ((mn (wrap64 (a2 - (wrap64 (a0 * 64)))) 64) - (ji4)))))) (ji4))) else (none))) = some r := by first | (rw [hji4] at H; exact H) | (simp only [hji4] at H ⊢; exact H)
  (try (have hji4l : 0 ≤ ji4 := by (rw [← hji4]; unfold mx; (repeat' split) <;> omega)))
  (try (have hji4m : 0 ≤ ji4 := by omega))
  have hji4_ : (if (wrap64 (a1 - (wrap64 (a0 * 64)))) < 0 then 0 else (wrap64 (a1 - (wrap64 (a0 * 64))))) = ji4 := hji4
  obtain ⟨ji5, hji5⟩ : ∃ j_ : Int, (mn (wrap64 (a2 - (wrap64 (a0 * 64)))) 64) = j_ := ⟨_, rfl⟩
  replace H : (if (ji4) ≥ (ji5) then (some 0) else (if 0 ≤ (wrap64 (64 - (wrap64 ((ji5) - (ji4))))) then (some (shl .u64 (shr .u64 18446744073709551615 (wrap64 (64 - (wrap64 ((ji5) - (ji4)))))) (ji4))) else (none))) = some r := by first | (rw [hji5] at H; exact H) | (simp only [hji5] at H ⊢; exact H)
  (try (have hji5h : ji5 ≤ 64 := by (rw [← hji5]; unfold mn; (repeat' split) <;> omega)))
  (try (have hji5g : ji5 ≤ 64 := by omega))
  have hji5_ : (if 64 < (wrap64 (a2 - (wrap64 (a0 * 64)))) then 64 else (wrap64 (a2 - (wrap64 (a0 * 64))))) = ji5 := hji5
  by_cases c6 : (ji4) ≥ (ji5)
  · rw [if_pos c6] at H
    have c6b0 : decide ((ji5) ≤ (ji4)) = true := decide_eq_true c6
    clear c6
    obtain rfl := Option.some.inj H
    go_enter Tryd.func55, Tryd.ntmps55
    go_wp2
    go_ret
    exact ⟨by first | rfl | (simp; done) | (simp only [← hji4, ← hji5] <;> (first | rfl | simp)) | (simp [*]; done), rfl⟩
  · rw [if_neg c6] at H
    have c6b0 : decide ((ji5) ≤ (ji4)) = false := decide_eq_false c6
    clear c6
    obtain ⟨ji7, hji7⟩ : ∃ j_ : Int, (wrap64 (64 - (wrap64 ((ji5) - (ji4))))) = j_ := ⟨_, rfl⟩
    replace H : (if 0 ≤ (ji7) then (some (shl .u64 (shr .u64 18446744073709551615 (ji7)) (ji4))) else (none)) = some r := by first | (rw [hji7] at H; exact H) | (simp only [hji7] at H ⊢; exact H)
    have hji7w : (IntKind.i64.wrap (64 - (wrap64 ((ji5) - (ji4))))) = ji7 := (i64_w _).trans hji7
    by_cases c8 : 0 ≤ (ji7)
    · rw [if_pos c8] at H
      have c8b0 := eq_true c8
      have c8b1 : decide (0 ≤ (ji7)) = true := decide_eq_true c8
      clear c8
      obtain ⟨ji9, hji9⟩ : ∃ j_ : Int, (shr .u64 18446744073709551615 (ji7)) = j_ := ⟨_, rfl⟩
      replace H : (some (shl .u64 (ji9) (ji4))) = some r := by first | (rw [hji9] at H; exact H) | (simp only [hji9] at H ⊢; exact H)
      have hji9_ : (18446744073709551615 / 2 ^ min (ji7).toNat 64) = ji9 := hji9
      have hji9z : (ji7) ≤ 64 → (18446744073709551615 / 2 ^ (ji7).toNat) = ji9 := shr_small hji9
      obtain ⟨ji10, hji10⟩ : ∃ j_ : Int, (shl .u64 (ji9) (ji4)) = j_ := ⟨_, rfl⟩
      replace H : (some ji10) = some r := by first | (rw [hji10] at H; exact H) | (simp only [hji10] at H ⊢; exact H)
      have hji10_ : (IntKind.u64.wrap ((ji9) * 2 ^ min (ji4).toNat 64)) = ji10 := hji10
      have hji10z : (ji4) ≤ 64 → (IntKind.u64.wrap ((ji9) * 2 ^ (ji4).toNat)) = ji10 := shl_small hji10
      obtain rfl := Option.some.inj H
      go_enter Tryd.func55, Tryd.ntmps55
      go_wp2
      go_ret
      exact ⟨by first | rfl | (simp; done) | (simp only [← hji4, ← hji5, ← hji7, ← hji9, ← hji10] <;> (first | rfl | simp)) | (simp [*]; done), rfl⟩
    · rw [if_neg c8] at H
      exact absurd H (by simp)
theorem set_op (a b : Int) (w : World) : Calls Tryd.prog 39 #[.int .u64 a, .int .u64 b] w fun e w' => e = .returned (.int .u64 (Go.bits .or .u64 a b)) ∧ w' = w := by
  go_enter Tryd.func39, Tryd.ntmps39
  go_wp2
  go_ret
  exact ⟨rfl, rfl⟩
theorem clear_op (a b : Int) (w : World) : Calls Tryd.prog 42 #[.int .u64 a, .int .u64 b] w fun e w' => e = .returned (.int .u64 (Go.bits .andNot .u64 a b)) ∧ w' = w := by
  go_enter Tryd.func42, Tryd.ntmps42
  go_wp2
  go_ret
  exact ⟨rfl, rfl⟩
/-- slices.Clone of numbers: nil of nil; else a new row. -/
theorem clone_nil (c : Nat) (w : World) : Calls Tryd.prog 54 #[.slice none 0 c] w fun e w' => e = .returned (.slice none 0 0) ∧ w' = w := by
  have q : ∀ (w : World) (a : Option Addr) (n c n' c' : Nat), (binOp .eql 22 (.slice a n c) (.slice none n' c')).run Tryd.prog w = .ok (.bool a.isNone) w := fun w a n c n' c' => Lib.run_eql_slice_nil w _ _ a n c n' c' Tryd.underlying22
  go_enter Tryd.func54, Tryd.ntmps54
  go_wp2
  go_ret
  exact ⟨rfl, rfl⟩
theorem infoU64 : (Tryd.prog.info? 55).map (fun i => (i.zero, i.size, i.bytes)) = some (some (.int .u64 0), 1, 8) := by kernel_rfl
set_option maxHeartbeats 2000000 in
set_option maxRecDepth 100000 in
/-- slices.Clone of numbers: a slice that is not nil: a row of the call's own with the same numbers. -/
theorem clone_row (ad : Addr) (n c : Nat) (zs : List Int) (w : World) (hz : zs.length = n) (hbig : n * 8 ≤ 140737488355328) (hc0 : ∀ j, j < n → w.cell? (ad.add j) = some (.int .u64 (zs.getD j 0))) :
    Calls Tryd.prog 54 #[.slice (some ad) n c] w fun e w' => ∃ v', e = .returned v' ∧ w'.ownsRow w.heap.size 55 1 v' n (nums .u64 zs) ∧ Below w.heap.size w w' := by
  obtain ⟨i0, hi, hz0, hz1, hz2⟩ := info_parts infoU64
  have q : ∀ (w : World) (a : Option Addr) (n c n' c' : Nat), (binOp .eql 22 (.slice a n c) (.slice none n' c')).run Tryd.prog w = .ok (.bool a.isNone) w := fun w a n c n' c' => Lib.run_eql_slice_nil w _ _ a n c n' c' Tryd.underlying22
  have A : Aside0 (∀ j, j < n → w.cell? (ad.add j) = some (.int .u64 (zs.getD j 0))) := ⟨hc0⟩
  have hzl := Aside0.mk hz
  clear hc0 hz
  go_enter Tryd.func54, Tryd.ntmps54
  go_wp2_with (at_builtin; refine wpList_append_own _ rfl _ _ 22 rfl w.heap.size 55 i0 (.int .u64 0) 1 8 Tryd.underlying22 hi hz0 hz1 hz2 rfl (by decide) _ _ _ rfl (World.ownsRow_made w #[] 0 (Nat.le_refl _) (Nat.zero_le _) rfl) ad n c (nums .u64 zs) rfl ?qc1 ?qc2 ?qc3 ?qc4 ?qc5 ?qc6 ?_)
  case qc1 => rw [nums_length, hzl.out]; omega
  case qc2 =>
    intro j u hj
    have hjn : j < n := by
      have := (List.getElem?_eq_some_iff.1 hj).1
      rw [nums_length, hzl.out] at this
      exact this
    refine Lib.cell?_alloc_some _ ?_
    rw [A.out j hjn]
    have e : (nums .u64 zs)[j]? = some (Value.int .u64 (zs.getD j 0)) := by
      have := hzl.out
      simp [nums, List.getD, List.getElem?_eq_getElem (show j < zs.length by omega)]
    rw [e] at hj
    exact hj
  case qc3 => intro u hu; obtain ⟨x, _, rfl⟩ := List.mem_map.1 hu; rfl
  case qc4 => unfold maxLen; omega
  case qc5 => omega
  case qc6 => simp
  intro v' w1 hown hgrow _
  go_wp2
  go_ret
  refine ⟨v', rfl, by simpa using hown, ?_⟩
  exact ((Below.refl _ w).alloc (Nat.le_refl _) _).grown hgrow (by simp) (by intro k hk; simp [Value.ownBlock] at hk; omega)
/-- What a call has made: the blocks that hold its variables. -/
theorem blk_of_below {W W' : World} {g : Nat} {o : Obj} (h : W.heap[g]? = some o) (hb : Below W.heap.size W W') : W'.heap[g]? = some o :=
  (hb.block g (Array.getElem?_eq_some_iff.1 h).1).trans h
/-- Four new blocks. -/
theorem new4 (w : World) (o0 o1 o2 o3 : Obj) : ∃ W, (((w.alloc o0).alloc o1).alloc o2).alloc o3 = W ∧ Below w.heap.size w W ∧ W.heap.size = w.heap.size + 1 + 1 + 1 + 1 ∧
    W.heap[w.heap.size]? = some o0 ∧ W.heap[w.heap.size + 1]? = some o1 ∧ W.heap[w.heap.size + 1 + 1]? = some o2 ∧ W.heap[w.heap.size + 1 + 1 + 1]? = some o3 := by
  have a : ∀ (W : World) (o : Obj) (k : Nat) (x : Obj), W.heap[k]? = some x → (W.alloc o).heap[k]? = some x := fun W o k x h => (Below.heap_alloc W o k (Array.getElem?_eq_some_iff.1 h).1).trans h
  have n : ∀ (W : World) (o : Obj) (k : Nat), W.heap.size = k → (W.alloc o).heap[k]? = some o := fun W o k h => by rw [← h]; exact heap_alloc_new W o
  refine ⟨_, rfl, below_alloc (below_alloc (below_alloc (below_alloc (Below.refl _ _) _) _) _) _, by simp, ?_, ?_, ?_, ?_⟩
  · exact a _ _ _ _ (a _ _ _ _ (a _ _ _ _ (n _ _ _ rfl)))
  · exact a _ _ _ _ (a _ _ _ _ (n _ _ _ (by simp)))
  · exact a _ _ _ _ (n _ _ _ (by simp))
  · exact n _ _ _ (by simp)
/-- The cells of a variable of two. -/
theorem cells2 {W : World} {g : Nat} {a b : Value} {t : TypeId} (h : W.heap[g]? = some (.cells #[a, b] t (0, 0))) : W.cell? ⟨g, 0, none⟩ = some a ∧ W.cell? ⟨g, 1, none⟩ = some b ∧ W.frozen? ⟨g, 0, none⟩ = false ∧ W.frozen? ⟨g, 1, none⟩ = false :=
  ⟨(blk_cell h 0).trans rfl, (blk_cell h 1).trans rfl, blk_frozen h 0, blk_frozen h 1⟩
/-- Three new blocks. -/
theorem new3 (w : World) (o0 o1 o2 : Obj) : ∃ W, ((w.alloc o0).alloc o1).alloc o2 = W ∧ Below w.heap.size w W ∧ W.heap.size = w.heap.size + 1 + 1 + 1 ∧
    W.heap[w.heap.size]? = some o0 ∧ W.heap[w.heap.size + 1]? = some o1 ∧ W.heap[w.heap.size + 1 + 1]? = some o2 := by
  have a : ∀ (W : World) (o : Obj) (k : Nat) (x : Obj), W.heap[k]? = some x → (W.alloc o).heap[k]? = some x := fun W o k x h => (Below.heap_alloc W o k (Array.getElem?_eq_some_iff.1 h).1).trans h
  have n : ∀ (W : World) (o : Obj) (k : Nat), W.heap.size = k → (W.alloc o).heap[k]? = some o := fun W o k h => by rw [← h]; exact heap_alloc_new W o
  refine ⟨_, rfl, below_alloc (below_alloc (below_alloc (Below.refl _ _) _) _) _, by simp, ?_, ?_, ?_⟩
  · exact a _ _ _ _ (a _ _ _ _ (n _ _ _ rfl))
  · exact a _ _ _ _ (n _ _ _ (by simp))
  · exact n _ _ _ (by simp)
set_option maxHeartbeats 2000000 in
set_option maxRecDepth 100000 in
theorem apply_bad (size : Int) (A : Option Addr) (c : Nat) (ws : List Int) (st ct : Int) (w : World) (hr : Kd.C (Kd.int .u64) w A ws.length ws) (hc : ws.length ≤ c) (e0 : Int) (he0 : bCheck.f 1 size ws = some e0) (hne : (e0 != 0) = true) (v : Value) :
    Calls Tryd.prog 40 #[.agg #[v], .agg #[.int .i64 size, .slice A ws.length c], .agg #[.int .i64 st, .int .i64 ct]] w fun e w' => e = .returned (.tuple #[.agg #[.int .i64 0, .slice none 0 0], .int .i64 e0]) ∧ Below w.heap.size w w' := by
  have HR := Aside0.mk hr
  have HC := Aside0.mk hc
  have HE := Aside0.mk he0
  clear hr hc he0
  go_enter Tryd.func40, Tryd.ntmps40
  go_wp2_with fail
  obtain ⟨W, hW, hB, hS, -, -, -, h3⟩ := new4 w (Obj.cells #[v] 58) (Obj.cells #[Value.int IntKind.i64 size, Value.slice A ws.length c] 24) (Obj.cells #[Value.int IntKind.i64 st, Value.int IntKind.i64 ct] 26) (Obj.cells #[Value.int IntKind.i64 0, Value.slice none 0 0] 24)
  rw [hW]
  have HB := Aside0.mk hB
  have B3 := Aside0.mk h3
  clear hW hB hS h3
  refine (bCheck.calls 1 size _ c ws e0 W (Kd.C_below HR.out HB.out) HC.out HE.out).mono ?_
  rintro e w1 ⟨rfl, hb1⟩
  obtain ⟨c30, c31, f30, f31⟩ := cells2 (blk_of_below B3.out hb1)
  have HB1 := Aside0.mk (below_step HB.out hb1)
  have HZ := Aside0.mk (Nat.le_trans HB.out.size hb1.size)
  clear hb1
  go_wp2_with fail
  refine bodyPost_ret (v := .tuple #[.agg #[.int .i64 0, .slice none 0 0], .int .i64 e0]) ?_ rfl ⟨rfl, ?_⟩
  · simp [results, Tryd.results40, go_sem, *]
  · exact (HB1.out.setCell (p := ⟨w.heap.size + 1 + 1 + 1, 0, none⟩) (show w.heap.size ≤ w.heap.size + 1 + 1 + 1 by omega) _).setCell (p := ⟨w.heap.size + 1 + 1 + 1, 1, none⟩) (show w.heap.size ≤ w.heap.size + 1 + 1 + 1 by omega) _
set_option maxHeartbeats 2000000 in
set_option maxRecDepth 100000 in
theorem apply_out (size : Int) (A : Option Addr) (c : Nat) (ws : List Int) (st ct : Int) (w : World) (hr : Kd.C (Kd.int .u64) w A ws.length ws) (hc : ws.length ≤ c) (he0 : bCheck.f 1 size ws = some 0) (hf : bfits.f st ct size = some false) (v : Value) :
    Calls Tryd.prog 40 #[.agg #[v], .agg #[.int .i64 size, .slice A ws.length c], .agg #[.int .i64 st, .int .i64 ct]] w fun e w' => e = .returned (.tuple #[.agg #[.int .i64 0, .slice none 0 0], .int .i64 2]) ∧ Below w.heap.size w w' := by
  have HR := Aside0.mk hr
  have HC := Aside0.mk hc
  have HE := Aside0.mk he0
  have HF := Aside0.mk hf
  clear hr hc he0 hf
  go_enter Tryd.func40, Tryd.ntmps40
  go_wp2_with fail
  obtain ⟨W, hW, hB, hS, -, h1, h2, h3⟩ := new4 w (Obj.cells #[v] 58) (Obj.cells #[Value.int IntKind.i64 size, Value.slice A ws.length c] 24) (Obj.cells #[Value.int IntKind.i64 st, Value.int IntKind.i64 ct] 26) (Obj.cells #[Value.int IntKind.i64 0, Value.slice none 0 0] 24)
  rw [hW]
  have HB := Aside0.mk hB
  have B1 := Aside0.mk h1
  have B2 := Aside0.mk h2
  have B3 := Aside0.mk h3
  clear hW hB hS h1 h2 h3
  refine (bCheck.calls 1 size _ c ws 0 W (Kd.C_below HR.out HB.out) HC.out HE.out).mono ?_
  rintro e w1 ⟨rfl, hb1⟩
  obtain ⟨c10, c11, f10, f11⟩ := cells2 (blk_of_below B1.out hb1)
  obtain ⟨c20, c21, f20, f21⟩ := cells2 (blk_of_below B2.out hb1)
  have B3' := Aside0.mk (blk_of_below B3.out hb1)
  have HB1 := Aside0.mk (below_step HB.out hb1)
  clear hb1 f10 f11 f20 f21
  go_wp2_with fail
  refine (bfits.calls st ct size false w1 HF.out).mono ?_
  rintro e w2 ⟨rfl, hb2⟩
  obtain ⟨c30, c31, f30, f31⟩ := cells2 (blk_of_below B3'.out hb2)
  have HB2 := Aside0.mk (below_step HB1.out hb2)
  clear hb2 c10 c11 c20 c21
  go_wp2_with fail
  refine bodyPost_ret (v := .tuple #[.agg #[.int .i64 0, .slice none 0 0], .int .i64 2]) ?_ rfl ⟨rfl, ?_⟩
  · simp [results, Tryd.results40, go_sem, *]
  · exact (HB2.out.setCell (p := ⟨w.heap.size + 1 + 1 + 1, 0, none⟩) (show w.heap.size ≤ w.heap.size + 1 + 1 + 1 by omega) _).setCell (p := ⟨w.heap.size + 1 + 1 + 1, 1, none⟩) (show w.heap.size ≤ w.heap.size + 1 + 1 + 1 by omega) _
/-- After k words. -/
def part (F : Nat → Int → Int) (ws : List Int) (k : Nat) : List Int := (ws.mapIdx F).take k ++ ws.drop k
theorem part_zero (F : Nat → Int → Int) (ws : List Int) : part F ws 0 = ws := by simp [part]
theorem part_all (F : Nat → Int → Int) (ws : List Int) : part F ws ws.length = ws.mapIdx F := by simp [part, List.take_of_length_le]
theorem part_length (F : Nat → Int → Int) (ws : List Int) (k : Nat) (hk : k ≤ ws.length) : (part F ws k).length = ws.length := by simp [part]; omega
theorem part_at (F : Nat → Int → Int) (ws : List Int) (k : Nat) (hk : k < ws.length) : (part F ws k)[k]? = some (ws.getD k 0) := by
  simp [part, List.getElem?_append, Nat.min_eq_left (Nat.le_of_lt hk), hk]
theorem part_succ (F : Nat → Int → Int) (ws : List Int) (k : Nat) (hk : k < ws.length) : (part F ws k).set k (F k (ws.getD k 0)) = part F ws (k + 1) := by
  apply List.ext_getElem?
  intro i
  rw [List.getElem?_set]
  have hl := part_length F ws k (by omega)
  by_cases hi : k = i
  · subst hi
    rw [if_pos rfl, if_pos (by omega)]
    simp [part, List.getElem?_append, hk, show k + 1 ≤ ws.length by omega]
  · rw [if_neg hi]
    unfold part
    by_cases hik : i < k
    · rw [List.getElem?_append_left (by simp; omega), List.getElem?_append_left (by simp; omega), List.getElem?_take_of_lt hik, List.getElem?_take_of_lt (by omega)]
    · rw [List.getElem?_append_right (by simp; omega), List.getElem?_append_right (by simp; omega)]
      simp only [List.length_take, List.length_mapIdx, Nat.min_eq_left (Nat.le_of_lt hk), Nat.min_eq_left (show k + 1 ≤ ws.length by omega), List.getElem?_drop]
      congr 1; omega
set_option maxHeartbeats 4000000 in
set_option maxRecDepth 100000 in
theorem set_ok (size : Int) (A : Option Addr) (c : Nat) (ws : List Int) (st ct : Int) (w : World) (hr : Kd.C (Kd.int .u64) w A ws.length ws) (hc : ws.length ≤ c) (he0 : bCheck.f 1 size ws = some 0) (hf : bfits.f st ct size = some true)
    (hlen : ws.length ≤ 100) (hm : ∀ k : Nat, k < ws.length → bmask.f k st (wrap64 (st + ct)) = some (mkW k st (wrap64 (st + ct)))) :
    Calls Tryd.prog 40 #[.agg #[.func (.func 39) #[] #[]], .agg #[.int .i64 size, .slice A ws.length c], .agg #[.int .i64 st, .int .i64 ct]] w fun e w' => ∃ v1_ : Value, e = .returned (.tuple #[.agg #[.int .i64 size, v1_], .int .i64 0]) ∧ Kd.R (Kd.int .u64) 55 w' w.heap.size (fun _ => True) v1_ (ws.mapIdx fun i x => Go.bits .or .u64 x (mkW i st (wrap64 (st + ct)))) ∧ Below w.heap.size w w' := by
  have HR := Aside0.mk hr
  have HC := Aside0.mk hc
  have HE := Aside0.mk he0
  have HF := Aside0.mk hf
  have HM := Aside0.mk hm
  clear hr hc he0 hf hm
  go_enter Tryd.func40, Tryd.ntmps40
  go_wp2_with fail
  obtain ⟨W, hW, hB, hS, h0, h1, h2, h3⟩ := new4 w (Obj.cells #[Value.func (.func 39) #[] #[]] 58) (Obj.cells #[Value.int IntKind.i64 size, Value.slice A ws.length c] 24) (Obj.cells #[Value.int IntKind.i64 st, Value.int IntKind.i64 ct] 26) (Obj.cells #[Value.int IntKind.i64 0, Value.slice none 0 0] 24)
  rw [hW]
  have HB := Aside0.mk hB
  have B0 := Aside0.mk h0
  have B1 := Aside0.mk h1
  have B2 := Aside0.mk h2
  have B3 := Aside0.mk h3
  clear hW hB hS h0 h1 h2 h3
  refine (bCheck.calls 1 size _ c ws 0 W (Kd.C_below HR.out HB.out) HC.out HE.out).mono ?_
  rintro e w1 ⟨rfl, hb1⟩
  obtain ⟨c10, c11, f10, f11⟩ := cells2 (blk_of_below B1.out hb1)
  obtain ⟨c20, c21, f20, f21⟩ := cells2 (blk_of_below B2.out hb1)
  have B0' := Aside0.mk (blk_of_below B0.out hb1)
  have B1' := Aside0.mk (blk_of_below B1.out hb1)
  have B2' := Aside0.mk (blk_of_below B2.out hb1)
  have B3' := Aside0.mk (blk_of_below B3.out hb1)
  have HB1 := Aside0.mk (below_step HB.out hb1)
  clear hb1 f10 f11 f20 f21 B0 B1 B2 B3
  go_wp2_with fail
  refine (bfits.calls st ct size true w1 HF.out).mono ?_
  rintro e w2 ⟨rfl, hb2⟩
  have B0 := Aside0.mk (blk_of_below B0'.out hb2)
  have B1 := Aside0.mk (blk_of_below B1'.out hb2)
  have B2 := Aside0.mk (blk_of_below B2'.out hb2)
  have B3 := Aside0.mk (blk_of_below B3'.out hb2)
  have HB2 := Aside0.mk (below_step HB1.out hb2)
  clear hb2 c10 c11 c20 c21 B0' B1' B2' B3'
  obtain ⟨c10, c11, f10, f11⟩ := cells2 B1.out
  clear f10 f11
  go_wp2_with fail
  have hclone : Calls Tryd.prog 54 #[.slice A ws.length c] w2 fun e w' => ∃ A2 c2, e = .returned (.slice A2 ws.length c2) ∧ w'.ownsRow w2.heap.size 55 1 (.slice A2 ws.length c2) ws.length (nums .u64 ws) ∧ Below w2.heap.size w2 w' := by
    cases A with
    | none =>
      have h0 : ws.length = 0 := by
        rcases Nat.eq_zero_or_pos ws.length with h | h
        · exact h
        · obtain ⟨ad, e, _⟩ := HR.out.2.2 h
          cases e
      have hn : ws = [] := List.eq_nil_of_length_eq_zero h0
      subst hn
      exact (clone_nil c w2).mono fun e w' ⟨he, hw⟩ => ⟨none, 0, he, by rw [hw]; exact own_nil _ _ _ _, by rw [hw]; exact Below.refl _ _⟩
    | some ad =>
      refine (clone_row ad ws.length c ws w2 rfl (by omega) ?_).mono ?_
      · intro j hj
        obtain ⟨ad', e, h⟩ := (Kd.C_below HR.out HB2.out).2.2 (by omega)
        cases e
        obtain ⟨cs, hl, hk, hcell⟩ := h j _ (List.getElem?_eq_getElem hj)
        have hcs : cs = [Value.int .u64 ws[j]] := hk
        subst hcs
        have := hcell 0 _ rfl
        simpa [List.getD, hj, show (Kd.int .u64).sz = 1 from rfl] using this
      · rintro e w' ⟨v', he, ho, hb⟩
        obtain ⟨A2, c2, hv⟩ := own_slice ho
        subst hv
        exact ⟨A2, c2, he, ho, hb⟩
  refine hclone.mono ?_
  clear hclone
  rintro e w3 ⟨A2, c2, rfl, ho3, hb3⟩
  have HO3 := Aside0.mk ho3
  have HB3 := Aside0.mk hb3
  have HL : Aside0 (w.heap.size + 1 + 1 + 1 < w2.heap.size) := ⟨(Array.getElem?_eq_some_iff.1 B3.out).1⟩
  clear ho3 hb3 c10 c11
  go_wp2_with fail
  have hw64 : IntKind.i64.wrap (st + ct) = wrap64 (st + ct) := i64_w _
  obtain ⟨F, hF⟩ : ∃ F : Nat → Int → Int, F = fun (i : Nat) (x : Int) => Go.bits .or .u64 x (mkW i st (wrap64 (st + ct))) := ⟨_, rfl⟩
  have HFe := Aside0.mk hF
  have HW := Aside0.mk hw64
  clear hF hw64
  go_loopw [28] (fun i wr => ∃ k : Nat, k ≤ ws.length ∧ i = .int .i64 k ∧ wr.ownsRow w2.heap.size 55 1 (.slice A2 ws.length c2) ws.length (nums .u64 (part F ws k)) ∧ Below w2.heap.size w2 wr)
    (fun i _ => ws.length - (intOf i).toNat)
  case atStart => exact ⟨0, Nat.zero_le _, rfl, by rw [part_zero]; exact HO3.out, HB3.out⟩
  case round =>
    obtain ⟨k, hk, rfl, ho, hb⟩ := hrel
    have HO := Aside0.mk ho
    have HBr := Aside0.mk hb
    clear ho hb
    by_cases hlt : k < ws.length
    · obtain ⟨g, cap, hv, -⟩ := HO.out.form (by omega)
      injection hv with hA _ hcap
      subst hA
      subst hcap
      have hfn : wr.cell? ⟨w.heap.size, 0, none⟩ = some (.func (.func 39) #[] #[]) := (blk_cell ((HBr.out.block _ (by have := HL.out; omega)).trans B0.out) 0).trans rfl
      obtain ⟨c20, c21, -, -⟩ := cells2 ((HBr.out.block _ (by have := HL.out; omega)).trans B2.out)
      have hxk : wr.cell? ⟨g, k, none⟩ = some (.int .u64 (ws.getD k 0)) := by
        rw [HO.out.cellAt k (by omega)]
        simp [nums, part_at F ws k hlt]
      have hxf : wr.frozen? ⟨g, k, none⟩ = false := HO.out.frozenAt k
      obtain ⟨x, hx⟩ : ∃ x, x = ws.getD k 0 := ⟨_, rfl⟩
      rw [← hx] at hxk
      have HX := Aside0.mk hx
      clear hx
      go_wp2_with fail
      go_still_tail 19, (by kernel_rfl)
      refine wpStill_step (fun K hK => ?_)
      go_simp
      rw [HW.out]
      refine ⟨_, bmask.same k st _ _ _ (HM.out k hlt), hK _ ?_⟩
      clear hK K
      refine wpStill_step (fun K hK => ?_)
      go_simp
      refine ⟨_, set_op _ _ _, hK _ ?_⟩
      clear hK K
      repeat still_step
      refine wpStill_nil ?_
      change wpList _ _ _ _ _ wr.drew
      have hd1 : wr.drew.cell? ⟨g, k, none⟩ = some (.int .u64 x) := hxk
      have hd2 : wr.drew.frozen? ⟨g, k, none⟩ = false := hxf
      have hst := (HO.out.drew).stored k (.int .u64 (Go.bits .or .u64 x (mkW k st (wrap64 (st + ct)))))
      obtain ⟨hst1, hst2⟩ := hst
      have HO2 : Aside0 ((wr.drew.setCell ⟨g, k, none⟩ (.int .u64 (Go.bits .or .u64 x (mkW k st (wrap64 (st + ct)))))).ownsRow w2.heap.size 55 1 (.slice (some ⟨g, 0, none⟩) ws.length c2) ws.length (nums .u64 (part F ws (k + 1)))) := ⟨by
        have e : (nums .u64 (part F ws k)).set k (.int .u64 (Go.bits .or .u64 x (mkW k st (wrap64 (st + ct))))) = nums .u64 (part F ws (k + 1)) := by
          rw [← part_succ F ws k hlt, HFe.out, HX.out]
          simp [nums, List.map_set]
        rw [← e]; exact hst1⟩
      have HB2' : Aside0 (Below w2.heap.size w2 (wr.drew.setCell ⟨g, k, none⟩ (.int .u64 (Go.bits .or .u64 x (mkW k st (wrap64 (st + ct))))))) := ⟨(below_drew1 HBr.out).setCell (p := ⟨g, k, none⟩) (own_base HO.out g rfl) _⟩
      clear hst1 hst2 hxk hxf
      go_wp2
      go_roundw
      case rel => exact ⟨k + 1, by omega, by go_num, HO2.out, HB2'.out⟩
      case measure => simp [intOf]; omega
    · obtain rfl : k = ws.length := by omega
      obtain ⟨c10, c11, -, -⟩ := cells2 ((HBr.out.block _ (by have := HL.out; omega)).trans B1.out)
      obtain ⟨c30, c31, f30, f31⟩ := cells2 ((HBr.out.block _ (by have := HL.out; omega)).trans B3.out)
      go_wp2
      refine bodyPost_ret (v := .tuple #[.agg #[.int .i64 size, .slice A2 ws.length c2], .int .i64 0]) ?_ rfl ⟨_, rfl, ?_, ?_⟩
      · simp [results, Tryd.results40, go_sem, *]
      · have hrow : wr.ownsRow w.heap.size 55 1 (.slice A2 ws.length c2) (ws.mapIdx F).length (encs (Value.int .u64) (ws.mapIdx F)) := by
          have := own_weaken HO.out HB2.out.size
          rw [part_all] at this
          rw [List.length_mapIdx]
          exact this
        rw [← HFe.out]
        exact Kd.R_mono (Kd.R_far (p := ⟨w.heap.size + 1 + 1 + 1, 1, none⟩) (Kd.R_far (p := ⟨w.heap.size + 1 + 1 + 1, 0, none⟩) (Kd.R_types (Kd.R_of_own (ok := fun _ => True) hrow (fun _ _ => trivial)) ((HBr.out.block _ (by have := HL.out; omega)).trans B3.out) (by decide)) (fun k hk => hk.2) _) (fun k hk => hk.2) _) (fun _ _ => trivial)
      · exact ((HB2.out.trans (HBr.out.mono HB2.out.size)).setCell (p := ⟨w.heap.size + 1 + 1 + 1, 0, none⟩) (show w.heap.size ≤ w.heap.size + 1 + 1 + 1 by omega) _).setCell (p := ⟨w.heap.size + 1 + 1 + 1, 1, none⟩) (show w.heap.size ≤ w.heap.size + 1 + 1 + 1 by omega) _
theorem set_apply (size : Int) (A : Option Addr) (c : Nat) (ws : List Int) (st ct : Int) (w : World) (hr : Kd.C (Kd.int .u64) w A ws.length ws) (hc : ws.length ≤ c) :
    Calls Tryd.prog 40 #[.agg #[.func (.func 39) #[] #[]], .agg #[.int .i64 size, .slice A ws.length c], .agg #[.int .i64 st, .int .i64 ct]] w fun e w' => ∃ v1_ : Value, e = .returned (.tuple #[.agg #[.int .i64 (bChange .or size ws st ct).1, v1_], .int .i64 (bChange .or size ws st ct).2.2]) ∧ Kd.R (Kd.int .u64) 55 w' w.heap.size (fun _ => True) v1_ (bChange .or size ws st ct).2.1 ∧ Below w.heap.size w w' := by
  by_cases hg : Good size ws
  · by_cases hf : Fits st ct size
    · have e : bChange .or size ws st ct = (size, ws.mapIdx fun i x => Go.bits .or .u64 x (mkW i st (wrap64 (st + ct))), 0) := by
        unfold bChange
        rw [if_pos ((good_iff _ _).2 hg), fit_eq, if_pos (by simpa using hf)]
      rw [e]
      have hb := hf.bounds hg.lo hg.hi
      have hw : wrap64 (st + ct) = st + ct := w64 _ (by have := hg.hi; omega) (by have := hg.hi; omega)
      have hl := hg.len_le
      have hh := hg.hi
      exact set_ok size A c ws st ct w hr hc (good_yes hg 0) (by rw [fits_eq]; simp [hf]) (by omega) (fun k hk => by rw [hw]; exact mask_some k st (st + ct) (by omega) (by omega) (by omega) (by omega) (by omega))
    · have e : bChange .or size ws st ct = (0, [], 2) := by
        unfold bChange
        rw [if_pos ((good_iff _ _).2 hg), fit_eq, if_neg (by simpa using hf)]
      rw [e]
      exact (apply_out size A c ws st ct w hr hc (good_yes hg 0) (by rw [fits_eq]; simp [hf]) _).mono fun e w' ⟨he, hb⟩ => ⟨_, he, Kd.R_nil _ _ _ _ _, hb⟩
  · have e : bChange .or size ws st ct = (0, [], 3) := by
      unfold bChange
      rw [if_neg (fun h => hg ((good_iff _ _).1 h))]
    rw [e]
    exact (apply_bad size A c ws st ct w hr hc 3 (good_no hg 0) rfl _).mono fun e w' ⟨he, hb⟩ => ⟨_, he, Kd.R_nil _ _ _ _ _, hb⟩
set_option maxHeartbeats 2000000 in
set_option maxRecDepth 100000 in
theorem bSet.calls (a0_0 : Int) (A0_1 : Option Addr) (c0_1 : Nat) (l0_1 : List Int) (a1_0 : Int) (a1_1 : Int) (r1 : Int) (r2 : List Int) (r3 : Int) (w : World) (hr0_1 : Kd.C (Kd.int .u64) w A0_1 l0_1.length l0_1) (hc0_1 : l0_1.length ≤ c0_1) (h : bSet.f a0_0 l0_1 a1_0 a1_1 = some (r1, r2, r3)) :
    Calls Tryd.prog 13 #[.agg #[.int .i64 a0_0, .slice A0_1 l0_1.length c0_1], .agg #[.int .i64 a1_0, .int .i64 a1_1]] w fun e w' => ∃ v1_ : Value, e = .returned (.tuple #[.agg #[.int .i64 r1, v1_], .int .i64 r3]) ∧ Kd.R (Kd.int .u64) 55 w' w.heap.size (fun _ => True) v1_ r2 ∧ Below w.heap.size w w' := by
  obtain ⟨rfl, rfl, rfl⟩ : (bChange .or a0_0 l0_1 a1_0 a1_1).1 = r1 ∧ (bChange .or a0_0 l0_1 a1_0 a1_1).2.1 = r2 ∧ (bChange .or a0_0 l0_1 a1_0 a1_1).2.2 = r3 := by
    have := Option.some.inj h
    rw [this]; exact ⟨rfl, rfl, rfl⟩
  have HR := Aside0.mk hr0_1
  have HC := Aside0.mk hc0_1
  have HA := fun (W : World) (hb : Below w.heap.size w W) => set_apply a0_0 A0_1 c0_1 l0_1 a1_0 a1_1 W (Kd.C_below HR.out hb) HC.out
  generalize bChange .or a0_0 l0_1 a1_0 a1_1 = q at HA ⊢
  have HQ := Aside0.mk HA
  clear hr0_1 hc0_1 h HA
  go_enter Tryd.func13, Tryd.ntmps13
  go_wp2_with fail
  obtain ⟨W, hW, hB, -, -, -, h2⟩ := new3 w (Obj.cells #[Value.int IntKind.i64 a0_0, Value.slice A0_1 l0_1.length c0_1] 24) (Obj.cells #[Value.int IntKind.i64 a1_0, Value.int IntKind.i64 a1_1] 26) (Obj.cells #[Value.int IntKind.i64 0, Value.slice none 0 0] 24)
  rw [hW]
  have HB := Aside0.mk hB
  have B2 := Aside0.mk h2
  clear hW hB h2
  refine (HQ.out W HB.out).mono ?_
  rintro e w1 ⟨v1, rfl, hR, hb1⟩
  obtain ⟨A2, c2, rfl⟩ : ∃ A2 c2, v1 = .slice A2 q.2.1.length c2 := by
    obtain ⟨inner, ho, -⟩ := hR.2
    exact own_slice ho
  obtain ⟨c30, c31, f30, f31⟩ := cells2 (blk_of_below B2.out hb1)
  have HB1 := Aside0.mk (below_step HB.out hb1)
  have HRR := Aside0.mk (Kd.R_types (Kd.R_lower hR HB.out.size) (blk_of_below B2.out hb1) (by decide))
  clear hb1 hR
  go_wp2_with fail
  refine bodyPost_ret (v := .tuple #[.agg #[.int .i64 q.1, .slice A2 q.2.1.length c2], .int .i64 q.2.2]) ?_ rfl ⟨_, rfl, ?_, ?_⟩
  · simp [results, Tryd.results13, go_sem, *]
  · exact Kd.R_mono (Kd.R_far (p := ⟨w.heap.size + 1 + 1, 1, none⟩) (Kd.R_far (p := ⟨w.heap.size + 1 + 1, 0, none⟩) HRR.out (fun k hk => hk.2) _) (fun k hk => hk.2) _) (fun _ _ => trivial)
  · exact (HB1.out.setCell (p := ⟨w.heap.size + 1 + 1, 0, none⟩) (show w.heap.size ≤ w.heap.size + 1 + 1 by omega) _).setCell (p := ⟨w.heap.size + 1 + 1, 1, none⟩) (show w.heap.size ≤ w.heap.size + 1 + 1 by omega) _
set_option maxHeartbeats 4000000 in
set_option maxRecDepth 100000 in
theorem clear_ok (size : Int) (A : Option Addr) (c : Nat) (ws : List Int) (st ct : Int) (w : World) (hr : Kd.C (Kd.int .u64) w A ws.length ws) (hc : ws.length ≤ c) (he0 : bCheck.f 1 size ws = some 0) (hf : bfits.f st ct size = some true)
    (hlen : ws.length ≤ 100) (hm : ∀ k : Nat, k < ws.length → bmask.f k st (wrap64 (st + ct)) = some (mkW k st (wrap64 (st + ct)))) :
    Calls Tryd.prog 40 #[.agg #[.func (.func 42) #[] #[]], .agg #[.int .i64 size, .slice A ws.length c], .agg #[.int .i64 st, .int .i64 ct]] w fun e w' => ∃ v1_ : Value, e = .returned (.tuple #[.agg #[.int .i64 size, v1_], .int .i64 0]) ∧ Kd.R (Kd.int .u64) 55 w' w.heap.size (fun _ => True) v1_ (ws.mapIdx fun i x => Go.bits .andNot .u64 x (mkW i st (wrap64 (st + ct)))) ∧ Below w.heap.size w w' := by
  have HR := Aside0.mk hr
  have HC := Aside0.mk hc
  have HE := Aside0.mk he0
  have HF := Aside0.mk hf
  have HM := Aside0.mk hm
  clear hr hc he0 hf hm
  go_enter Tryd.func40, Tryd.ntmps40
  go_wp2_with fail
  obtain ⟨W, hW, hB, hS, h0, h1, h2, h3⟩ := new4 w (Obj.cells #[Value.func (.func 42) #[] #[]] 58) (Obj.cells #[Value.int IntKind.i64 size, Value.slice A ws.length c] 24) (Obj.cells #[Value.int IntKind.i64 st, Value.int IntKind.i64 ct] 26) (Obj.cells #[Value.int IntKind.i64 0, Value.slice none 0 0] 24)
  rw [hW]
  have HB := Aside0.mk hB
  have B0 := Aside0.mk h0
  have B1 := Aside0.mk h1
  have B2 := Aside0.mk h2
  have B3 := Aside0.mk h3
  clear hW hB hS h0 h1 h2 h3
  refine (bCheck.calls 1 size _ c ws 0 W (Kd.C_below HR.out HB.out) HC.out HE.out).mono ?_
  rintro e w1 ⟨rfl, hb1⟩
  obtain ⟨c10, c11, f10, f11⟩ := cells2 (blk_of_below B1.out hb1)
  obtain ⟨c20, c21, f20, f21⟩ := cells2 (blk_of_below B2.out hb1)
  have B0' := Aside0.mk (blk_of_below B0.out hb1)
  have B1' := Aside0.mk (blk_of_below B1.out hb1)
  have B2' := Aside0.mk (blk_of_below B2.out hb1)
  have B3' := Aside0.mk (blk_of_below B3.out hb1)
  have HB1 := Aside0.mk (below_step HB.out hb1)
  clear hb1 f10 f11 f20 f21 B0 B1 B2 B3
  go_wp2_with fail
  refine (bfits.calls st ct size true w1 HF.out).mono ?_
  rintro e w2 ⟨rfl, hb2⟩
  have B0 := Aside0.mk (blk_of_below B0'.out hb2)
  have B1 := Aside0.mk (blk_of_below B1'.out hb2)
  have B2 := Aside0.mk (blk_of_below B2'.out hb2)
  have B3 := Aside0.mk (blk_of_below B3'.out hb2)
  have HB2 := Aside0.mk (below_step HB1.out hb2)
  clear hb2 c10 c11 c20 c21 B0' B1' B2' B3'
  obtain ⟨c10, c11, f10, f11⟩ := cells2 B1.out
  clear f10 f11
  go_wp2_with fail
  have hclone : Calls Tryd.prog 54 #[.slice A ws.length c] w2 fun e w' => ∃ A2 c2, e = .returned (.slice A2 ws.length c2) ∧ w'.ownsRow w2.heap.size 55 1 (.slice A2 ws.length c2) ws.length (nums .u64 ws) ∧ Below w2.heap.size w2 w' := by
    cases A with
    | none =>
      have h0 : ws.length = 0 := by
        rcases Nat.eq_zero_or_pos ws.length with h | h
        · exact h
        · obtain ⟨ad, e, _⟩ := HR.out.2.2 h
          cases e
      have hn : ws = [] := List.eq_nil_of_length_eq_zero h0
      subst hn
      exact (clone_nil c w2).mono fun e w' ⟨he, hw⟩ => ⟨none, 0, he, by rw [hw]; exact own_nil _ _ _ _, by rw [hw]; exact Below.refl _ _⟩
    | some ad =>
      refine (clone_row ad ws.length c ws w2 rfl (by omega) ?_).mono ?_
      · intro j hj
        obtain ⟨ad', e, h⟩ := (Kd.C_below HR.out HB2.out).2.2 (by omega)
        cases e
        obtain ⟨cs, hl, hk, hcell⟩ := h j _ (List.getElem?_eq_getElem hj)
        have hcs : cs = [Value.int .u64 ws[j]] := hk
        subst hcs
        have := hcell 0 _ rfl
        simpa [List.getD, hj, show (Kd.int .u64).sz = 1 from rfl] using this
      · rintro e w' ⟨v', he, ho, hb⟩
        obtain ⟨A2, c2, hv⟩ := own_slice ho
        subst hv
        exact ⟨A2, c2, he, ho, hb⟩
  refine hclone.mono ?_
  clear hclone
  rintro e w3 ⟨A2, c2, rfl, ho3, hb3⟩
  have HO3 := Aside0.mk ho3
  have HB3 := Aside0.mk hb3
  have HL : Aside0 (w.heap.size + 1 + 1 + 1 < w2.heap.size) := ⟨(Array.getElem?_eq_some_iff.1 B3.out).1⟩
  clear ho3 hb3 c10 c11
  go_wp2_with fail
  have hw64 : IntKind.i64.wrap (st + ct) = wrap64 (st + ct) := i64_w _
  obtain ⟨F, hF⟩ : ∃ F : Nat → Int → Int, F = fun (i : Nat) (x : Int) => Go.bits .andNot .u64 x (mkW i st (wrap64 (st + ct))) := ⟨_, rfl⟩
  have HFe := Aside0.mk hF
  have HW := Aside0.mk hw64
  clear hF hw64
  go_loopw [28] (fun i wr => ∃ k : Nat, k ≤ ws.length ∧ i = .int .i64 k ∧ wr.ownsRow w2.heap.size 55 1 (.slice A2 ws.length c2) ws.length (nums .u64 (part F ws k)) ∧ Below w2.heap.size w2 wr)
    (fun i _ => ws.length - (intOf i).toNat)
  case atStart => exact ⟨0, Nat.zero_le _, rfl, by rw [part_zero]; exact HO3.out, HB3.out⟩
  case round =>
    obtain ⟨k, hk, rfl, ho, hb⟩ := hrel
    have HO := Aside0.mk ho
    have HBr := Aside0.mk hb
    clear ho hb
    by_cases hlt : k < ws.length
    · obtain ⟨g, cap, hv, -⟩ := HO.out.form (by omega)
      injection hv with hA _ hcap
      subst hA
      subst hcap
      have hfn : wr.cell? ⟨w.heap.size, 0, none⟩ = some (.func (.func 42) #[] #[]) := (blk_cell ((HBr.out.block _ (by have := HL.out; omega)).trans B0.out) 0).trans rfl
      obtain ⟨c20, c21, -, -⟩ := cells2 ((HBr.out.block _ (by have := HL.out; omega)).trans B2.out)
      have hxk : wr.cell? ⟨g, k, none⟩ = some (.int .u64 (ws.getD k 0)) := by
        rw [HO.out.cellAt k (by omega)]
        simp [nums, part_at F ws k hlt]
      have hxf : wr.frozen? ⟨g, k, none⟩ = false := HO.out.frozenAt k
      obtain ⟨x, hx⟩ : ∃ x, x = ws.getD k 0 := ⟨_, rfl⟩
      rw [← hx] at hxk
      have HX := Aside0.mk hx
      clear hx
      go_wp2_with fail
      go_still_tail 19, (by kernel_rfl)
      refine wpStill_step (fun K hK => ?_)
      go_simp
      rw [HW.out]
      refine ⟨_, bmask.same k st _ _ _ (HM.out k hlt), hK _ ?_⟩
      clear hK K
      refine wpStill_step (fun K hK => ?_)
      go_simp
      refine ⟨_, clear_op _ _ _, hK _ ?_⟩
      clear hK K
      repeat still_step
      refine wpStill_nil ?_
      change wpList _ _ _ _ _ wr.drew
      have hd1 : wr.drew.cell? ⟨g, k, none⟩ = some (.int .u64 x) := hxk
      have hd2 : wr.drew.frozen? ⟨g, k, none⟩ = false := hxf
      have hst := (HO.out.drew).stored k (.int .u64 (Go.bits .andNot .u64 x (mkW k st (wrap64 (st + ct)))))
      obtain ⟨hst1, hst2⟩ := hst
      have HO2 : Aside0 ((wr.drew.setCell ⟨g, k, none⟩ (.int .u64 (Go.bits .andNot .u64 x (mkW k st (wrap64 (st + ct)))))).ownsRow w2.heap.size 55 1 (.slice (some ⟨g, 0, none⟩) ws.length c2) ws.length (nums .u64 (part F ws (k + 1)))) := ⟨by
        have e : (nums .u64 (part F ws k)).set k (.int .u64 (Go.bits .andNot .u64 x (mkW k st (wrap64 (st + ct))))) = nums .u64 (part F ws (k + 1)) := by
          rw [← part_succ F ws k hlt, HFe.out, HX.out]
          simp [nums, List.map_set]
        rw [← e]; exact hst1⟩
      have HB2' : Aside0 (Below w2.heap.size w2 (wr.drew.setCell ⟨g, k, none⟩ (.int .u64 (Go.bits .andNot .u64 x (mkW k st (wrap64 (st + ct))))))) := ⟨(below_drew1 HBr.out).setCell (p := ⟨g, k, none⟩) (own_base HO.out g rfl) _⟩
      clear hst1 hst2 hxk hxf
      go_wp2
      go_roundw
      case rel => exact ⟨k + 1, by omega, by go_num, HO2.out, HB2'.out⟩
      case measure => simp [intOf]; omega
    · obtain rfl : k = ws.length := by omega
      obtain ⟨c10, c11, -, -⟩ := cells2 ((HBr.out.block _ (by have := HL.out; omega)).trans B1.out)
      obtain ⟨c30, c31, f30, f31⟩ := cells2 ((HBr.out.block _ (by have := HL.out; omega)).trans B3.out)
      go_wp2
      refine bodyPost_ret (v := .tuple #[.agg #[.int .i64 size, .slice A2 ws.length c2], .int .i64 0]) ?_ rfl ⟨_, rfl, ?_, ?_⟩
      · simp [results, Tryd.results40, go_sem, *]
      · have hrow : wr.ownsRow w.heap.size 55 1 (.slice A2 ws.length c2) (ws.mapIdx F).length (encs (Value.int .u64) (ws.mapIdx F)) := by
          have := own_weaken HO.out HB2.out.size
          rw [part_all] at this
          rw [List.length_mapIdx]
          exact this
        rw [← HFe.out]
        exact Kd.R_mono (Kd.R_far (p := ⟨w.heap.size + 1 + 1 + 1, 1, none⟩) (Kd.R_far (p := ⟨w.heap.size + 1 + 1 + 1, 0, none⟩) (Kd.R_types (Kd.R_of_own (ok := fun _ => True) hrow (fun _ _ => trivial)) ((HBr.out.block _ (by have := HL.out; omega)).trans B3.out) (by decide)) (fun k hk => hk.2) _) (fun k hk => hk.2) _) (fun _ _ => trivial)
      · exact ((HB2.out.trans (HBr.out.mono HB2.out.size)).setCell (p := ⟨w.heap.size + 1 + 1 + 1, 0, none⟩) (show w.heap.size ≤ w.heap.size + 1 + 1 + 1 by omega) _).setCell (p := ⟨w.heap.size + 1 + 1 + 1, 1, none⟩) (show w.heap.size ≤ w.heap.size + 1 + 1 + 1 by omega) _
theorem clear_apply (size : Int) (A : Option Addr) (c : Nat) (ws : List Int) (st ct : Int) (w : World) (hr : Kd.C (Kd.int .u64) w A ws.length ws) (hc : ws.length ≤ c) :
    Calls Tryd.prog 40 #[.agg #[.func (.func 42) #[] #[]], .agg #[.int .i64 size, .slice A ws.length c], .agg #[.int .i64 st, .int .i64 ct]] w fun e w' => ∃ v1_ : Value, e = .returned (.tuple #[.agg #[.int .i64 (bChange .andNot size ws st ct).1, v1_], .int .i64 (bChange .andNot size ws st ct).2.2]) ∧ Kd.R (Kd.int .u64) 55 w' w.heap.size (fun _ => True) v1_ (bChange .andNot size ws st ct).2.1 ∧ Below w.heap.size w w' := by
  by_cases hg : Good size ws
  · by_cases hf : Fits st ct size
    · have e : bChange .andNot size ws st ct = (size, ws.mapIdx fun i x => Go.bits .andNot .u64 x (mkW i st (wrap64 (st + ct))), 0) := by
        unfold bChange
        rw [if_pos ((good_iff _ _).2 hg), fit_eq, if_pos (by simpa using hf)]
      rw [e]
      have hb := hf.bounds hg.lo hg.hi
      have hw : wrap64 (st + ct) = st + ct := w64 _ (by have := hg.hi; omega) (by have := hg.hi; omega)
      have hl := hg.len_le
      have hh := hg.hi
      exact clear_ok size A c ws st ct w hr hc (good_yes hg 0) (by rw [fits_eq]; simp [hf]) (by omega) (fun k hk => by rw [hw]; exact mask_some k st (st + ct) (by omega) (by omega) (by omega) (by omega) (by omega))
    · have e : bChange .andNot size ws st ct = (0, [], 2) := by
        unfold bChange
        rw [if_pos ((good_iff _ _).2 hg), fit_eq, if_neg (by simpa using hf)]
      rw [e]
      exact (apply_out size A c ws st ct w hr hc (good_yes hg 0) (by rw [fits_eq]; simp [hf]) _).mono fun e w' ⟨he, hb⟩ => ⟨_, he, Kd.R_nil _ _ _ _ _, hb⟩
  · have e : bChange .andNot size ws st ct = (0, [], 3) := by
      unfold bChange
      rw [if_neg (fun h => hg ((good_iff _ _).1 h))]
    rw [e]
    exact (apply_bad size A c ws st ct w hr hc 3 (good_no hg 0) rfl _).mono fun e w' ⟨he, hb⟩ => ⟨_, he, Kd.R_nil _ _ _ _ _, hb⟩
set_option maxHeartbeats 2000000 in
set_option maxRecDepth 100000 in
theorem bClear.calls (a0_0 : Int) (A0_1 : Option Addr) (c0_1 : Nat) (l0_1 : List Int) (a1_0 : Int) (a1_1 : Int) (r1 : Int) (r2 : List Int) (r3 : Int) (w : World) (hr0_1 : Kd.C (Kd.int .u64) w A0_1 l0_1.length l0_1) (hc0_1 : l0_1.length ≤ c0_1) (h : bClear.f a0_0 l0_1 a1_0 a1_1 = some (r1, r2, r3)) :
    Calls Tryd.prog 15 #[.agg #[.int .i64 a0_0, .slice A0_1 l0_1.length c0_1], .agg #[.int .i64 a1_0, .int .i64 a1_1]] w fun e w' => ∃ v1_ : Value, e = .returned (.tuple #[.agg #[.int .i64 r1, v1_], .int .i64 r3]) ∧ Kd.R (Kd.int .u64) 55 w' w.heap.size (fun _ => True) v1_ r2 ∧ Below w.heap.size w w' := by
  obtain ⟨rfl, rfl, rfl⟩ : (bChange .andNot a0_0 l0_1 a1_0 a1_1).1 = r1 ∧ (bChange .andNot a0_0 l0_1 a1_0 a1_1).2.1 = r2 ∧ (bChange .andNot a0_0 l0_1 a1_0 a1_1).2.2 = r3 := by
    have := Option.some.inj h
    rw [this]; exact ⟨rfl, rfl, rfl⟩
  have HR := Aside0.mk hr0_1
  have HC := Aside0.mk hc0_1
  have HA := fun (W : World) (hb : Below w.heap.size w W) => clear_apply a0_0 A0_1 c0_1 l0_1 a1_0 a1_1 W (Kd.C_below HR.out hb) HC.out
  generalize bChange .andNot a0_0 l0_1 a1_0 a1_1 = q at HA ⊢
  have HQ := Aside0.mk HA
  clear hr0_1 hc0_1 h HA
  go_enter Tryd.func15, Tryd.ntmps15
  go_wp2_with fail
  obtain ⟨W, hW, hB, -, -, -, h2⟩ := new3 w (Obj.cells #[Value.int IntKind.i64 a0_0, Value.slice A0_1 l0_1.length c0_1] 24) (Obj.cells #[Value.int IntKind.i64 a1_0, Value.int IntKind.i64 a1_1] 26) (Obj.cells #[Value.int IntKind.i64 0, Value.slice none 0 0] 24)
  rw [hW]
  have HB := Aside0.mk hB
  have B2 := Aside0.mk h2
  clear hW hB h2
  refine (HQ.out W HB.out).mono ?_
  rintro e w1 ⟨v1, rfl, hR, hb1⟩
  obtain ⟨A2, c2, rfl⟩ : ∃ A2 c2, v1 = .slice A2 q.2.1.length c2 := by
    obtain ⟨inner, ho, -⟩ := hR.2
    exact own_slice ho
  obtain ⟨c30, c31, f30, f31⟩ := cells2 (blk_of_below B2.out hb1)
  have HB1 := Aside0.mk (below_step HB.out hb1)
  have HRR := Aside0.mk (Kd.R_types (Kd.R_lower hR HB.out.size) (blk_of_below B2.out hb1) (by decide))
  clear hb1 hR
  go_wp2_with fail
  refine bodyPost_ret (v := .tuple #[.agg #[.int .i64 q.1, .slice A2 q.2.1.length c2], .int .i64 q.2.2]) ?_ rfl ⟨_, rfl, ?_, ?_⟩
  · simp [results, Tryd.results15, go_sem, *]
  · exact Kd.R_mono (Kd.R_far (p := ⟨w.heap.size + 1 + 1, 1, none⟩) (Kd.R_far (p := ⟨w.heap.size + 1 + 1, 0, none⟩) HRR.out (fun k hk => hk.2) _) (fun k hk => hk.2) _) (fun _ _ => trivial)
  · exact (HB1.out.setCell (p := ⟨w.heap.size + 1 + 1, 0, none⟩) (show w.heap.size ≤ w.heap.size + 1 + 1 by omega) _).setCell (p := ⟨w.heap.size + 1 + 1, 1, none⟩) (show w.heap.size ≤ w.heap.size + 1 + 1 by omega) _
end Go.Proofs.YthpldfjjdmjcoaaDoor.P

namespace Go.Proofs.YthpldfjjdmjcoaaDoor.P
open Go.RowKit Go.Shelf Go.Proofs.YthpldfjjdmjcoaaDoorW.PrintWords Go.Proofs.YthpldfjjdmjcoaaDoorW.PrintLast Go.Proofs.YthpldfjjdmjcoaaDoorW.PrintMore
attribute [local go_sem] Oper.semAt_some
set_option maxHeartbeats 1000000 in
theorem tz_core (x k idx : Nat) (w : World) (hx0 : ((x : Int) == 0) = false)
    (key : IntKind.u64.wrap (bits BinOp.and IntKind.u64 (x : Int) (IntKind.u64.wrap (-(x : Int))) * 285870213051353865) / 288230376151711744 = (idx : Int))
    (hi : idx < 64) (hk : k < 64) (hcell : w.cell? ⟨0, idx, none⟩ = some (.int .u8 k)) :
    Calls Tryd.prog 58 #[.int .u64 x] w fun e w' => e = .returned (.int .i64 k) ∧ w' = w := by
  go_enter Tryd.func58, Tryd.ntmps58
  go_wp2_with (simp only [key])
  go_ret
  exact ⟨rfl, rfl⟩
theorem tz_any (x : Nat) (hx0 : x ≠ 0) (hx : x < 18446744073709551616) (w : World) (hG : TabOK w) :
    Calls Tryd.prog 58 #[.int .u64 x] w fun e w' => e = .returned (.int .i64 (Lib.ctz 64 x)) ∧ w' = w := by
  obtain ⟨hlow, hk⟩ := Lib.lowest_bit 64 x hx0 hx
  obtain ⟨hi, htab⟩ := Lib.deBruijn64_at _ hk
  have hcell := hG.out _ hi
  rw [htab] at hcell
  exact tz_core x _ _ w (by simp; omega) (tz64_key x _ hx hx0 hlow) hi hk hcell
end Go.Proofs.YthpldfjjdmjcoaaDoor.P

namespace Go
variable {F : Fence} {n : Nat} {P : Program} {ops : Array Oper} {C : World → Prop} {md : Region.Mode}
def Oper.noDefer (o : Oper) : Bool := match o.op with | .defer _ => false | _ => true
theorem Oper.wpIn_of_quiet_r {o : Oper} {a : Act} {K : Act → Prop} {K' : Act → World → Prop} {Q' : Exit → Act → World → Prop} {w : World} (hd : o.noDefer = true) (hw : C w) (h : ∀ a w', C w' → K a → K' a w')
    (ha : o.askedIn F P a C) (hh : o.quietIn F n P a C K) : o.wpIn F n P a w K' Q' := by
  obtain ⟨v, h1, h2⟩ := hh
  have h3 := h1 w hw
  unfold Oper.quietAtIn at h3
  unfold Oper.wpIn
  refine ⟨ha w hw, ?_⟩
  rw [Oper.semAt_eq _ _ _ (fun c e => by unfold Oper.noDefer at hd; rw [e] at hd; cases hd)]
  generalize (execOp a.eval o).run P w = r at *
  cases r with
  | ok x w' =>
    cases x <;> simp only [Oper.quietUponIn] at h3 <;> simp only [Oper.uponIn]
    case value u =>
      obtain ⟨e1, e2⟩ := h3
      rw [e1, e2]
      exact h _ _ hw h2
    case skip =>
      obtain ⟨e1, e2⟩ := h3
      rw [e1, ← e2]
      exact h _ _ hw h2
    case enter f args =>
      obtain ⟨e1, hd, hc⟩ := h3
      rw [e1]
      exact ⟨hd, hc.mono fun e w'' ⟨he, hw''⟩ => by subst he; exact h _ _ hw'' h2⟩
  | halt x w' => simp only [Oper.quietUponIn] at h3
theorem wpOpIn_of_qOpIn_r {i : Nat} {a : Act} {K : Act → Prop} {K' : Act → World → Prop} {Q' : Exit → Act → World → Prop} {w : World} (hd : ∀ o ∈ ops, o.noDefer = true) (hC : C w) (h : ∀ a w', C w' → K a → K' a w')
    (hh : qOpIn F n P ops C i K a) : wpOpIn F n P ops Q' i K' a w := by
  unfold qOpIn at hh
  unfold wpOpIn
  split
  · rename_i ho; simp only [ho] at hh; exact h _ _ hC hh
  · rename_i o ho
    simp only [ho] at hh
    obtain ⟨ha, hh⟩ := hh
    split
    · rename_i hw; simp only [hw, if_true] at hh; exact Oper.wpIn_of_quiet_r (hd o (Array.mem_of_getElem? ho)) hC h ha hh
    · rename_i hw; simp only [hw] at hh; exact ⟨ha w hC, h _ _ hC hh⟩
theorem wpAnyIn_of_quiet_r {Q : Act → Prop} {Q' : Exit → Act → World → Prop} (hd : ∀ o ∈ ops, o.noDefer = true) (hQ : ∀ a w, C w → Q a → Q' .normal a w) : ∀ (fuel : Nat) (listed : Array Bool) (a : Act) (w : World), C w →
    wpAnyQIn F n P md ops C Q fuel listed a → wpAnyIn F n P md ops Q' fuel listed a w
  | 0, _, _, _, hw, h => ⟨h.1, hQ _ _ hw h.2⟩
  | fuel + 1, _, _, _, hw, h => ⟨fun h0 => hQ _ _ hw (h.1 h0), fun i hi => wpOpIn_of_qOpIn_r hd hw (fun a' w' hw' => wpAnyIn_of_quiet_r hd hQ fuel _ a' w' hw') (h.2 i hi)⟩
theorem wpIn_region_quiet_lit_r {id : Nat} {Q : Exit → Act → World → Prop} {a : Act} {w : World} {l : List Oper} (hd : l.all Oper.noDefer = true) (hm : P.follows .mixedOrders = true) (hB : Region.lexB .any l.toArray = true)
    (h : wpQuietIn F n P l.toArray (fun w' => ∃ n, w' = w.drewN n) (fun a' => ∀ w', (∃ n, w' = w.drewN n) → Q .normal a' w') l a) : (Code.region id l.toArray true).wpIn F n P Q a w := by
  simp only [Region.lexB, Bool.and_eq_true] at hB
  refine wpIn_region_any hm (wpAnyIn_of_quiet_r (C := fun w' => ∃ n, w' = w.drewN n) (Q := fun a' => ∀ w', (∃ n, w' = w.drewN n) → Q .normal a' w') (fun o ho => List.all_eq_true.1 hd o (by simpa using ho)) (fun _ w' hw' h => h w' hw') _ _ _ _ ⟨1, rfl⟩ ?_)
  have := wpAnyQIn_lex (F := F) (n := n) (C := fun w' => ∃ n, w' = w.drewN n) (md := .any) hB.1 l 0 (Array.replicate l.toArray.size false) a (by simp) (by simpa using hB.2) h
  simpa using this
end Go

namespace Go.Proofs.YthpldfjjdmjcoaaDoor.P
open Go.RowKit Go.Shelf Go.Proofs.YthpldfjjdmjcoaaDoorW.PrintWords Go.Proofs.YthpldfjjdmjcoaaDoorW.PrintLast Go.Proofs.YthpldfjjdmjcoaaDoorW.PrintMore
attribute [local go_sem] Oper.semAt_some
attribute [local go_sem] max2_int min2_int max_two min_two max_three min_three max_four min_four
theorem mask_total (i lo hi : Int) : bmask.f i lo hi = some (mkW i lo hi) := by
  unfold mkW
  suffices h : ∃ r, bmask.f i lo hi = some r by
    obtain ⟨r, h⟩ := h
    rw [h]; rfl
  unfold bmask.f
  rw [mx_eq, mn_eq]
  generalize wrap64 (lo - wrap64 (i * 64)) = a
  generalize wrap64 (hi - wrap64 (i * 64)) = b
  by_cases h : max a 0 ≥ min b 64
  · rw [if_pos h]; exact ⟨_, rfl⟩
  · rw [if_neg h, w64 (min b 64 - max a 0) (by omega) (by omega), w64 (64 - (min b 64 - max a 0)) (by omega) (by omega), if_pos (by omega)]
    exact ⟨_, rfl⟩
/-- A number of a row that is read. -/
theorem read_at' {w : World} {A : Option Addr} {xs : List Int} (h : Kd.C (Kd.int .u64) w A xs.length xs) {k : Nat} (hk : k < xs.length) : ∃ ad, A = some ad ∧ w.cell? (ad.add k) = some (.int .u64 (rd xs k)) := by
  obtain ⟨ad, e, h⟩ := h.2.2 (by omega)
  obtain ⟨cs, hl, hk', hcell⟩ := h k _ (List.getElem?_eq_getElem hk)
  have hcs : cs = [Value.int .u64 xs[k]] := hk'
  subst hcs
  have := hcell 0 _ rfl
  refine ⟨ad, e, ?_⟩
  simpa [rd, List.getD, hk, show (Kd.int .u64).sz = 1 from rfl] using this
/-- The elements of the first k words. -/
def upto (ws : List Int) (lo size : Int) (k : Nat) : List Int := (List.range k).flatMap (elemsW ws lo size)
theorem upto_succ (ws : List Int) (lo size : Int) (k : Nat) : upto ws lo size (k + 1) = upto ws lo size k ++ elemsW ws lo size k := by simp [upto, List.range_succ]
theorem upto_prefix (ws : List Int) (lo size : Int) (n : Nat) : ∀ k, k ≤ n → upto ws lo size k <+: upto ws lo size n := by
  induction n with
  | zero =>
    intro k hk
    have h0 : k = 0 := by omega
    subst h0
    exact List.prefix_refl _
  | succ n ih =>
    intro k hk
    rcases Nat.lt_or_ge k (n + 1) with h | h
    · rw [upto_succ]; exact (ih k (by omega)).trans (List.prefix_append _ _)
    · have h0 : k = n + 1 := by omega
      subst h0
      exact List.prefix_refl _
theorem cutW_lt (ws : List Int) (lo size : Int) (i : Nat) : cutW ws lo size i < 18446744073709551616 := by
  unfold cutW
  have : Go.bits .and .u64 (rd ws i) (mkW i lo size) = IntKind.u64.wrap ((BitVec.ofInt 64 (rd ws i) &&& BitVec.ofInt 64 (mkW i lo size)).toNat : Int) := rfl
  rw [this, IntKind.wrap_u64]
  omega
theorem cutW_cast (ws : List Int) (lo size : Int) (i : Nat) : Go.bits .and .u64 (rd ws i) (mkW i lo size) = ((cutW ws lo size i : Nat) : Int) := by
  unfold cutW
  have : Go.bits .and .u64 (rd ws i) (mkW i lo size) = IntKind.u64.wrap ((BitVec.ofInt 64 (rd ws i) &&& BitVec.ofInt 64 (mkW i lo size)).toNat : Int) := rfl
  rw [this, IntKind.wrap_u64]
  omega
set_option maxHeartbeats 4000000 in
set_option maxRecDepth 100000 in
theorem elems1_bad (n l : Nat) (B1 B2 : Nat) (size : Int) (A : Option Addr) (c : Nat) (ws : List Int) (W : World) (hb1 : W.heap[B1]? = some (.cells #[.int .i64 size, .slice A ws.length c] 24 (0, 0)))
    (hr : Kd.C (Kd.int .u64) W A ws.length ws) (hc : ws.length ≤ c) (hg : ¬ Good size ws) :
    CallsIn Fence.wide n Tryd.prog 57 #[.func (.yield l) #[] #[], .pointer (some ⟨B1, 0, none⟩), .pointer (some ⟨B2, 0, none⟩)] W fun e W' => (∃ v, e = .returned v) ∧ Below W.heap.size W W' := by
  have HR := Aside0.mk hr
  have HC := Aside0.mk hc
  have HE := Aside0.mk (good_no hg 0)
  obtain ⟨c10, c11, -, -⟩ := cells2 hb1
  clear hr hc hg hb1
  refine callsIn_of_wp Tryd.func57 rfl trivial ?_ rfl
  simp only [Tryd.ntmps57, List.size_toArray, List.length_cons, List.length_nil, Nat.reduceAdd, Nat.reduceSub, Array.replicate_succ, Array.replicate_zero, List.push_toArray, List.append_toArray, List.nil_append, List.cons_append]
  gi_wp2
  refine ⟨trivial, fun h => (by cases h), (callsIn_wide.2 (bCheck.calls 1 size _ c ws 3 W HR.out HC.out HE.out)).mono ?_⟩
  rintro e w1 ⟨rfl, hb⟩
  have HB := Aside0.mk hb
  clear hb
  gi_wp2
  refine bodyPost_ret (results_none rfl _ _ _) rfl ?_
  exact ⟨⟨_, rfl⟩, HB.out⟩
/-- What a round keeps that goes on: all that lay below n₀, and the two captured variables. -/
def KpE (n₀ B1 B2 : Nat) (X Y : World) : Prop := Below n₀ X Y ∧ Y.heap[B1]? = X.heap[B1]? ∧ Y.heap[B2]? = X.heap[B2]?
theorem KpE.trans {n₀ B1 B2 : Nat} {X Y Z : World} (h : KpE n₀ B1 B2 X Y) (k : KpE n₀ B1 B2 Y Z) : KpE n₀ B1 B2 X Z := ⟨h.1.trans k.1, k.2.1.trans h.2.1, k.2.2.trans h.2.2⟩
theorem KpE.putObj {n₀ B1 B2 : Nat} {w : World} (hn : n₀ ≤ w.heap.size) (h1 : B1 < w.heap.size) (h2 : B2 < w.heap.size) (W : World) (l : Nat) (o o' : Obj) (hl : w.heap.size ≤ l) (h : W.heap[l]? = some o) (hc : o.isCells = false) (hw : o.isWalk = false) : KpE n₀ B1 B2 W (W.putObj l o') :=
  ⟨belowK_b hn W l o o' hl h hc hw, World.putObj_heap_other (by omega), World.putObj_heap_other (by omega)⟩
/-- What the iterator leans on. -/
structure EI (W0 : World) (B1 B2 : Nat) (size lo : Int) (v : Value) (W : World) : Prop where
  below : Below W0.heap.size W0 W
  b1 : W.heap[B1]? = some (.cells #[.int .i64 size, v] 24 (0, 0))
  b2 : W.heap[B2]? = some (.cells #[.int .i64 lo] 3 (0, 0))
theorem EI.kp {W0 : World} {B1 B2 : Nat} {size lo : Int} {v : Value} {X Y : World} (h : EI W0 B1 B2 size lo v X) (k : KpE W0.heap.size B1 B2 X Y) : EI W0 B1 B2 size lo v Y := ⟨h.below.trans k.1, k.2.1.trans h.b1, k.2.2.trans h.b2⟩
theorem EI.step {W0 : World} {B1 B2 : Nat} {size lo : Int} {v : Value} {X Y : World} (h : EI W0 B1 B2 size lo v X) (k : Below X.heap.size X Y) : EI W0 B1 B2 size lo v Y := ⟨h.below.trans (k.mono h.below.size), blk_of_below h.b1 k, blk_of_below h.b2 k⟩
set_option maxHeartbeats 8000000 in
set_option maxRecDepth 100000 in
theorem elems1_ok (n l : Nat) (B1 B2 : Nat) (size lo : Int) (A : Option Addr) (c : Nat) (ws : List Int) (W0 W : World) (hBW : EI W0 B1 B2 size lo (.slice A ws.length c) W)
    (hr : Kd.C (Kd.int .u64) W0 A ws.length ws) (hc : ws.length ≤ c) (hG : TabOK W0) (hg : Good size ws) (J Jx : List Int → World → Prop) (hJ : AbidesFrom W.heap.size J)
    (hY : ∀ pre x W, J pre W → pre.length < (elems ws lo size).length → YieldAt Fence.wide (n - 1) Tryd.prog l #[.int .i64 x] W fun e W' =>
      (e = .returned (.bool true) ∧ J (pre ++ [x]) W' ∧ KpE W0.heap.size B1 B2 W W') ∨ (e = .returned (.bool false) ∧ Jx (pre ++ [x]) W')) (h0 : J [] W) :
    CallsIn Fence.wide n Tryd.prog 57 #[.func (.yield l) #[] #[], .pointer (some ⟨B1, 0, none⟩), .pointer (some ⟨B2, 0, none⟩)] W fun e W' => (∃ v, e = .returned v) ∧
      (J (elems ws lo size) W' ∨ ∃ pre, pre <+: elems ws lo size ∧ Jx pre W') := by
  have HR := Aside0.mk hr
  have HC := Aside0.mk hc
  have HE := Aside0.mk (good_yes hg 0)
  have HGD := Aside0.mk hg
  have HL := Aside0.mk hg.len_le
  have HBW := Aside0.mk hBW
  have HJ := Aside0.mk hJ
  have HY := Aside0.mk hY
  have H0 := Aside0.mk h0
  have hlen : ws.length ≤ 64 := hg.len_le
  obtain ⟨c10, c11, -, -⟩ := cells2 hBW.b1
  clear hr hc hg hBW hJ hY h0
  refine callsIn_of_wp Tryd.func57 rfl trivial ?_ rfl
  simp only [Tryd.ntmps57, List.size_toArray, List.length_cons, List.length_nil, Nat.reduceAdd, Nat.reduceSub, Array.replicate_succ, Array.replicate_zero, List.push_toArray, List.append_toArray, List.nil_append, List.cons_append]
  gi_wp2
  refine ⟨trivial, fun h => (by cases h), (callsIn_wide.2 (bCheck.calls 1 size _ c ws 0 W (Kd.C_below HR.out HBW.out.below) HC.out HE.out)).mono ?_⟩
  rintro e w1 ⟨rfl, hb⟩
  have H1 : Aside0 (J [] w1) := ⟨HJ.out [] W w1 none H0.out (grown_of_below hb none) (fun r e => by cases e)⟩
  have HB := Aside0.mk (HBW.out.step hb)
  clear hb c10 c11
  obtain ⟨c10, c11, -, -⟩ := cells2 HB.out.b1
  gi_wp2
  gi_loopw [12] (fun i wr => ∃ k : Nat, k ≤ ws.length ∧ i = .int .i64 k ∧ J (upto ws lo size k) wr ∧ EI W0 B1 B2 size lo (.slice A ws.length c) wr)
    (fun i _ => ws.length - (intOf i).toNat)
  case atStart => exact ⟨0, Nat.zero_le _, rfl, H1.out, HB.out⟩
  case round =>
    obtain ⟨k, hk, rfl, hJs, hnx⟩ := hrel
    have HJs := Aside0.mk hJs
    have HNX := Aside0.mk hnx
    clear hJs hnx
    by_cases hlt : k < ws.length
    · obtain ⟨c20, c21, -, -⟩ := cells2 HNX.out.b1
      have c30 : wr.cell? ⟨B2, 0, none⟩ = some (.int .i64 lo) := (blk_cell HNX.out.b2 0).trans rfl
      obtain ⟨ad, hA, hxk⟩ := read_at' (Kd.C_below HR.out HNX.out.below) hlt
      subst hA
      obtain ⟨x, hx⟩ : ∃ x, x = rd ws k := ⟨_, rfl⟩
      rw [← hx] at hxk
      have HX := Aside0.mk hx
      clear hx
      gi_wp2
      refine ⟨trivial, fun h => (by cases h), (callsIn_wide.2 (bmask.same k lo size _ wr (mask_total k lo size))).mono ?_⟩
      rintro e w' ⟨rfl, rfl⟩
      gi_wp2
      rw [show Go.bits .and .u64 x (mkW k lo size) = ((cutW ws lo size k : Nat) : Int) from by rw [HX.out]; exact cutW_cast ws lo size k]
      have HWO := Aside0.mk (show ∃ wo : World, wo = w' from ⟨_, rfl⟩)
      obtain ⟨wo, hwo⟩ := HWO.out
      rw [← hwo] at HJs HNX ⊢
      clear HWO c20 c21 c30 hxk hwo
      gi_loopw [5] (fun v wi => ∃ (m : Nat) (done : List Int), m < 18446744073709551616 ∧ v = .int .u64 m ∧ Aside0 (elemsW ws lo size k = done ++ (bitsOf m).map fun (b : Nat) => ((k * 64 + b : Nat) : Int)) ∧ Aside0 (J (upto ws lo size k ++ done) wi) ∧ Aside0 (EI W0 B1 B2 size lo (.slice (some ad) ws.length c) wi))
        (fun v _ => (intOf v).toNat)
      case atStart => exact ⟨cutW ws lo size k, [], cutW_lt ws lo size k, rfl, ⟨rfl⟩, ⟨by rw [List.append_nil]; exact HJs.out⟩, HNX⟩
      case round =>
        obtain ⟨m, done, hm, rfl, HD, HJ2, HN2⟩ := hrel
        by_cases hm0 : m = 0
        · subst hm0
          gi_wp2
          refine ⟨⟨k + 1, by omega, by go_num, ?_, HN2.out⟩, by simp [intOf]; omega⟩
          have e := HD.out
          rw [bitsOf_zero, List.map_nil, List.append_nil] at e
          rw [upto_succ, e]
          exact HJ2.out
        · have hq : ((m : Int) != 0) = true := by simpa using hm0
          obtain ⟨hb1, hb2, hb3⟩ := bitsOf_step m hm0 hm
          have HBS := Aside0.mk hb1
          have HD2 : Aside0 (elemsW ws lo size k = done ++ ((k : Int) * 64 + ((Lib.ctz 64 m : Nat) : Int)) :: (bitsOf (m &&& (m - 1))).map fun (b : Nat) => ((k * 64 + b : Nat) : Int)) := ⟨by rw [HD.out, HBS.out, List.map_cons]; congr 2⟩
          have HPRE : Aside0 (upto ws lo size k ++ done ++ [(k : Int) * 64 + ((Lib.ctz 64 m : Nat) : Int)] <+: elems ws lo size) := ⟨by
            refine List.IsPrefix.trans ?_ (upto_prefix ws lo size ws.length (k + 1) (by omega))
            rw [upto_succ, HD2.out]
            exact ⟨(bitsOf (m &&& (m - 1))).map fun (b : Nat) => ((k * 64 + b : Nat) : Int), by simp⟩⟩
          obtain ⟨fn, tmps, assign, body, hy, hR⟩ := HY.out _ ((k : Int) * 64 + ((Lib.ctz 64 m : Nat) : Int)) wr HJ2.out (by have := HPRE.out.length_le; simp at this ⊢; omega)
          have HRR := Aside0.mk hR
          have HM := Aside0.mk (And.intro hm0 hm)
          clear hb1 hR hm0
          gi_wp2
          refine ⟨trivial, fun h => (by cases h), (callsIn_wide.2 (tz_any m HM.out.1 HM.out.2 wr (hG.below HN2.out.below))).mono ?_⟩
          rintro e w2 ⟨rfl, rfl⟩
          gi_wp2
          refine ⟨fun h => (by cases h), HRR.out.mono ?_⟩
          rintro e W3 (⟨rfl, hJ3, hk3⟩ | ⟨rfl, hJx3⟩)
          · have HJ3 := Aside0.mk hJ3
            have HN3 := Aside0.mk (HN2.out.kp hk3)
            have HLT := Aside0.mk hb2
            have hm1 : 1 ≤ m := by have := HM.out.1; omega
            have hm2 : m < 18446744073709551616 := HM.out.2
            clear hJ3 hk3 hy hb2
            gi_wp2
            have hbe : Go.bits .and .u64 (m : Int) ((m : Int) - 1) = ((m &&& (m - 1) : Nat) : Int) := by
              rw [show (m : Int) - 1 = ((m - 1 : Nat) : Int) from by omega]
              exact bits_and_u64_nat m (m - 1) hm2 (by omega)
            rw [hbe]
            refine ⟨⟨m &&& (m - 1), done ++ [(k : Int) * 64 + ((Lib.ctz 64 m : Nat) : Int)], Nat.lt_trans HLT.out hm2, rfl, ⟨by rw [HD2.out]; simp⟩, ⟨by rw [← List.append_assoc]; exact HJ3.out⟩, HN3⟩, ?_⟩
            have := HLT.out
            simp [intOf]; omega
          · have HJ3 := Aside0.mk hJx3
            clear hJx3 hy
            gi_wp2
            refine bodyPost_ret (results_none rfl _ _ _) rfl ?_
            exact ⟨⟨_, rfl⟩, .inr ⟨_, HPRE.out, HJ3.out⟩⟩
    · obtain rfl : k = ws.length := by omega
      gi_wp2
      go_end0
      exact ⟨⟨_, rfl⟩, .inl HJs.out⟩
/-- The function literal of 'elements' yields the elements, in ascending order, till it is told to stop. -/
theorem elems_stops (n : Nat) (B1 B2 : Nat) (size lo : Int) (A : Option Addr) (c : Nat) (ws : List Int) (W0 W1 : World) (hE : EI W0 B1 B2 size lo (.slice A ws.length c) W1)
    (hr : Kd.C (Kd.int .u64) W0 A ws.length ws) (hc : ws.length ≤ c) (hG : TabOK W0) :
    SeqStopsK Fence.wide n Tryd.prog 57 #[.pointer (some ⟨B1, 0, none⟩), .pointer (some ⟨B2, 0, none⟩)] (fun x : Int => #[Value.int .i64 x]) (KpE W0.heap.size B1 B2) (fun ys => ys = bElems size ws lo) (fun pre => pre <+: bElems size ws lo) (bElems size ws lo).length W1 := fun l J Jx W hW hJ _ hY h0 => by
  by_cases hg : Good size ws
  · have e : bElems size ws lo = elems ws lo size := by unfold bElems; rw [if_pos ((good_iff _ _).2 hg)]
    rw [e] at hY ⊢
    refine (elems1_ok n l B1 B2 size lo A c ws W0 W (hE.step hW) hr hc hG hg J Jx hJ hY h0).mono ?_
    rintro e W' ⟨he, h | h⟩
    · exact ⟨he, .inl ⟨_, rfl, h⟩⟩
    · exact ⟨he, .inr h⟩
  · have e : bElems size ws lo = [] := by unfold bElems; rw [if_neg (fun h => hg ((good_iff _ _).1 h))]
    rw [e]
    refine (elems1_bad n l B1 B2 size A c ws W (hE.step hW).b1 (Kd.C_below hr (hE.step hW).below) hc hg).mono ?_
    rintro e W' ⟨he, hb⟩
    exact ⟨he, .inl ⟨_, rfl, hJ [] W W' none h0 (grown_of_below hb none) (fun r e => by cases e)⟩⟩
set_option maxHeartbeats 2000000 in
theorem elements_any (n : Nat) (size lo : Int) (v : Value) (w : World) :
    CallsIn Fence.wide n Tryd.prog 46 #[.agg #[.int .i64 size, v], .int .i64 lo] w fun e w' => e = .returned (.func (.func 57) #[] #[.pointer (some ⟨w.heap.size, 0, none⟩), .pointer (some ⟨w.heap.size + 1, 0, none⟩)]) ∧ w' = (w.alloc (.cells #[.int .i64 size, v] 24)).alloc (.cells #[.int .i64 lo] 3) := by
  refine callsIn_of_wp Tryd.func46 rfl trivial ?_ rfl
  simp only [Tryd.ntmps46, List.size_toArray, List.length_cons, List.length_nil, Nat.reduceAdd, Nat.reduceSub, Array.replicate_succ, Array.replicate_zero, List.push_toArray, List.append_toArray, List.nil_append, List.cons_append]
  gi_wp2
  go_ret
  exact ⟨rfl, rfl⟩
set_option maxHeartbeats 4000000 in
set_option maxRecDepth 100000 in
theorem next_any (size : Int) (A : Option Addr) (c : Nat) (ws : List Int) (a lo : Int) (w : World) (hG : TabOK w) (hr : Kd.C (Kd.int .u64) w A ws.length ws) (hc : ws.length ≤ c) (hmax : (if a < 0 then (0 : Int) else a) = lo) :
    Calls Tryd.prog 26 #[.agg #[.int .i64 size, .slice A ws.length c], .int .i64 a] w fun e w' => e = .returned (.int .i64 ((bElems size ws lo).head?.getD (-1))) ∧ Below w.heap.size w w' := by
  refine (callsIn_wide (n := 5)).1 ?_
  have HR := Aside0.mk hr
  have HC := Aside0.mk hc
  clear hr hc
  refine callsIn_of_wp_marks Tryd.func26 rfl trivial ?_ rfl
  simp only [Tryd.ntmps26, List.size_toArray, List.length_cons, List.length_nil, Nat.reduceAdd, Nat.reduceSub, Array.replicate_succ, Array.replicate_zero, List.push_toArray, List.append_toArray, List.nil_append, List.cons_append]
  gi_wp2
  refine ⟨trivial, (elements_any _ _ _ _ _).mono ?_⟩
  rintro e w' ⟨rfl, rfl⟩
  gi_wp2
  obtain ⟨W0, hW0, hB, hS, -, h1, h2, h3⟩ := new4 w (Obj.cells #[Value.int IntKind.i64 size, Value.slice A ws.length c] 24) (Obj.cells #[Value.int IntKind.i64 0] 3) (Obj.cells #[Value.int IntKind.i64 size, Value.slice A ws.length c] 24) (Obj.cells #[Value.int IntKind.i64 lo] 3)
  rw [hW0]
  go_outline
  have hc1 : W0.cell? ⟨w.heap.size + 1, 0, none⟩ = some (.int .i64 0) := (blk_cell h1 0).trans rfl
  have hf1 : W0.frozen? ⟨w.heap.size + 1, 0, none⟩ = false := blk_frozen h1 0
  refine wpIn_rangeFunc_ownF rfl (by omega) (gf := 57) (lb := #[.pointer (some ⟨w.heap.size + 1 + 1, 0, none⟩), .pointer (some ⟨w.heap.size + 1 + 1 + 1, 0, none⟩)]) rfl trivial (enters_of Tryd.func57 (by kernel_rfl) rfl)
    (elems_stops _ _ _ size lo A c ws w W0 ⟨hB, h2, h3⟩ HR.out HC.out hG) KpE.trans (KpE.putObj hB.size (by omega) (by omega)) (Below.refl _ _) (fun _ => rfl)
    (fun pre W => (pre = [] ∧ W.cell? ⟨w.heap.size + 1, 0, none⟩ = some (.int .i64 0) ∧ W.frozen? ⟨w.heap.size + 1, 0, none⟩ = false) ∧ Below w.heap.size w W)
    (fun c pre W => (c = .ret ∧ ∃ x, pre = [x] ∧ W.cell? ⟨w.heap.size + 1, 0, none⟩ = some (.int .i64 x)) ∧ Below w.heap.size w W)
    (OwnFrom.and (Own.from (fun s A B row hs hg hr => ⟨hs.1, cell_kept hs.2.1 hg hr, (frozen_kept hs.2.1 hg hr).trans hs.2.2⟩) _) (ownFrom_below (Nat.le_refl _) hB.size))
    (fun c => OwnFrom.and (Own.from (fun s A B row hs hg hr => by obtain ⟨h, x, e, hx⟩ := hs; exact ⟨h, x, e, cell_kept hx hg hr⟩) _) (ownFrom_below (Nat.le_refl _) hB.size))
    ⟨⟨rfl, hc1, hf1⟩, hB⟩
    (fun x => { tmps := #[.agg #[.int .i64 size, .slice A ws.length c], .int .i64 a, .pointer (some ⟨w.heap.size, 0, none⟩), undef, .pointer (some ⟨w.heap.size + 1, 0, none⟩), .int .i64 x, .agg #[.int .i64 size, .slice A ws.length c], .int .i64 a, .int .i64 lo, .func (.func 57) #[] #[.pointer (some ⟨w.heap.size + 1 + 1, 0, none⟩), .pointer (some ⟨w.heap.size + 1 + 1 + 1, 0, none⟩)], .int .i64 x, undef], defers := [] }) ?assign ?body ?done ?stop
  case assign =>
    intro l x W K hK
    gi_wp2
    exact hK
  case body =>
    rintro l pre x W ⟨⟨rfl, hcr, hfr⟩, hB2⟩ _
    gi_wp2
    exact ⟨KeepsOthers.setCell _ _ _, ⟨rfl, x, rfl, World.cell?_setCell_same' _ _ _ (by rw [hcr]; rfl)⟩, hB2.setCell (p := ⟨w.heap.size + 1, 0, none⟩) (by simp) _⟩
  case done =>
    rintro D ys W hD hys ⟨⟨hnil, hcr, hfr⟩, hB2⟩ hK
    have HE := Aside0.mk (hys.symm.trans hnil)
    clear hys hnil
    gi_wp2
    have hK' := (KeepsOthers.setCell W ⟨w.heap.size + 1, 0, none⟩ (.int .i64 (-1))).same D _ hK rfl
    refine ⟨by simp, .inl ⟨_, _, rfl, run_takeDeferred hK', ?_⟩⟩
    have hc5 := cell_kept (World.cell?_setCell_same' W ⟨w.heap.size + 1, 0, none⟩ (.int .i64 (-1)) (by rw [hcr]; rfl)) (grownBy_putObj' _ D (.deferred none)) (fun r e => by cases e; exact ⟨_, hK', rfl⟩)
    refine ⟨.int .i64 (-1), ?_, by rw [HE.out]; rfl, (hB2.setCell (p := ⟨w.heap.size + 1, 0, none⟩) (by simp) _).trans (belowK_b (w := w) (Nat.le_refl _) _ D _ _ (by have := hB.size; omega) hK' rfl rfl)⟩
    simp [results, Tryd.f26, go_sem, hc5]
  case stop =>
    rintro D c pre W hD hpre ⟨⟨rfl, x, rfl, hcr⟩, hB2⟩ hK
    gi_wp2
    refine ⟨by simp, .inl ⟨_, _, rfl, run_takeDeferred hK, ?_⟩⟩
    have hc5 := cell_kept hcr (grownBy_putObj' _ D (.deferred none)) (fun r e => by cases e; exact ⟨_, hK, rfl⟩)
    refine ⟨.int .i64 x, ?_, ?_, hB2.trans (belowK_b (w := w) (Nat.le_refl _) W D _ _ (by have := hB.size; omega) hK rfl rfl)⟩
    · simp [results, Tryd.f26, go_sem, hc5]
    · obtain ⟨r, hr⟩ := hpre
      rw [← hr]; rfl
/-- The cells of a list of extents. -/
def flat (l : List S26) : List Value := l.flatMap fun e => [.int .i64 e.f0, .int .i64 e.f1]
theorem flat_append (l m : List S26) : flat (l ++ m) = flat l ++ flat m := by simp [flat]
theorem flat_length (l : List S26) : (flat l).length = l.length * 2 := by induction l with | nil => rfl | cons a l ih => simp [flat] at ih ⊢; omega
theorem info26' : (Tryd.prog.info? 26).map (fun i => (i.zero, i.size, i.bytes)) = some (some (.agg #[.int .i64 0, .int .i64 0]), 2, 16) := by kernel_rfl
theorem joinE_length (xs : List Int) : (xs.foldl joinE []).length ≤ xs.length := by
  suffices h : ∀ (l : List S26), (xs.foldl joinE l).length ≤ l.length + xs.length by simpa using h []
  induction xs with
  | nil => intro l; simp
  | cons x xs ih =>
    intro l
    rw [List.foldl_cons]
    refine Nat.le_trans (ih _) ?_
    have : (joinE l x).length ≤ l.length + 1 := by
      unfold joinE
      split
      · rename_i e he
        have hl : l ≠ [] := by rintro rfl; simp at he
        have := List.length_pos_iff.2 hl
        split <;> simp
        all_goals omega
      · simp
    simp only [List.length_cons]
    omega
theorem cells_two_new (W : World) (a b : Value) (t : TypeId) : ∀ j u, ([a, b] : List Value)[j]? = some u → (W.alloc (.cells #[a, b] t)).cell? ((⟨W.heap.size, 0, none⟩ : Addr).add j) = some u := by
  intro j u hj
  rw [add_plain]
  have h := blk_cell (heap_alloc_new W (.cells #[a, b] t)) j
  rw [h]
  simpa using hj
theorem ownFrom_EI {α : Type} {w : World} {B B1 B2 : Nat} {size lo : Int} {v : Value} (hn : w.heap.size ≤ B) (h1 : B1 < B) (h2 : B2 < B) : OwnFrom (β := α) B (fun _ W => EI w B1 B2 size lo v W) := by
  intro s X Y row hs hg hr
  have hne : ∀ k, k < B → some k ≠ row := fun k hk e => by have := (hr k e.symm).1; omega
  refine ⟨hs.below.grown hg hs.below.size (fun k e => by have := (hr k e).1; omega), ?_, ?_⟩
  · exact (hg.block B1 (Array.getElem?_eq_some_iff.1 hs.b1).1 (hne _ h1)).trans hs.b1
  · exact (hg.block B2 (Array.getElem?_eq_some_iff.1 hs.b2).1 (hne _ h2)).trans hs.b2
theorem row_ne {W : World} {B : Nat} {t e : TypeId} {cs : Array Value} (h : W.heap[B]? = some (.cells cs t (0, 0))) (hte : t ≠ e) {base size k : Nat} {v : Value} {xs : List Value} (hr : W.ownsRow base e size v k xs) : some B ≠ v.ownBlock := by
  rcases hr.2 with ⟨rfl, _⟩ | ⟨g, cap, cur, rfl, _, hgb, _⟩
  · simp [Value.ownBlock]
  · intro e'
    obtain rfl : B = g := by simpa [Value.ownBlock] using e'
    have := h.symm.trans hgb
    simp at this
    exact hte this.2
/-- Behind an append to a row of the call's own, and the store of what it hands back. -/
theorem EI.app {w : World} {B1 B2 : Nat} {size lo : Int} {v : Value} {W w1 : World} (h : EI w B1 B2 size lo v W) {tmp : Obj} {base k sz : Nat} {u : Value} {xs : List Value} (hr : W.ownsRow base 26 sz u k xs) (hg : (W.alloc tmp).grownBy w1 u.ownBlock) {B : Nat} (v' : Value) (hB : w.heap.size ≤ B) (hb : w.heap.size ≤ base) (h1 : B1 ≠ B) (h2 : B2 ≠ B) : EI w B1 B2 size lo v (w1.setCell ⟨B, 0, none⟩ v') := by
  have l1 := (Array.getElem?_eq_some_iff.1 h.b1).1
  have l2 := (Array.getElem?_eq_some_iff.1 h.b2).1
  refine ⟨?_, ?_, ?_⟩
  · refine ((below_alloc h.below tmp).grown hg (by simp; have := h.below.size; omega) (fun k e => ?_)).setCell (p := ⟨B, 0, none⟩) hB _
    have := own_base hr k e
    omega
  · rw [Below.heap_setCell _ _ _ _ h1, hg.block B1 (by simp; omega) (row_ne h.b1 (by decide) hr), Below.heap_alloc _ _ _ l1]; exact h.b1
  · rw [Below.heap_setCell _ _ _ _ h2, hg.block B2 (by simp; omega) (row_ne h.b2 (by decide) hr), Below.heap_alloc _ _ _ l2]; exact h.b2
end Go.Proofs.YthpldfjjdmjcoaaDoor.P

namespace Go.Proofs.YthpldfjjdmjcoaaDoor.P
open Go.RowKit Go.Shelf Go.Proofs.YthpldfjjdmjcoaaDoorW.PrintWords Go.Proofs.YthpldfjjdmjcoaaDoorW.PrintLast Go.Proofs.YthpldfjjdmjcoaaDoorW.PrintMore
attribute [local go_sem] Oper.semAt_some
attribute [local go_sem] max2_int min2_int max_two min_two max_three min_three max_four min_four
theorem row_cell {W : World} {base : Nat} {e : TypeId} {size : Nat} {g n cap k : Nat} {xs : List Value} (h : W.ownsRow base e size (.slice (some ⟨g, 0, none⟩) n cap) k xs) {j : Nat} {u : Value} (hx : xs[j]? = some u) :
    W.cell? ⟨g, j, none⟩ = some u ∧ W.frozen? ⟨g, j, none⟩ = false := by
  have := h.cells (g := g) rfl j u hx
  rw [add_plain] at this
  refine ⟨this, ?_⟩
  rcases h.2 with ⟨h1, _⟩ | ⟨g', cap', cur, h1, _, hg, _⟩
  · cases h1
  · injection h1 with h1 _ _
    injection h1 with h1
    injection h1 with h1 _ _
    subst h1
    simp [World.frozen?, hg]
theorem row_set {W : World} {base : Nat} {e : TypeId} {size : Nat} {g n cap k : Nat} {xs : List Value} (h : W.ownsRow base e size (.slice (some ⟨g, 0, none⟩) n cap) k xs) {j : Nat} (_hj : j < xs.length) (u : Value) :
    (W.setCell ⟨g, j, none⟩ u).ownsRow base e size (.slice (some ⟨g, 0, none⟩) n cap) k (xs.set j u) := by
  refine ⟨by simpa using h.1, ?_⟩
  rcases h.2 with ⟨h1, _⟩ | ⟨g', cap', cur, h1, hb, hg, hle, hm, hs, ht⟩
  · cases h1
  · injection h1 with h1 h2 h3
    injection h1 with h1
    injection h1 with h1 _ _
    subst h1 h2 h3
    refine .inr ⟨g, cap, cur.set! j u, rfl, hb, ?_, hle, hm, by simp [hs], ?_⟩
    · have hl := (Array.getElem?_eq_some_iff.1 hg).1
      unfold World.setCell
      have hget := (Array.getElem?_eq_some_iff.1 hg).2
      simp only [Array.getElem?_modify, if_pos trivial]
      rw [hg]
      simp
    · simp only [Array.set!_eq_setIfInBounds, Array.toList_setIfInBounds]
      rw [List.take_set, ht]
set_option maxHeartbeats 4000000 in
set_option maxRecDepth 100000 in
theorem extents_any (size : Int) (A : Option Addr) (c : Nat) (ws : List Int) (w : World) (hG : TabOK w) (hr : Kd.C (Kd.int .u64) w A ws.length ws) (hc : ws.length ≤ c) (hN : (bElems size ws 0).length ≤ 5000) :
    Calls Tryd.prog 31 #[.agg #[.int .i64 size, .slice A ws.length c]] w fun e w' => ∃ v, e = .returned v ∧ w'.ownsRow w.heap.size 26 2 v ((bElems size ws 0).foldl joinE []).length (flat ((bElems size ws 0).foldl joinE [])) ∧ Below w.heap.size w w' := by
  refine (callsIn_wide (n := 5)).1 ?_
  have HR := Aside0.mk hr
  have HC := Aside0.mk hc
  clear hr hc
  refine callsIn_of_wp_marks Tryd.func31 rfl trivial ?_ rfl
  simp only [Tryd.ntmps31, List.size_toArray, List.length_cons, List.length_nil, Nat.reduceAdd, Nat.reduceSub, Array.replicate_succ, Array.replicate_zero, List.push_toArray, List.append_toArray, List.nil_append, List.cons_append]
  gi_wp2
  refine ⟨trivial, (elements_any _ _ _ _ _).mono ?_⟩
  rintro e w' ⟨rfl, rfl⟩
  gi_wp2
  obtain ⟨W0, hW0, hB, hS, -, h1, h2, h3⟩ := new4 w (Obj.cells #[Value.int IntKind.i64 size, Value.slice A ws.length c] 24) (Obj.cells #[Value.slice none 0 0] 44) (Obj.cells #[Value.int IntKind.i64 size, Value.slice A ws.length c] 24) (Obj.cells #[Value.int IntKind.i64 0] 3)
  rw [hW0]
  go_outline
  refine wpIn_rangeFunc_ownF rfl (by omega) (gf := 57) (lb := #[.pointer (some ⟨w.heap.size + 1 + 1, 0, none⟩), .pointer (some ⟨w.heap.size + 1 + 1 + 1, 0, none⟩)]) rfl trivial (enters_of Tryd.func57 (by kernel_rfl) rfl)
    (elems_stops _ _ _ size 0 A c ws w W0 ⟨hB, h2, h3⟩ HR.out HC.out hG) KpE.trans (KpE.putObj hB.size (by omega) (by omega)) (Below.refl _ _) (fun _ => rfl)
    (fun (pre : List Int) W => (∃ v, Boxed W (w.heap.size + 1) 44 v ∧ W.ownsRow w.heap.size 26 2 v (pre.foldl joinE []).length (flat (pre.foldl joinE [])) ∧ True) ∧ EI w (w.heap.size + 1 + 1) (w.heap.size + 1 + 1 + 1) size 0 (.slice A ws.length c) W)
    (fun _ _ _ => False)
    (OwnFrom.and (Own.from (holdsRow_own w.heap.size (w.heap.size + 1) 44 26 2 (fun (pre : List Int) => (pre.foldl joinE []).length) (fun (pre : List Int) => flat (pre.foldl joinE [])) (fun _ _ => True)) _) (ownFrom_EI hB.size (by omega) (by omega)))
    (fun _ _ _ _ _ h _ _ => h)
    ⟨⟨.slice none 0 0, h1, own_nil _ _ _ _, trivial⟩, ⟨hB, h2, h3⟩⟩
    (fun x => { tmps := #[.agg #[.int .i64 size, .slice A ws.length c], .pointer (some ⟨w.heap.size, 0, none⟩), .slice none 0 0, .pointer (some ⟨w.heap.size + 1, 0, none⟩), .int .i64 x, undef, .agg #[.int .i64 size, .slice A ws.length c], .func (.func 57) #[] #[.pointer (some ⟨w.heap.size + 1 + 1, 0, none⟩), .pointer (some ⟨w.heap.size + 1 + 1 + 1, 0, none⟩)], .int .i64 x, undef, undef, undef, undef, undef, undef, undef, undef, undef, undef, undef, undef, undef, undef, undef, undef, undef, undef, undef, undef, undef, undef, undef, undef, undef, undef, undef, undef, undef, undef, undef, undef, undef, undef, undef, undef], defers := [] }) ?assign ?body ?done ?stop
  case assign =>
    intro l x W K hK
    gi_wp2
    exact hK
  case body =>
    rintro l pre x W ⟨⟨v, hv, hrow, -⟩, hB2⟩ hlen
    have hmx : Tryd.prog.follows .mixedOrders = true := by kernel_rfl
    have hd : 1 ≤ 5 - 1 - 1 := by omega
    obtain ⟨i0, hi, hz0, hz1, hz2⟩ := info_parts info26'
    have hle : w.heap.size ≤ w.heap.size + 1 := by omega
    have HBX := Aside0.mk hv
    have hcv := hv.cell
    have hfv := hv.frozen
    have HJL := Aside0.mk (List.foldl_append (f := joinE) (b := []) (l := pre) (l' := [x]))
    have hjl := joinE_length pre
    have hlp : (pre.foldl joinE []).length < 5000 := by omega
    generalize pre.foldl joinE [] = L at hrow HJL hjl hlp
    have HROW := Aside0.mk hrow
    have HB2 := Aside0.mk hB2
    clear hrow hv hB2 hlen hjl
    rcases L.eq_nil_or_concat with h0 | ⟨L', e, h0⟩
    · subst h0
      obtain ⟨A2, c2, hvv⟩ := own_slice HROW.out
      subst hvv
      gi_wp2
      refine wpIn_region_quiet_lit_r (by rfl) hmx (by kernel_rfl) ?_
      repeat (gi_big_quiet_step (fail))
      refine wpQuietIn_nil ?_
      intro _ hw'
      obtain ⟨nq, hw''⟩ := hw'
      subst hw''
      obtain ⟨Wq, hWq⟩ : ∃ Wq, Wq = W.drewN nq := ⟨_, rfl⟩
      have HQ : Aside0 (Below w.heap.size W Wq ∧ KeepsOthers W Wq) := ⟨by rw [hWq]; exact ⟨pw_below_drewN (Below.refl _ _) nq, ⟨Nat.le_refl _, fun _ _ h _ => h⟩⟩⟩
      have HROWQ : Aside0 (Wq.ownsRow w.heap.size 26 2 (.slice A2 0 c2) 0 (flat [])) := ⟨by rw [hWq]; exact HROW.out⟩
      have HBXQ : Aside0 (Boxed Wq (w.heap.size + 1) 44 (.slice A2 0 c2)) := ⟨by rw [hWq]; exact HBX.out⟩
      have hBq : EI w (w.heap.size + 1 + 1) (w.heap.size + 1 + 1 + 1) size 0 (.slice A ws.length c) Wq := by rw [hWq]; exact ⟨pw_below_drewN HB2.out.below nq, HB2.out.b1, HB2.out.b2⟩
      rw [← hWq]
      have hcv := HBXQ.out.cell
      have hfv := HBXQ.out.frozen
      clear hWq
      gi_wp2_with (gi_at_builtin; refine wpListIn_append_own _ rfl _ _ 44 rfl w.heap.size 26 i0 (.agg #[.int .i64 0, .int .i64 0]) 2 16 Tryd.underlying44 hi hz0 hz1 hz2 rfl (by decide) _ _ _ rfl (HROWQ.out.alloc _) ⟨Wq.heap.size, 0, none⟩ 1 1 [.int .i64 x, .int .i64 1] rfl rfl (cells_two_new _ _ _ _) (by simp [Value.oneCell']) (by unfold maxLen; omega) (by omega) (by have := hBq.below.size; simp; omega) ?_; intro v' w1 hown' hgrow _; obtain ⟨g', cap', rfl⟩ := ownsRow_succ hown'; obtain ⟨hv1, hv2, hr2, hk2, hb2⟩ := HBXQ.out.appended (by decide) HROWQ.out hBq.below.size hle hown' hgrow; have hc1 := hv1.cell; have hf1 := hv1.frozen; have HV2 := Aside0.mk hv2; have HE2 := Aside0.mk (hBq.app (B := w.heap.size + 1) HROWQ.out hgrow (.slice (some ⟨g', 0, none⟩) (0 + 1) cap') (by omega) (Nat.le_refl _) (by omega) (by omega)); have HR2 := Aside0.mk hr2; have HK2 := Aside0.mk hk2; have HB2' := Aside0.mk hb2; clear hv1 hv2 hr2 hk2 hb2 hown' hgrow)
      refine ⟨HQ.out.2.trans HK2.out, ⟨HQ.out.1.trans HB2'.out, HE2.out.b1.trans HB2.out.b1.symm, HE2.out.b2.trans HB2.out.b2.symm⟩, ⟨_, HV2.out, ?_, trivial⟩, HE2.out⟩
      rw [HJL.out]
      exact HR2.out
    · have HROW' : Aside0 (W.ownsRow w.heap.size 26 2 v (L'.length + 1) (flat L' ++ [.int .i64 e.f0, .int .i64 e.f1])) := ⟨by have := HROW.out; rw [h0] at this; simpa [flat] using this⟩
      clear HROW
      obtain ⟨g, cap, hvv⟩ := ownsRow_succ HROW'.out
      subst hvv
      have hlp' : L'.length < 5000 := by rw [h0] at hlp; simp at hlp; omega
      have hfl := flat_length L'
      obtain ⟨hca0, hfa0⟩ := row_cell HROW'.out (j := L'.length * 2) (u := .int .i64 e.f0) (by rw [List.getElem?_append_right (by omega)]; simp [hfl])
      obtain ⟨hca1, hfa1⟩ := row_cell HROW'.out (j := L'.length * 2 + 1) (u := .int .i64 e.f1) (by rw [List.getElem?_append_right (by omega)]; simp [hfl])
      by_cases hj : wrap64 (e.f0 + e.f1) = x
      · gi_wp2
        refine wpIn_region_quiet_lit_r (by rfl) hmx (by kernel_rfl) ?_
        repeat (gi_big_quiet_step (fail))
        refine wpQuietIn_nil ?_
        intro _ hw'
        obtain ⟨nq, hw''⟩ := hw'
        subst hw''
        obtain ⟨Wq, hWq⟩ : ∃ Wq, Wq = W.drewN nq := ⟨_, rfl⟩
        have HQ : Aside0 (Below w.heap.size W Wq ∧ KeepsOthers W Wq) := ⟨by rw [hWq]; exact ⟨pw_below_drewN (Below.refl _ _) nq, ⟨Nat.le_refl _, fun _ _ h _ => h⟩⟩⟩
        have HROWQ : Aside0 (Wq.ownsRow w.heap.size 26 2 (.slice (some ⟨g, 0, none⟩) (L'.length + 1) cap) (L'.length + 1) (flat L' ++ [.int .i64 e.f0, .int .i64 e.f1])) := ⟨by rw [hWq]; exact HROW'.out⟩
        have HBXQ : Aside0 (Boxed Wq (w.heap.size + 1) 44 (.slice (some ⟨g, 0, none⟩) (L'.length + 1) cap)) := ⟨by rw [hWq]; exact HBX.out⟩
        have hBq : EI w (w.heap.size + 1 + 1) (w.heap.size + 1 + 1 + 1) size 0 (.slice A ws.length c) Wq := by rw [hWq]; exact ⟨pw_below_drewN HB2.out.below nq, HB2.out.b1, HB2.out.b2⟩
        rw [← hWq]
        have hcv := HBXQ.out.cell
        have hfv := HBXQ.out.frozen
        clear hWq hca0 hca1 hfa0 hfa1
        obtain ⟨hca1, hfa1⟩ := row_cell HROWQ.out (j := L'.length * 2 + 1) (u := .int .i64 e.f1) (by rw [List.getElem?_append_right (by omega)]; simp [hfl])
        have HJE : Aside0 (joinE L x = L' ++ [⟨e.f0, wrap64 (e.f1 + 1)⟩]) := ⟨by rw [h0]; simp [joinE, hj]⟩
        gi_wp2
        have hgB : some (w.heap.size + 1) ≠ some g := HBXQ.out.not_row (by decide) HROWQ.out
        have hgB2 : w.heap.size + 1 ≠ g := fun h => hgB (congrArg some h)
        have hg1 : some (w.heap.size + 1 + 1) ≠ some g := row_ne hBq.b1 (by decide) HROWQ.out
        have hg2 : some (w.heap.size + 1 + 1 + 1) ≠ some g := row_ne hBq.b2 (by decide) HROWQ.out
        have hg0 := own_base HROWQ.out g rfl
        have hSB : Below w.heap.size Wq (Wq.setCell ⟨g, L'.length * 2 + 1, none⟩ (.int .i64 (wrap64 (e.f1 + 1)))) := (Below.refl _ _).setCell (p := ⟨g, L'.length * 2 + 1, none⟩) hg0 _
        have e1 : (Wq.setCell ⟨g, L'.length * 2 + 1, none⟩ (.int .i64 (wrap64 (e.f1 + 1)))).heap[w.heap.size + 1 + 1]? = Wq.heap[w.heap.size + 1 + 1]? := Below.heap_setCell _ _ _ _ (fun h => hg1 (congrArg some h))
        have e2 : (Wq.setCell ⟨g, L'.length * 2 + 1, none⟩ (.int .i64 (wrap64 (e.f1 + 1)))).heap[w.heap.size + 1 + 1 + 1]? = Wq.heap[w.heap.size + 1 + 1 + 1]? := Below.heap_setCell _ _ _ _ (fun h => hg2 (congrArg some h))
        refine ⟨HQ.out.2.trans (KeepsOthers.setCell _ _ _), ⟨HQ.out.1.trans hSB, (e1.trans hBq.b1).trans HB2.out.b1.symm, (e2.trans hBq.b2).trans HB2.out.b2.symm⟩, ⟨.slice (some ⟨g, 0, none⟩) (L'.length + 1) cap, ?_, ?_, trivial⟩, ⟨hBq.below.trans hSB, e1.trans hBq.b1, e2.trans hBq.b2⟩⟩
        · exact (Below.heap_setCell _ _ _ _ hgB2).trans HBXQ.out
        · rw [HJL.out, List.foldl_cons, List.foldl_nil, HJE.out]
          have := row_set HROWQ.out (j := L'.length * 2 + 1) (by simp [hfl]) (.int .i64 (wrap64 (e.f1 + 1)))
          rw [List.set_append_right _ _ (by omega), hfl] at this
          simpa [flat, Nat.add_sub_cancel_left] using this
      · gi_wp2
        refine wpIn_region_quiet_lit_r (by rfl) hmx (by kernel_rfl) ?_
        repeat (gi_big_quiet_step (fail))
        refine wpQuietIn_nil ?_
        intro _ hw'
        obtain ⟨nq, hw''⟩ := hw'
        subst hw''
        obtain ⟨Wq, hWq⟩ : ∃ Wq, Wq = W.drewN nq := ⟨_, rfl⟩
        have HQ : Aside0 (Below w.heap.size W Wq ∧ KeepsOthers W Wq) := ⟨by rw [hWq]; exact ⟨pw_below_drewN (Below.refl _ _) nq, ⟨Nat.le_refl _, fun _ _ h _ => h⟩⟩⟩
        have HROWQ : Aside0 (Wq.ownsRow w.heap.size 26 2 (.slice (some ⟨g, 0, none⟩) (L'.length + 1) cap) (L'.length + 1) (flat L' ++ [.int .i64 e.f0, .int .i64 e.f1])) := ⟨by rw [hWq]; exact HROW'.out⟩
        have HBXQ : Aside0 (Boxed Wq (w.heap.size + 1) 44 (.slice (some ⟨g, 0, none⟩) (L'.length + 1) cap)) := ⟨by rw [hWq]; exact HBX.out⟩
        have hBq : EI w (w.heap.size + 1 + 1) (w.heap.size + 1 + 1 + 1) size 0 (.slice A ws.length c) Wq := by rw [hWq]; exact ⟨pw_below_drewN HB2.out.below nq, HB2.out.b1, HB2.out.b2⟩
        rw [← hWq]
        have hcv := HBXQ.out.cell
        have hfv := HBXQ.out.frozen
        clear hWq hca0 hca1 hfa0 hfa1
        obtain ⟨hca1, hfa1⟩ := row_cell HROWQ.out (j := L'.length * 2 + 1) (u := .int .i64 e.f1) (by rw [List.getElem?_append_right (by omega)]; simp [hfl])
        have HJE : Aside0 (joinE L x = L' ++ [e] ++ [⟨x, 1⟩]) := ⟨by rw [h0]; simp [joinE, hj]⟩
        gi_wp2_with (gi_at_builtin; refine wpListIn_append_own _ rfl _ _ 44 rfl w.heap.size 26 i0 (.agg #[.int .i64 0, .int .i64 0]) 2 16 Tryd.underlying44 hi hz0 hz1 hz2 rfl (by decide) _ _ _ rfl (HROWQ.out.alloc _) ⟨Wq.heap.size, 0, none⟩ 1 1 [.int .i64 x, .int .i64 1] rfl rfl (cells_two_new _ _ _ _) (by simp [Value.oneCell']) (by unfold maxLen; omega) (by omega) (by have := hBq.below.size; simp; omega) ?_; intro v' w1 hown' hgrow _; obtain ⟨g', cap', rfl⟩ := ownsRow_succ hown'; obtain ⟨hv1, hv2, hr2, hk2, hb2⟩ := HBXQ.out.appended (by decide) HROWQ.out hBq.below.size hle hown' hgrow; have hc1 := hv1.cell; have hf1 := hv1.frozen; have HV2 := Aside0.mk hv2; have HE2 := Aside0.mk (hBq.app (B := w.heap.size + 1) HROWQ.out hgrow (.slice (some ⟨g', 0, none⟩) (L'.length + 1 + 1) cap') (by omega) (Nat.le_refl _) (by omega) (by omega)); have HR2 := Aside0.mk hr2; have HK2 := Aside0.mk hk2; have HB2' := Aside0.mk hb2; clear hv1 hv2 hr2 hk2 hb2 hown' hgrow)
        refine ⟨HQ.out.2.trans HK2.out, ⟨HQ.out.1.trans HB2'.out, HE2.out.b1.trans HB2.out.b1.symm, HE2.out.b2.trans HB2.out.b2.symm⟩, ⟨_, HV2.out, ?_, trivial⟩, HE2.out⟩
        rw [HJL.out, List.foldl_cons, List.foldl_nil, HJE.out]
        have := HR2.out
        simpa [flat] using this
  case done =>
    rintro D ys W hD hys ⟨⟨v, hv, hrow, -⟩, hB2⟩ hK
    rw [hys] at hrow
    have hcv := hv.cell
    have HROW := Aside0.mk hrow
    clear hrow hys hv
    gi_wp2
    refine ⟨by simp, .inl ⟨_, _, rfl, run_takeDeferred hK, ?_⟩⟩
    refine ⟨v, ?_, v, rfl, ownsRow_putObj HROW.out _ hK rfl, hB2.below.trans (belowK_b (w := w) (Nat.le_refl _) W D _ _ (by have := hB.size; omega) hK rfl rfl)⟩
    simp [results, Tryd.f31, go_sem]
  case stop =>
    rintro D c pre W _ _ h
    exact h.elim
end Go.Proofs.YthpldfjjdmjcoaaDoor.P

namespace Go.Proofs.YthpldfjjdmjcoaaDoor.P
open Go.RowKit Go.Shelf Go.Proofs.YthpldfjjdmjcoaaDoorW.PrintWords Go.Proofs.YthpldfjjdmjcoaaDoorW.PrintLast Go.Proofs.YthpldfjjdmjcoaaDoorW.PrintMore
theorem elemsW_length (ws : List Int) (lo size : Int) (i : Nat) : (elemsW ws lo size i).length ≤ 64 := by
  unfold elemsW bitsOf
  rw [List.length_map]
  exact Nat.le_trans (List.length_filter_le _ _) (by simp)
theorem flatMap_length_le {α β : Type} (f : α → List β) (n : Nat) (h : ∀ a, (f a).length ≤ n) (l : List α) : (l.flatMap f).length ≤ l.length * n := by
  induction l with
  | nil => simp
  | cons a l ih => rw [List.flatMap_cons, List.length_append, List.length_cons, Nat.succ_mul]; have := h a; omega
theorem bElems_length (size : Int) (ws : List Int) (lo : Int) : (bElems size ws lo).length ≤ 5000 := by
  unfold bElems
  split
  · rename_i h
    have := ((good_iff _ _).1 h).len_le
    have h2 := flatMap_length_le (elemsW ws lo size) 64 (elemsW_length ws lo size) (List.range ws.length)
    rw [List.length_range] at h2
    unfold elems
    omega
  · simp
theorem reps_flat (w : World) (base : Nat) (ok : Nat → Prop) (l : List S26) : Reps (k26.M w base ok) 2 l (flat l) := by
  suffices h : ∀ (m l : List S26), Reps (k26.M w base ok) 2 m (flat m) → Reps (k26.M w base ok) 2 (m ++ l) (flat (m ++ l)) by simpa using h [] l (Reps.none _ _)
  intro m l
  induction l generalizing m with
  | nil => intro h; simpa using h
  | cons a l ih =>
    intro h
    have := ih (m ++ [a]) (by rw [flat_append]; exact h.snoc (k26_mkM w base ok a) rfl)
    simpa using this
theorem bNext.calls (a0_0 : Int) (A0_1 : Option Addr) (c0_1 : Nat) (l0_1 : List Int) (a1 : Int) (r : Int) (w : World) (hG : TabOK w) (hr0_1 : Kd.C (Kd.int .u64) w A0_1 l0_1.length l0_1) (hc0_1 : l0_1.length ≤ c0_1) (h : bNext.f a0_0 l0_1 a1 = some r) :
    Calls Tryd.prog 26 #[.agg #[.int .i64 a0_0, .slice A0_1 l0_1.length c0_1], .int .i64 a1] w fun e w' => e = .returned (.int .i64 r) ∧ Below w.heap.size w w' := by
  simp only [bNext.f, Option.some.injEq] at h
  subst h
  exact next_any a0_0 A0_1 c0_1 l0_1 a1 (mx a1 0) w hG hr0_1 hc0_1 rfl
theorem bExtents.calls (a0_0 : Int) (A0_1 : Option Addr) (c0_1 : Nat) (l0_1 : List Int) (r : List (S26)) (w : World) (hG : TabOK w) (hr0_1 : Kd.C (Kd.int .u64) w A0_1 l0_1.length l0_1) (hc0_1 : l0_1.length ≤ c0_1) (h : bExtents.f a0_0 l0_1 = some r) :
    Calls Tryd.prog 31 #[.agg #[.int .i64 a0_0, .slice A0_1 l0_1.length c0_1]] w fun e w' => ∃ v0_ : Value, e = .returned (v0_) ∧ Kd.R k26 26 w' w.heap.size (fun _ => True) v0_ r ∧ Below w.heap.size w w' := by
  simp only [bExtents.f, Option.some.injEq] at h
  subst h
  refine (extents_any a0_0 A0_1 c0_1 l0_1 w hG hr0_1 hc0_1 (bElems_length _ _ _)).mono ?_
  rintro e w' ⟨v, rfl, ho, hb⟩
  exact ⟨v, rfl, ⟨fun _ _ => trivial, _, ho, reps_flat _ _ _ _⟩, hb⟩
end Go.Proofs.YthpldfjjdmjcoaaDoor.P
