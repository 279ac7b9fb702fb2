/-
  Parts of the proof of the law ExtentAdds (part 1): what the functions it reaches come to, and the plain law. Conditions: those that each theorem names.
-/
import Derived.Test.YteeedheklnelkaaProg
import Derived.Below
import Derived.Deep.Draws
import Derived.Deep.AppendLies
import Derived.Maps.AppendAt
import Derived.OwnWalk
import Derived.Laws.BytesArg
import Derived.Laws.MakeOwn
import Derived.Laws.OwnMore
import Derived.Deep.OwnRows
import Derived.Tactics
import Derived.Lib.ConvBytes
import Derived.Laws.Slices
import Derived.WalkKit
import Derived.KernelRfl
import Derived.RowKit3
import Derived.Deep.LoopGhost
import Derived.Deep.QuietTactic
import Derived.BigQuiet
import Derived.WideLaws
import Derived.Deep.DeepCutAuto
import Derived.Deep.CutBlock
import Derived.Deep.RegionHeld3
import Derived.Laws.Rows
import Derived.Lib.AppendStr
import Derived.ArgAppend
import Derived.Laws.IdiomCopy
import Derived.OrdersHeld
import Derived.Laws.BitsLemmas
import Derived.RowKit
import Derived.Test.YteeedheklnelkaaWWords
import Derived.Test.YteeedheklnelkaaWLast
import Derived.Test.YteeedheklnelkaaWTab
import Derived.Test.YteeedheklnelkaaWFour
import Derived.Test.YteeedheklnelkaaWQPut
import Derived.Test.YteeedheklnelkaaWApart
import Derived.Test.YteeedheklnelkaaWArr
import Derived.Test.YteeedheklnelkaaWZeros
import Derived.Test.YteeedheklnelkaaWFoot
import Derived.Test.YteeedheklnelkaaWKept
import Derived.Test.YteeedheklnelkaaWShare
import Derived.Test.YteeedheklnelkaaWN
import Derived.Test.YteeedheklnelkaaWFootNe
import Derived.Test.YteeedheklnelkaaWAt
import Derived.Test.YteeedheklnelkaaWEqStruct
import Derived.Test.YteeedheklnelkaaWRepsOne
import Derived.Test.YteeedheklnelkaaWInv
import Derived.Test.YteeedheklnelkaaWInvWords
import Derived.Test.YteeedheklnelkaaWGuard
import Derived.Test.YteeedheklnelkaaWNEv
import Derived.Test.YteeedheklnelkaaWMore
import Derived.Test.YteeedheklnelkaaRows
import Derived.ProofKit
import Derived.OpenShut
import Derived.Deep.DeepHandedRow
import Derived.Deep.SlicePairs
import Derived.Lib.LaidTab
import Derived.Lib.SmallJoins
import Derived.Laws.AppendOwnNone
import Derived.Lib.SliceRun
import Derived.StillTailTactics
import Derived.RangeFuncNested
import Derived.RangeFuncBound
import Derived.RangeFuncCalls
import Derived.RangeFuncLeaves
import Derived.RangeFuncBox
import Derived.Shelf.Abstract
import Derived.Shelf.RegionOpen
import Derived.OwnWalkIn
import Derived.TacticsInMore
import Derived.LoopNIn
import Derived.LoopIn
import Derived.Shelf.SlLaysF0
import Derived.Shelf.SlLaysC2
import Derived.Shelf.SlSortCmp.WholeK
import Derived.Shelf.SlicesG.Cmp
import Derived.Shelf.SlSortCmp.NoneTotal
import Derived.Sort.BigQuietIn
import Derived.Outline
namespace Go.Proofs.Yteeedheklnelkaa.P
open Go.RowKit Go.Proofs.YteeedheklnelkaaW.PrintWords Go.Proofs.YteeedheklnelkaaW.PrintLast Go.Proofs.YteeedheklnelkaaW.PrintMore
attribute [local go_sem] max2_int min2_int max_two min_two max_three min_three max_four min_four   -- for this text's walks alone
set_option linter.unusedVariables false
set_option linter.unusedSimpArgs false
def errW : Option Int → Value
  | none => .nilIface
  | some c => .iface 0 (.int .i64 c)
theorem errW_none : errW none = .nilIface := rfl
theorem errW_some (c : Int) : errW (some c) = .iface 0 (.int .i64 c) := rfl
theorem info40 : (Try.prog.info? 40).map (fun i => (i.zero, i.size, i.bytes)) = some (some (.agg #[(.int .i64 0), (.int .i64 0)]), 2, 16) := by kernel_rfl
structure S40 where
  f0 : Int
  f1 : Int
def z40 : S40 := ⟨(0 : Int), (0 : Int)⟩
def k40 : Kd S40 := Kd.iso (Kd.pair (Kd.int .i64) (Kd.int .i64)) (fun x : S40 => (x.f0, x.f1))
theorem k40_open {w : World} {x : S40} {cs : List Value} (h : k40.K w x cs) : cs = [.int .i64 x.f0, .int .i64 x.f1] := by
  obtain ⟨_, _, rfl, rfl, rfl⟩ := h
  exact rfl
theorem k40_mk (w : World) (x : S40)  : k40.K w x [.int .i64 x.f0, .int .i64 x.f1] := ⟨[.int .i64 x.f0], [.int .i64 x.f1], rfl, rfl, rfl⟩
theorem k40_mkM (w : World) (base : Nat) (ok : Nat → Prop) (x : S40)  : k40.M w base ok x [.int .i64 x.f0, .int .i64 x.f1] := ⟨[.int .i64 x.f0], [.int .i64 x.f1], rfl, rfl, rfl⟩
def rd_T40 (xs : List S40) (i : Int) : S40 := xs.getD i.toNat z40
theorem at_T40 {w : World} {A : Option Addr} {n : Nat} {xs : List S40} (h : Kd.C k40 w A n xs) (i : Int) (h0 : 0 ≤ i) (h1 : i < n) : ∃ ad , A = some ad ∧ w.cell? (ad.add (i.toNat * 2)) = some (.int .i64 (rd_T40 xs i).f0) ∧ w.cell? ⟨(ad.add (i.toNat * 2)).block, (ad.add (i.toNat * 2)).off + 1, none⟩ = some (.int .i64 (rd_T40 xs i).f1) := by
  obtain ⟨ad, c, e, _, hK, hc0⟩ := Kd.C_get h z40 i h0 h1
  have hc : ∀ j u, c[j]? = some u → w.cell? (ad.add (i.toNat * 2 + j)) = some u := hc0
  obtain rfl := k40_open hK
  exact ⟨ad, e, hc 0 _ rfl, by rw [← add_field _ _ 1 (by omega)]; exact hc 1 _ rfl⟩
end Go.Proofs.Yteeedheklnelkaa.P

namespace Go.Proofs.Yteeedheklnelkaa.P
open Go.ChangeShapes Go.WideShapes Go.ChangeAt Go.RowKit Go.Deep Go.Joins Go.Proofs.YteeedheklnelkaaW.PrintWords Go.Proofs.YteeedheklnelkaaW.PrintLast Go.Proofs.YteeedheklnelkaaW.PrintMore
theorem laidOut : laidOutB Try.prog = true := by kernel_rfl
section
variable {H : Type} {enc : TypeId × Value → H} {W : World}
theorem choose_two {P : Nat → Int → Int → Prop} {n : Nat} (h : ∀ i, i < n → ∃ a b, P i a b) : ∃ f g : Nat → Int, ∀ i, i < n → P i (f i) (g i) := by
  induction n with
  | zero => exact ⟨fun _ => 0, fun _ => 0, fun i hi => by omega⟩
  | succ n ih =>
    obtain ⟨f, g, hf⟩ := ih (fun i hi => h i (by omega))
    obtain ⟨a, b, hab⟩ := h n (by omega)
    refine ⟨fun i => if i = n then a else f i, fun i => if i = n then b else g i, fun i hi => ?_⟩
    by_cases e : i = n
    · subst e; simpa using hab
    · simpa [e] using hf i (by omega)
/-- A slice of extents. -/
theorem open_extents {v : Value} {d : DataW H} {p : List MemPlace} {b : Nat} (hv : Value.okWide Try.prog W .any b 22 v) (h : DataW.Trod enc Try.prog W 0 (fun _ => true) true 22 v d p) :
    ∃ (A : Option Addr) (c : Nat) (l : List S40), v = .slice A l.length c ∧ l.length ≤ c ∧ Kd.C k40 W A l.length l ∧ ∀ e ∈ l, (Lit.int .i64 e.f0).wf = true ∧ (Lit.int .i64 e.f1).wf = true := by
  obtain ⟨A, len, cap, rfl⟩ := okWide_slice Try.underlying22 hv
  obtain ⟨fuel, hf⟩ := h
  rcases open_slice_pairs Try.underlying22 Try.underlying40 (by kernel_rfl) rfl rfl (by kernel_rfl) (by kernel_rfl) hf with ⟨hcs, _⟩ | ⟨a, l, c, m, n, V0, V1, D0, D1, P0, P1, hcs, _, hl, hm, hmm, _, hx⟩
  · simp [Value.cells] at hcs
    obtain ⟨rfl, rfl, rfl⟩ := hcs
    exact ⟨none, 0, [], rfl, Nat.le_refl _, Kd.C_nil _ _, fun _ h => by cases h⟩
  · simp [Value.cells] at hcs
    obtain ⟨rfl, rfl, rfl⟩ := hcs
    have hmc : m = cap := by simpa using hmm
    obtain ⟨f, g, hfg⟩ := choose_two (P := fun i x y => W.cell? (a.add (i * 2)) = some (.int .i64 x) ∧ W.cell? (a.add (i * 2 + 1)) = some (.int .i64 y) ∧ (Lit.int .i64 x).wf = true ∧ (Lit.int .i64 y).wf = true) (n := len) (fun i hi => by
      obtain ⟨c0, c1, t0, t1⟩ := hx i (by omega)
      obtain ⟨x, e0, _, w0⟩ := DataW.trod_int Try.underlying3 t0
      obtain ⟨y, e1, _, w1⟩ := DataW.trod_int Try.underlying3 t1
      have e0' : V0 i = .int .i64 x := by simpa using e0
      have e1' : V1 i = .int .i64 y := by simpa using e1
      exact ⟨x, y, by rw [c0, e0'], by rw [c1, e1'], w0, w1⟩)
    refine ⟨some a, cap, (List.range len).map fun i => ⟨f i, g i⟩, by simp, by simpa using hl, ⟨rfl, by simp only [List.length_map, List.length_range]; unfold maxLen at hm; omega, fun _ => ⟨a, rfl, fun j p hj => ?_⟩⟩, fun e he => ?_⟩
    · have hjl : j < len := by
        have := (List.getElem?_eq_some_iff.1 hj).1
        simpa using this
      have hp : p = ⟨f j, g j⟩ := by
        rw [List.getElem?_map, List.getElem?_range hjl] at hj
        simpa using hj.symm
      subst hp
      refine ⟨[.int .i64 (f j), .int .i64 (g j)], rfl, k40_mk W _, fun i u hu => ?_⟩
      obtain ⟨c0, c1, -, -⟩ := hfg j hjl
      match i, hu with
      | 0, hu => obtain rfl : Value.int .i64 (f j) = u := by simpa using hu
                 exact c0
      | 1, hu => obtain rfl : Value.int .i64 (g j) = u := by simpa using hu
                 exact c1
      | i + 2, hu => simp at hu
    · rw [List.mem_map] at he
      obtain ⟨i, hi, rfl⟩ := he
      obtain ⟨-, -, w0, w1⟩ := hfg i (List.mem_range.1 hi)
      exact ⟨w0, w1⟩
/-- An argument reads behind the call as it read before. -/
theorem back {t : TypeId} (hr : Try.prog.readableRec t = true) (hrow : t < Try.prog.types.size) {W' : World} {v : Value} {d : DataW H} {ps : List MemPlace} (h : DataW.Trod enc Try.prog W 0 (fun _ => true) true t v d ps) (hb : Below W.heap.size W W') :
    DataW.Trod enc Try.prog W' 0 (fun b => decide (b < W.heap.size)) true t v d ps :=
  Below.trod laidOut hr hrow h hb (by obtain ⟨m, hm⟩ := h; exact DataW.trod_lt m _ _ _ hm)
end
end Go.Proofs.Yteeedheklnelkaa.P

namespace Go.Proofs.Yteeedheklnelkaa.P
open Go.RowKit Go.Proofs.YteeedheklnelkaaW.PrintWords Go.Proofs.YteeedheklnelkaaW.PrintLast Go.Proofs.YteeedheklnelkaaW.PrintMore
attribute [local go_sem] max2_int min2_int max_two min_two max_three min_three max_four min_four   -- for this text's walks alone
set_option linter.unusedVariables false
set_option linter.unusedSimpArgs false
def l01few.f (l0 : List (S40)) (l1 : List (S40)) : Option (Bool) := if (l0.length : Int) ≤ 20 then (some (decide ((l1.length : Int) ≤ 20))) else (some false)
set_option maxHeartbeats 8000000 in
set_option maxRecDepth 100000 in
theorem l01few.calls (A0 : Option Addr) (c0 : Nat) (l0 : List (S40)) (A1 : Option Addr) (c1 : Nat) (l1 : List (S40)) (r : Bool) (w : World) (hr0 : Kd.C k40 w A0 l0.length l0) (hc0 : l0.length ≤ c0) (hr1 : Kd.C k40 w A1 l1.length l1) (hc1 : l1.length ≤ c1) (h : l01few.f l0 l1 = some r) :
    Calls Try.prog 12 #[.slice A0 l0.length c0, .slice A1 l1.length c1] w fun e w' => e = .returned (.bool r) ∧ Drawn0 w w' := by
  have HR0 := Aside0.mk hr0
  have HC0 := Aside0.mk hc0
  clear hr0 hc0
  have HR1 := Aside0.mk hr1
  have HC1 := Aside0.mk hc1
  clear hr1 hc1
  have H : (if (l0.length : Int) ≤ 20 then (some (decide ((l1.length : Int) ≤ 20))) else (some false)) = some r := h
  clear h
  by_cases c3 : (l0.length : Int) ≤ 20
  · rw [if_pos c3] at H
    have c3b0 : decide ((l0.length : Int) ≤ 20) = true := decide_eq_true c3
    have c3b1 : decide (l0.length ≤ 20) = true := decide_eq_true (by omega)
    clear c3
    obtain rfl := Option.some.inj H
    go_enter Try.func12, Try.ntmps12
    go_wp2
    go_ret
    exact ⟨by first | rfl | (simp; done) | (simp [*]; done), by repeat (first | exact Drawn0.refl _ | apply Drawn0.step)⟩
  · rw [if_neg c3] at H
    have c3b0 : decide ((l0.length : Int) ≤ 20) = false := decide_eq_false c3
    have c3b1 : decide (l0.length ≤ 20) = false := decide_eq_false (by omega)
    clear c3
    obtain rfl := Option.some.inj H
    go_enter Try.func12, Try.ntmps12
    go_wp2
    go_ret
    exact ⟨by first | rfl | (simp; done) | (simp [*]; done), by repeat (first | exact Drawn0.refl _ | apply Drawn0.step)⟩
mutual
def xCheck.j0 : Nat → List (S40) → Int → Bool → Option (Int)
  | 0, _, _, _ => none
  | k + 1, x0, x1, x13 => if x13 = true then (some 2) else (xCheck.l0 k x1 0 x0 (x0.length : Int) 0)
def xCheck.l0 : Nat → Int → Int → List (S40) → Int → Int → Option (Int)
  | 0, _, _, _, _, _ => none
  | k + 1, x1, x5, x14, x15, x16 => if x16 < x15 then (if 0 ≤ x16 then (if x16 < (x14.length : Int) then (if ((rd_T40 x14 x16).f1) ≤ 0 then (some 1) else (if ((rd_T40 x14 x16).f0) < 0 then (xCheck.j2 k x1 x5 x14 x15 x16 true ((rd_T40 x14 x16).f0) ((rd_T40 x14 x16).f1)) else (xCheck.j2 k x1 x5 x14 x15 x16 (decide (((rd_T40 x14 x16).f1) > (wrap64 (x1 - ((rd_T40 x14 x16).f0))))) ((rd_T40 x14 x16).f0) ((rd_T40 x14 x16).f1)))) else (none)) else (none)) else (some 0)
def xCheck.j2 : Nat → Int → Int → List (S40) → Int → Int → Bool → Int → Int → Option (Int)
  | 0, _, _, _, _, _, _, _, _ => none
  | k + 1, x1, x5, x14, x15, x16, x24, x103000, x103001 => if x24 = true then (some 2) else (if x103000 < x5 then (some 3) else (xCheck.l0 k x1 (wrap64 ((wrap64 (x103000 + x103001)) + 1)) x14 x15 (wrap64 (x16 + 1))))
end
def xCheck.f (k : Nat) (l0 : List (S40)) (a1 : Int) : Option (Int) := if a1 < 0 then (xCheck.j0 k l0 a1 true) else (xCheck.j0 k l0 a1 (decide (a1 > 4096)))
theorem xCheck.mono_l : ∀ k, (∀ y0 y1 y2, LeO (xCheck.j0 k y0 y1 y2) (xCheck.j0 (k + 1) y0 y1 y2)) ∧ (∀ y0 y1 y2 y3 y4, LeO (xCheck.l0 k y0 y1 y2 y3 y4) (xCheck.l0 (k + 1) y0 y1 y2 y3 y4)) ∧ (∀ y0 y1 y2 y3 y4 y5 y6 y7, LeO (xCheck.j2 k y0 y1 y2 y3 y4 y5 y6 y7) (xCheck.j2 (k + 1) y0 y1 y2 y3 y4 y5 y6 y7))
  | 0 => ⟨fun _ _ _ r h => by simp [xCheck.j0] at h, fun _ _ _ _ _ r h => by simp [xCheck.l0] at h, fun _ _ _ _ _ _ _ _ r h => by simp [xCheck.j2] at h⟩
  | k + 1 => by
    obtain ⟨ih0, ih1, ih2⟩ := xCheck.mono_l k
    refine ⟨?_, ?_, ?_⟩
    · intro y0 y1 y2
      unfold xCheck.j0
      repeat' first
      | (with_reducible exact ih0 _ _ _)
      | (with_reducible exact ih1 _ _ _ _ _)
      | (with_reducible exact ih2 _ _ _ _ _ _ _ _)
      | (with_reducible exact LeO.refl _)
      | (with_reducible exact LeO.none _)
      | (with_reducible refine LeO.ite ?_ ?_)
      | (with_reducible refine LeO.bind ?_ (fun _ => ?_))
      | exact ih0 _ _ _
      | exact ih1 _ _ _ _ _
      | exact ih2 _ _ _ _ _ _ _ _
      | exact LeO.none _
      | refine LeO.ite ?_ ?_
      | refine LeO.bind ?_ (fun _ => ?_)
    · intro y0 y1 y2 y3 y4
      unfold xCheck.l0
      repeat' first
      | (with_reducible exact ih0 _ _ _)
      | (with_reducible exact ih1 _ _ _ _ _)
      | (with_reducible exact ih2 _ _ _ _ _ _ _ _)
      | (with_reducible exact LeO.refl _)
      | (with_reducible exact LeO.none _)
      | (with_reducible refine LeO.ite ?_ ?_)
      | (with_reducible refine LeO.bind ?_ (fun _ => ?_))
      | exact ih0 _ _ _
      | exact ih1 _ _ _ _ _
      | exact ih2 _ _ _ _ _ _ _ _
      | exact LeO.none _
      | refine LeO.ite ?_ ?_
      | refine LeO.bind ?_ (fun _ => ?_)
    · intro y0 y1 y2 y3 y4 y5 y6 y7
      unfold xCheck.j2
      repeat' first
      | (with_reducible exact ih0 _ _ _)
      | (with_reducible exact ih1 _ _ _ _ _)
      | (with_reducible exact ih2 _ _ _ _ _ _ _ _)
      | (with_reducible exact LeO.refl _)
      | (with_reducible exact LeO.none _)
      | (with_reducible refine LeO.ite ?_ ?_)
      | (with_reducible refine LeO.bind ?_ (fun _ => ?_))
      | exact ih0 _ _ _
      | exact ih1 _ _ _ _ _
      | exact ih2 _ _ _ _ _ _ _ _
      | exact LeO.none _
      | refine LeO.ite ?_ ?_
      | refine LeO.bind ?_ (fun _ => ?_)
theorem xCheck.mono : ∀ a0 a1 k, LeO (xCheck.f k a0 a1) (xCheck.f (k + 1) a0 a1) := by
  intro a0 a1 k
  obtain ⟨ih0, ih1, ih2⟩ := xCheck.mono_l k
  unfold xCheck.f
  repeat' first
      | (with_reducible exact ih0 _ _ _)
      | (with_reducible exact ih1 _ _ _ _ _)
      | (with_reducible exact ih2 _ _ _ _ _ _ _ _)
      | (with_reducible exact LeO.refl _)
      | (with_reducible exact LeO.none _)
      | (with_reducible refine LeO.ite ?_ ?_)
      | (with_reducible refine LeO.bind ?_ (fun _ => ?_))
      | exact ih0 _ _ _
      | exact ih1 _ _ _ _ _
      | exact ih2 _ _ _ _ _ _ _ _
      | exact LeO.none _
      | refine LeO.ite ?_ ?_
      | refine LeO.bind ?_ (fun _ => ?_)
set_option maxHeartbeats 8000000 in
set_option maxRecDepth 100000 in
theorem xCheck.calls (k : Nat) (A0 : Option Addr) (c0 : Nat) (l0 : List (S40)) (a1 : Int) (r : Int) (w : World) (hr0 : Kd.C k40 w A0 l0.length l0) (hc0 : l0.length ≤ c0) (h : xCheck.f k l0 a1 = some r) :
    Calls Try.prog 14 #[.slice A0 l0.length c0, .int .i64 a1] w fun e w' => e = .returned (.int .i64 r) ∧ Below w.heap.size w w' := by
  have hu40 := Try.underlying40
  have HR0 := Aside0.mk hr0
  have HC0 := Aside0.mk hc0
  clear hr0 hc0
  have HB := Aside0.mk (Below.refl w.heap.size w)
  have H : (if a1 < 0 then (xCheck.j0 k l0 a1 true) else (xCheck.j0 k l0 a1 (decide (a1 > 4096)))) = some r := h
  clear h
  have HC3 := Aside0.mk H
  clear H
  go_enter Try.func14, Try.ntmps14
  go_upto_region 1 with (fail)
  go_cut [13] (fun v13 wc => ∃ (kq : Nat) (x13_2 : Bool), v13 = .bool x13_2 ∧ Aside0 (xCheck.j0 kq l0 a1 x13_2 = some r) ∧ Aside0 (kq ≤ k) ∧ Aside0 (Below w.heap.size w wc))
  case first =>
    have H := HC3.out
    clear HC3
    by_cases c4 : a1 < 0
    · rw [if_pos c4] at H
      have c4b0 : decide (a1 < 0) = true := decide_eq_true c4
      clear c4
      (first | rw [c4b0] | (simp only [i64_w, i32_w]; rw [c4b0]) | skip)
      have H' := Aside0.mk H
      clear H
      go_wp2
      go_meet
      case rel => exact ⟨_, (true), (by first | rfl | (simp; done) | (simp [*]; done)), H', ⟨by first | omega | exact Nat.le_refl _⟩, ⟨by repeat (first | (with_reducible first | exact HB.out | apply below_alloc | apply pw_below_drewN | apply below_drew1) | exact HB.out)⟩⟩
    · rw [if_neg c4] at H
      have c4b0 : decide (a1 < 0) = false := decide_eq_false c4
      clear c4
      (first | rw [c4b0] | (simp only [i64_w, i32_w]; rw [c4b0]) | skip)
      have H' := Aside0.mk H
      clear H
      go_wp2
      go_meet
      case rel => exact ⟨_, (decide (a1 > 4096)), (by first | rfl | (simp; done) | (simp [*]; done)), H', ⟨by first | omega | exact Nat.le_refl _⟩, ⟨by repeat (first | (with_reducible first | exact HB.out | apply below_alloc | apply pw_below_drewN | apply below_drew1) | exact HB.out)⟩⟩
  case rest =>
    clear HC3
    try clear c1
    try clear p2
    try clear c4
    try clear c4b0
    obtain ⟨kq, x13_2, rfl, HA, HJ2, HB⟩ := hcut
    cases kq with
    | zero => exact absurd HA.out (by simp [xCheck.j0])
    | succ kj2 =>
      have H := HA.out
      clear HA
      simp only [xCheck.j0] at H
      by_cases c5 : x13_2 = true
      · subst c5
        have H1 : (some 2) = some r := by rw [if_pos rfl] at H; exact H
        clear H
        have H := H1
        clear H1
        obtain rfl := Option.some.inj H
        go_wp2
        go_ret
        exact ⟨by first | rfl | (simp [errW_none, errW_some] <;> rfl) | (simp [*, errW_none, errW_some] <;> rfl), by repeat (first | (with_reducible first | exact HB.out | apply below_alloc | apply pw_below_drewN | apply below_drew1) | exact HB.out)⟩
      · replace c5 := Bool.eq_false_iff.mpr c5
        subst c5
        have H1 : (xCheck.l0 kj2 a1 0 l0 (l0.length : Int) 0) = some r := by rw [if_neg (show ¬ (false = true) by decide)] at H; exact H
        clear H
        have H := H1
        clear H1
        have H' := Aside0.mk H
        clear H
        go_wp2
        go_loopg [5, 16] kj2 (fun kq v5 v16 w' => ∃ (x5_2 : Int) (x16_2 : Int), v5 = .int .i64 x5_2 ∧ v16 = .int .i64 x16_2 ∧ Aside0 (xCheck.l0 kq a1 x5_2 l0 (l0.length : Int) x16_2 = some r) ∧ Aside0 (kq ≤ kj2) ∧ Aside0 (Below w.heap.size w w'))
        case atStart => exact ⟨(0), (0), (by first | rfl | (simp; done) | (simp [*]; done)), (by first | rfl | (simp; done) | (simp [*]; done)), H', ⟨Nat.le_refl _⟩, ⟨by repeat (first | (with_reducible first | exact HB.out | apply below_alloc | apply pw_below_drewN | apply below_drew1) | exact HB.out)⟩⟩
        case round =>
          clear H'
          try clear c1
          try clear p2
          try clear c4
          try clear c4b0
          try clear c5
          try clear p2
          obtain ⟨x5_2, x16_2, rfl, rfl, HA, HK2, HB⟩ := hrel
          cases gk with
          | zero => exact absurd HA.out (by simp [xCheck.l0])
          | succ k2 =>
            have H := HA.out
            clear HA
            simp only [xCheck.l0] at H
            by_cases c6 : x16_2 < (l0.length : Int)
            · rw [if_pos c6] at H
              have c6b0 : decide (x16_2 < (l0.length : Int)) = true := decide_eq_true c6
              clear c6
              by_cases c7 : 0 ≤ x16_2
              · rw [if_pos c7] at H
                have c7b0 : decide (0 ≤ x16_2) = true := decide_eq_true c7
                clear c7
                by_cases c8 : x16_2 < (l0.length : Int)
                · rw [if_pos c8] at H
                  have c8b0 : decide (x16_2 < (l0.length : Int)) = true := decide_eq_true c8
                  clear c8
                  by_cases c9 : ((rd_T40 l0 x16_2).f1) ≤ 0
                  · rw [if_pos c9] at H
                    have c9b0 : decide (((rd_T40 l0 x16_2).f1) ≤ 0) = true := decide_eq_true c9
                    clear c9
                    obtain rfl := Option.some.inj H
                    have p101 : 0 ≤ (x16_2 : Int) := of_decide_eq_true (by first | (with_reducible assumption) | assumption)
                    have q101 : x16_2 < (l0.length : Int) := of_decide_eq_true (by first | (with_reducible assumption) | assumption)
                    obtain ⟨ad101, e101, hx101_0, hx101_1⟩ := at_T40 HR0.out x16_2 p101 q101
                    cases e101
                    replace hx101_0 := (HB.out.cell (World.block_lt_of_cell? w _ hx101_0)).trans hx101_0
                    replace hx101_1 := (HB.out.cell (World.block_lt_of_cell? w _ hx101_1)).trans hx101_1
                    replace p101 := eq_true p101
                    replace q101 := eq_true q101
                    go_wp2_with (first | ((with_reducible refine gate_dst (N := 7) rfl ?_); refine box_event ?hg (N := 7) ?hd (cs := #[.int .i64 0, .int .i64 0]) (t := 40) ?hr ?_; (case hd => rfl); (case hg => rfl); (case hr => first | (go_simp; done) | (go_simp; rfl)); intro gb102 hg w10 hbox hb; have n0_ := Aside0.mk (below_step (by repeat (first | (with_reducible first | exact HB.out | apply below_alloc | apply pw_below_drewN | apply below_drew1) | exact HB.out)) hb); have n1_ := Aside0.mk (hbox); have n2_ := Aside0.mk ((by rw [hg]; exact (below_size (by repeat (first | (with_reducible first | exact HB.out | apply below_alloc | apply pw_below_drewN | apply below_drew1) | exact HB.out))) : w.heap.size ≤ gb102)); have n3_ := Aside0.mk ((by rw [hg]; exact (below_size (by repeat (first | (with_reducible first | exact HB.out | apply below_alloc | apply pw_below_drewN | apply below_drew1) | exact HB.out))) : w.heap.size ≤ gb102)); clear HB; have HB := n0_; have BK102 := n1_; have GW102 := n2_; have GE102 := n3_; clear n0_ n1_ n2_ n3_; clear hb hbox hg; have hcz11_0 : w10.cell? ⟨gb102, 0, none⟩ = some (.int .i64 0) := (blk_cell BK102.out 0).trans rfl; have hcz11_1 : w10.cell? ⟨gb102, 1, none⟩ = some (.int .i64 0) := (blk_cell BK102.out 1).trans rfl; have hfz11_0 := blk_frozen BK102.out 0; have hfz11_1 := blk_frozen BK102.out 1))
                    go_ret
                    exact ⟨by first | rfl | (simp [errW_none, errW_some] <;> rfl) | (simp [*, errW_none, errW_some] <;> rfl), by repeat (first | (with_reducible first | exact HB.out | apply below_alloc | apply pw_below_drewN | apply below_drew1 | refine below_set ?_ GE102.out) | exact HB.out)⟩
                  · rw [if_neg c9] at H
                    have c9b0 : decide (((rd_T40 l0 x16_2).f1) ≤ 0) = false := decide_eq_false c9
                    clear c9
                    have HC12 := Aside0.mk H
                    clear H
                    have p101 : 0 ≤ (x16_2 : Int) := of_decide_eq_true (by first | (with_reducible assumption) | assumption)
                    have q101 : x16_2 < (l0.length : Int) := of_decide_eq_true (by first | (with_reducible assumption) | assumption)
                    obtain ⟨ad101, e101, hx101_0, hx101_1⟩ := at_T40 HR0.out x16_2 p101 q101
                    cases e101
                    replace hx101_0 := (HB.out.cell (World.block_lt_of_cell? w _ hx101_0)).trans hx101_0
                    replace hx101_1 := (HB.out.cell (World.block_lt_of_cell? w _ hx101_1)).trans hx101_1
                    replace p101 := eq_true p101
                    replace q101 := eq_true q101
                    go_upto_region 9 with (first | ((with_reducible refine gate_dst (N := 7) rfl ?_); refine box_event ?hg (N := 7) ?hd (cs := #[.int .i64 0, .int .i64 0]) (t := 40) ?hr ?_; (case hd => rfl); (case hg => rfl); (case hr => first | (go_simp; done) | (go_simp; rfl)); intro gb102 hg w13 hbox hb; have n0_ := Aside0.mk (below_step (by repeat (first | (with_reducible first | exact HB.out | apply below_alloc | apply pw_below_drewN | apply below_drew1) | exact HB.out)) hb); have n1_ := Aside0.mk (hbox); have n2_ := Aside0.mk ((by rw [hg]; exact (below_size (by repeat (first | (with_reducible first | exact HB.out | apply below_alloc | apply pw_below_drewN | apply below_drew1) | exact HB.out))) : w.heap.size ≤ gb102)); have n3_ := Aside0.mk ((by rw [hg]; exact (below_size (by repeat (first | (with_reducible first | exact HB.out | apply below_alloc | apply pw_below_drewN | apply below_drew1) | exact HB.out))) : w.heap.size ≤ gb102)); clear HB; have HB := n0_; have BK102 := n1_; have GW102 := n2_; have GE102 := n3_; clear n0_ n1_ n2_ n3_; clear hb hbox hg; have hcz14_0 : w13.cell? ⟨gb102, 0, none⟩ = some (.int .i64 0) := (blk_cell BK102.out 0).trans rfl; have hcz14_1 : w13.cell? ⟨gb102, 1, none⟩ = some (.int .i64 0) := (blk_cell BK102.out 1).trans rfl; have hfz14_0 := blk_frozen BK102.out 0; have hfz14_1 := blk_frozen BK102.out 1))
                    (try simp only [Act.put, List.setIfInBounds_toArray, List.set_cons_zero, List.set_cons_succ])
                    go_cut [24] (fun v24 wc => ∃ (kq : Nat) (x24_11 : Bool), v24 = .bool x24_11 ∧ Aside0 (xCheck.j2 kq a1 x5_2 l0 (l0.length : Int) x16_2 x24_11 ((rd_T40 l0 x16_2).f0) ((rd_T40 l0 x16_2).f1) = some r) ∧ Aside0 (kq ≤ k2) ∧ Aside0 (wc.heap[gb102]? = some (.cells #[.int .i64 ((rd_T40 l0 x16_2).f0), .int .i64 ((rd_T40 l0 x16_2).f1)] 40 (0, 0))) ∧ Aside0 (Below w.heap.size w wc))
                    case first =>
                      have H := HC12.out
                      clear HC12
                      by_cases c15 : ((rd_T40 l0 x16_2).f0) < 0
                      · rw [if_pos c15] at H
                        have c15b0 : decide (((rd_T40 l0 x16_2).f0) < 0) = true := decide_eq_true c15
                        clear c15
                        (first | rw [c15b0] | (simp only [i64_w, i32_w]; rw [c15b0]) | skip)
                        have H' := Aside0.mk H
                        clear H
                        have hcz16_0 : w13.cell? ⟨gb102, 0, none⟩ = some (.int .i64 0) := (blk_cell BK102.out 0).trans rfl
                        have hcz16_1 : w13.cell? ⟨gb102, 1, none⟩ = some (.int .i64 0) := (blk_cell BK102.out 1).trans rfl
                        have hfz16_0 := blk_frozen BK102.out 0
                        have hfz16_1 := blk_frozen BK102.out 1
                        go_wp2
                        go_meet
                        case rel => exact ⟨_, (true), (by first | rfl | (simp; done) | (simp [*]; done)), H', ⟨by have := HJ2.out; have := HK2.out; first | omega | exact Nat.le_refl _⟩, ⟨by (with_reducible repeat (first | refine blk_drewN ?_ _ | refine blk_drew ?_ | refine blk_alloc ?_ _)); refine blk_put (cs := #[.int .i64 ((rd_T40 l0 x16_2).f0), .int .i64 0]) ?_ 1 _ rfl; (with_reducible repeat (first | refine blk_drewN ?_ _ | refine blk_drew ?_ | refine blk_alloc ?_ _)); refine blk_put (cs := #[.int .i64 0, .int .i64 0]) ?_ 0 _ rfl; (with_reducible repeat (first | refine blk_drewN ?_ _ | refine blk_drew ?_ | refine blk_alloc ?_ _)); exact BK102.out⟩, ⟨by repeat (first | (with_reducible first | exact HB.out | apply below_alloc | apply pw_below_drewN | apply below_drew1 | refine below_set ?_ GE102.out) | exact HB.out)⟩⟩
                      · rw [if_neg c15] at H
                        have c15b0 : decide (((rd_T40 l0 x16_2).f0) < 0) = false := decide_eq_false c15
                        clear c15
                        (first | rw [c15b0] | (simp only [i64_w, i32_w]; rw [c15b0]) | skip)
                        have H' := Aside0.mk H
                        clear H
                        have hcz17_0 : w13.cell? ⟨gb102, 0, none⟩ = some (.int .i64 0) := (blk_cell BK102.out 0).trans rfl
                        have hcz17_1 : w13.cell? ⟨gb102, 1, none⟩ = some (.int .i64 0) := (blk_cell BK102.out 1).trans rfl
                        have hfz17_0 := blk_frozen BK102.out 0
                        have hfz17_1 := blk_frozen BK102.out 1
                        go_wp2
                        go_meet
                        case rel => exact ⟨_, (decide (((rd_T40 l0 x16_2).f1) > (wrap64 (a1 - ((rd_T40 l0 x16_2).f0))))), (by first | rfl | (simp; done) | (simp [*]; done)), H', ⟨by have := HJ2.out; have := HK2.out; first | omega | exact Nat.le_refl _⟩, ⟨by (with_reducible repeat (first | refine blk_drewN ?_ _ | refine blk_drew ?_ | refine blk_alloc ?_ _)); refine blk_put (cs := #[.int .i64 ((rd_T40 l0 x16_2).f0), .int .i64 0]) ?_ 1 _ rfl; (with_reducible repeat (first | refine blk_drewN ?_ _ | refine blk_drew ?_ | refine blk_alloc ?_ _)); refine blk_put (cs := #[.int .i64 0, .int .i64 0]) ?_ 0 _ rfl; (with_reducible repeat (first | refine blk_drewN ?_ _ | refine blk_drew ?_ | refine blk_alloc ?_ _)); exact BK102.out⟩, ⟨by repeat (first | (with_reducible first | exact HB.out | apply below_alloc | apply pw_below_drewN | apply below_drew1 | refine below_set ?_ GE102.out) | exact HB.out)⟩⟩
                    case rest =>
                      clear HC12
                      try clear c1
                      try clear p1
                      try clear q1
                      try clear hx1
                      try clear p2
                      try clear c4
                      try clear c4b0
                      try clear c5
                      try clear c6
                      try clear c6b0
                      try clear p6
                      try clear c7
                      try clear c7b0
                      try clear c8
                      try clear c8b0
                      try clear c9
                      try clear c9b0
                      try clear p10
                      try clear q10
                      try clear hx10
                      try clear c14
                      try clear c15
                      try clear c15b0
                      try clear hcz11_0
                      try clear hcz11_1
                      try clear hcz14_0
                      try clear hcz14_1
                      try clear hcz16_0
                      try clear hcz16_1
                      try clear hcz17_0
                      try clear hcz17_1
                      try clear hfz11_0
                      try clear hfz11_1
                      try clear hfz14_0
                      try clear hfz14_1
                      try clear hfz16_0
                      try clear hfz16_1
                      try clear hfz17_0
                      try clear hfz17_1
                      try clear hx101_0
                      try clear hx101_1
                      try clear p101
                      try clear p2
                      try clear q101
                      obtain ⟨kq, x24_11, rfl, HA, HJ11, BK102, HB⟩ := hcut
                      cases kq with
                      | zero => exact absurd HA.out (by simp [xCheck.j2])
                      | succ kj11 =>
                        have H := HA.out
                        clear HA
                        simp only [xCheck.j2] at H
                        by_cases c18 : x24_11 = true
                        · subst c18
                          have H1 : (some 2) = some r := by rw [if_pos rfl] at H; exact H
                          clear H
                          have H := H1
                          clear H1
                          obtain rfl := Option.some.inj H
                          go_wp2
                          go_ret
                          exact ⟨by first | rfl | (simp [errW_none, errW_some] <;> rfl) | (simp [*, errW_none, errW_some] <;> rfl), by repeat (first | (with_reducible first | exact HB.out | apply below_alloc | apply pw_below_drewN | apply below_drew1 | refine below_set ?_ GE102.out) | exact HB.out)⟩
                        · replace c18 := Bool.eq_false_iff.mpr c18
                          subst c18
                          have H1 : (if ((rd_T40 l0 x16_2).f0) < x5_2 then (some 3) else (xCheck.l0 kj11 a1 (wrap64 ((wrap64 (((rd_T40 l0 x16_2).f0) + ((rd_T40 l0 x16_2).f1))) + 1)) l0 (l0.length : Int) (wrap64 (x16_2 + 1)))) = some r := by rw [if_neg (show ¬ (false = true) by decide)] at H; exact H
                          clear H
                          have H := H1
                          clear H1
                          by_cases c19 : ((rd_T40 l0 x16_2).f0) < x5_2
                          · rw [if_pos c19] at H
                            have c19b0 : decide (((rd_T40 l0 x16_2).f0) < x5_2) = true := decide_eq_true c19
                            clear c19
                            obtain rfl := Option.some.inj H
                            have hcz20_0 : wc.cell? ⟨gb102, 0, none⟩ = some (.int .i64 ((rd_T40 l0 x16_2).f0)) := (blk_cell BK102.out 0).trans rfl
                            have hcz20_1 : wc.cell? ⟨gb102, 1, none⟩ = some (.int .i64 ((rd_T40 l0 x16_2).f1)) := (blk_cell BK102.out 1).trans rfl
                            have hfz20_0 := blk_frozen BK102.out 0
                            have hfz20_1 := blk_frozen BK102.out 1
                            go_wp2
                            go_ret
                            exact ⟨by first | rfl | (simp [errW_none, errW_some] <;> rfl) | (simp [*, errW_none, errW_some] <;> rfl), by repeat (first | (with_reducible first | exact HB.out | apply below_alloc | apply pw_below_drewN | apply below_drew1 | refine below_set ?_ GE102.out) | exact HB.out)⟩
                          · rw [if_neg c19] at H
                            have c19b0 : decide (((rd_T40 l0 x16_2).f0) < x5_2) = false := decide_eq_false c19
                            clear c19
                            have H' := Aside0.mk H
                            clear H
                            have hcz21_0 : wc.cell? ⟨gb102, 0, none⟩ = some (.int .i64 ((rd_T40 l0 x16_2).f0)) := (blk_cell BK102.out 0).trans rfl
                            have hcz21_1 : wc.cell? ⟨gb102, 1, none⟩ = some (.int .i64 ((rd_T40 l0 x16_2).f1)) := (blk_cell BK102.out 1).trans rfl
                            have hfz21_0 := blk_frozen BK102.out 0
                            have hfz21_1 := blk_frozen BK102.out 1
                            go_wp2
                            go_roundg kj11
                            case measure => have := HJ2.out; have := HK2.out; have := HJ11.out; omega
                            case rel => exact ⟨(wrap64 ((wrap64 (((rd_T40 l0 x16_2).f0) + ((rd_T40 l0 x16_2).f1))) + 1)), (wrap64 (x16_2 + 1)), (by first | rfl | (simp; done) | (simp [*]; done)), (by first | rfl | (simp; done) | (simp [*]; done)), H', ⟨by have := HJ2.out; have := HK2.out; have := HJ11.out; omega⟩, ⟨by repeat (first | (with_reducible first | exact HB.out | apply below_alloc | apply pw_below_drewN | apply below_drew1 | refine below_set ?_ GE102.out) | exact HB.out)⟩⟩
                · rw [if_neg c8] at H
                  exact absurd H (by simp)
              · rw [if_neg c7] at H
                exact absurd H (by simp)
            · rw [if_neg c6] at H
              have c6b0 : decide (x16_2 < (l0.length : Int)) = false := decide_eq_false c6
              clear c6
              obtain rfl := Option.some.inj H
              go_wp2
              go_ret
              exact ⟨by first | rfl | (simp [errW_none, errW_some] <;> rfl) | (simp [*, errW_none, errW_some] <;> rfl), by repeat (first | (with_reducible first | exact HB.out | apply below_alloc | apply pw_below_drewN | apply below_drew1) | exact HB.out)⟩
end Go.Proofs.Yteeedheklnelkaa.P

namespace Go.Proofs.Yteeedheklnelkaa.P
open Go.RowKit Go.Proofs.YteeedheklnelkaaW.PrintWords Go.Proofs.YteeedheklnelkaaW.PrintLast Go.Proofs.YteeedheklnelkaaW.PrintMore
attribute [local go_sem] max2_int min2_int max_two min_two max_three min_three max_four min_four   -- for this text's walks alone
set_option linter.unusedVariables false
set_option linter.unusedSimpArgs false
def xwithin.f (a0_0 : Int) (a0_1 : Int) : Option (Int × Int × Bool) := if a0_1 ≤ 0 then (some (0, 0, false)) else (if a0_0 < 0 then (some (mx a0_0 0, mn (wrap64 (a0_0 + a0_1)) 4096, decide ((mx a0_0 0) < (mn (wrap64 (a0_0 + a0_1)) 4096)))) else (if a0_1 < (wrap64 (4096 - a0_0)) then (some (mx a0_0 0, mn (wrap64 (a0_0 + a0_1)) 4096, decide ((mx a0_0 0) < (mn (wrap64 (a0_0 + a0_1)) 4096)))) else (some (mx a0_0 0, 4096, decide ((mx a0_0 0) < 4096)))))
set_option maxHeartbeats 8000000 in
set_option maxRecDepth 100000 in
theorem xwithin.calls (a0_0 : Int) (a0_1 : Int) (r1 : Int) (r2 : Int) (r3 : Bool) (w : World) (h : xwithin.f a0_0 a0_1 = some (r1, r2, r3)) :
    Calls Try.prog 39 #[.agg #[.int .i64 a0_0, .int .i64 a0_1]] w fun e w' => e = .returned (.tuple #[.int .i64 r1, .int .i64 r2, .bool r3]) ∧ Below w.heap.size w w' := by
  have hu40 := Try.underlying40
  have HB := Aside0.mk (Below.refl w.heap.size w)
  have H : (if a0_1 ≤ 0 then (some (0, 0, false)) else (if a0_0 < 0 then (some (mx a0_0 0, mn (wrap64 (a0_0 + a0_1)) 4096, decide ((mx a0_0 0) < (mn (wrap64 (a0_0 + a0_1)) 4096)))) else (if a0_1 < (wrap64 (4096 - a0_0)) then (some (mx a0_0 0, mn (wrap64 (a0_0 + a0_1)) 4096, decide ((mx a0_0 0) < (mn (wrap64 (a0_0 + a0_1)) 4096)))) else (some (mx a0_0 0, 4096, decide ((mx a0_0 0) < 4096)))))) = some (r1, r2, r3) := h
  clear h
  by_cases c2 : a0_1 ≤ 0
  · rw [if_pos c2] at H
    have c2b0 : decide (a0_1 ≤ 0) = true := decide_eq_true c2
    clear c2
    simp only [Option.some.injEq, Prod.mk.injEq] at H
    obtain ⟨rfl, rfl, rfl⟩ := H
    go_enter Try.func39, Try.ntmps39
    go_wp2_with (first | ((with_reducible refine gate_dst (N := 1) rfl ?_); refine box_event ?hg (N := 1) ?hd (cs := #[.int .i64 a0_0, .int .i64 a0_1]) (t := 40) ?hr ?_; (case hd => rfl); (case hg => rfl); (case hr => first | (go_simp; done) | (go_simp; rfl)); intro gb120 hg w3 hbox hb; have n0_ := Aside0.mk (below_step (by repeat (first | (with_reducible first | exact HB.out | apply below_alloc | apply pw_below_drewN | apply below_drew1) | exact HB.out)) hb); have n1_ := Aside0.mk (hbox); have n2_ := Aside0.mk ((by rw [hg]; exact (below_size (by repeat (first | (with_reducible first | exact HB.out | apply below_alloc | apply pw_below_drewN | apply below_drew1) | exact HB.out))) : w.heap.size ≤ gb120)); have n3_ := Aside0.mk ((by rw [hg]; exact (below_size (by repeat (first | (with_reducible first | exact HB.out | apply below_alloc | apply pw_below_drewN | apply below_drew1) | exact HB.out))) : w.heap.size ≤ gb120)); clear HB; have HB := n0_; have BK120 := n1_; have GW120 := n2_; have GE120 := n3_; clear n0_ n1_ n2_ n3_; clear hb hbox hg; have hcz4_0 : w3.cell? ⟨gb120, 0, none⟩ = some (.int .i64 a0_0) := (blk_cell BK120.out 0).trans rfl; have hcz4_1 : w3.cell? ⟨gb120, 1, none⟩ = some (.int .i64 a0_1) := (blk_cell BK120.out 1).trans rfl; have hfz4_0 := blk_frozen BK120.out 0; have hfz4_1 := blk_frozen BK120.out 1))
    go_ret3
    exact ⟨by first | rfl | (simp [errW_none, errW_some] <;> rfl) | (simp [*, errW_none, errW_some] <;> rfl), by repeat (first | (with_reducible first | exact HB.out | apply below_alloc | apply pw_below_drewN | apply below_drew1 | refine below_set ?_ GE120.out) | exact HB.out)⟩
  · rw [if_neg c2] at H
    have c2b0 : decide (a0_1 ≤ 0) = false := decide_eq_false c2
    clear c2
    obtain ⟨ji5, hji5⟩ : ∃ j_ : Int, (mx a0_0 0) = j_ := ⟨_, rfl⟩
    replace H : (if a0_0 < 0 then (some (ji5, mn (wrap64 (a0_0 + a0_1)) 4096, decide ((ji5) < (mn (wrap64 (a0_0 + a0_1)) 4096)))) else (if a0_1 < (wrap64 (4096 - a0_0)) then (some (ji5, mn (wrap64 (a0_0 + a0_1)) 4096, decide ((ji5) < (mn (wrap64 (a0_0 + a0_1)) 4096)))) else (some (ji5, 4096, decide ((ji5) < 4096))))) = some (r1, r2, r3) := by first | (rw [hji5] at H; exact H) | (simp only [hji5] at H ⊢; exact H)
    (try (have hji5l : 0 ≤ ji5 := by (rw [← hji5]; unfold mx; (repeat' split) <;> omega)))
    (try (have hji5m : 0 ≤ ji5 := by omega))
    have hji5_ : (if a0_0 < 0 then 0 else a0_0) = ji5 := hji5
    by_cases c6 : a0_0 < 0
    · rw [if_pos c6] at H
      have c6b0 : decide (a0_0 < 0) = true := decide_eq_true c6
      clear c6
      obtain ⟨ji7, hji7⟩ : ∃ j_ : Int, (mn (wrap64 (a0_0 + a0_1)) 4096) = j_ := ⟨_, rfl⟩
      replace H : (some (ji5, ji7, decide ((ji5) < (ji7)))) = some (r1, r2, r3) := by first | (rw [hji7] at H; exact H) | (simp only [hji7] at H ⊢; exact H)
      (try (have hji7h : ji7 ≤ 4096 := by (rw [← hji7]; unfold mn; (repeat' split) <;> omega)))
      (try (have hji7g : ji7 ≤ 64 := by omega))
      have hji7_ : (if 4096 < (wrap64 (a0_0 + a0_1)) then 4096 else (wrap64 (a0_0 + a0_1))) = ji7 := hji7
      simp only [Option.some.injEq, Prod.mk.injEq] at H
      obtain ⟨rfl, rfl, rfl⟩ := H
      go_enter Try.func39, Try.ntmps39
      go_wp2_with (first | ((with_reducible refine gate_dst (N := 1) rfl ?_); refine box_event ?hg (N := 1) ?hd (cs := #[.int .i64 a0_0, .int .i64 a0_1]) (t := 40) ?hr ?_; (case hd => rfl); (case hg => rfl); (case hr => first | (go_simp; done) | (go_simp; rfl)); intro gb120 hg w8 hbox hb; have n0_ := Aside0.mk (below_step (by repeat (first | (with_reducible first | exact HB.out | apply below_alloc | apply pw_below_drewN | apply below_drew1) | exact HB.out)) hb); have n1_ := Aside0.mk (hbox); have n2_ := Aside0.mk ((by rw [hg]; exact (below_size (by repeat (first | (with_reducible first | exact HB.out | apply below_alloc | apply pw_below_drewN | apply below_drew1) | exact HB.out))) : w.heap.size ≤ gb120)); have n3_ := Aside0.mk ((by rw [hg]; exact (below_size (by repeat (first | (with_reducible first | exact HB.out | apply below_alloc | apply pw_below_drewN | apply below_drew1) | exact HB.out))) : w.heap.size ≤ gb120)); clear HB; have HB := n0_; have BK120 := n1_; have GW120 := n2_; have GE120 := n3_; clear n0_ n1_ n2_ n3_; clear hb hbox hg; have hcz9_0 : w8.cell? ⟨gb120, 0, none⟩ = some (.int .i64 a0_0) := (blk_cell BK120.out 0).trans rfl; have hcz9_1 : w8.cell? ⟨gb120, 1, none⟩ = some (.int .i64 a0_1) := (blk_cell BK120.out 1).trans rfl; have hfz9_0 := blk_frozen BK120.out 0; have hfz9_1 := blk_frozen BK120.out 1))
      go_ret3
      exact ⟨by first | rfl | (simp [errW_none, errW_some] <;> rfl) | (simp only [← hji5, ← hji7]; first | rfl | (simp [errW_none, errW_some] <;> rfl)) | (simp [*, errW_none, errW_some] <;> rfl), by repeat (first | (with_reducible first | exact HB.out | apply below_alloc | apply pw_below_drewN | apply below_drew1 | refine below_set ?_ GE120.out) | exact HB.out)⟩
    · rw [if_neg c6] at H
      have c6b0 : decide (a0_0 < 0) = false := decide_eq_false c6
      clear c6
      by_cases c10 : a0_1 < (wrap64 (4096 - a0_0))
      · rw [if_pos c10] at H
        have c10b0 : decide (a0_1 < (wrap64 (4096 - a0_0))) = true := decide_eq_true c10
        clear c10
        obtain ⟨ji11, hji11⟩ : ∃ j_ : Int, (mn (wrap64 (a0_0 + a0_1)) 4096) = j_ := ⟨_, rfl⟩
        replace H : (some (ji5, ji11, decide ((ji5) < (ji11)))) = some (r1, r2, r3) := by first | (rw [hji11] at H; exact H) | (simp only [hji11] at H ⊢; exact H)
        (try (have hji11h : ji11 ≤ 4096 := by (rw [← hji11]; unfold mn; (repeat' split) <;> omega)))
        (try (have hji11g : ji11 ≤ 64 := by omega))
        have hji11_ : (if 4096 < (wrap64 (a0_0 + a0_1)) then 4096 else (wrap64 (a0_0 + a0_1))) = ji11 := hji11
        simp only [Option.some.injEq, Prod.mk.injEq] at H
        obtain ⟨rfl, rfl, rfl⟩ := H
        go_enter Try.func39, Try.ntmps39
        go_wp2_with (first | ((with_reducible refine gate_dst (N := 1) rfl ?_); refine box_event ?hg (N := 1) ?hd (cs := #[.int .i64 a0_0, .int .i64 a0_1]) (t := 40) ?hr ?_; (case hd => rfl); (case hg => rfl); (case hr => first | (go_simp; done) | (go_simp; rfl)); intro gb120 hg w12 hbox hb; have n0_ := Aside0.mk (below_step (by repeat (first | (with_reducible first | exact HB.out | apply below_alloc | apply pw_below_drewN | apply below_drew1) | exact HB.out)) hb); have n1_ := Aside0.mk (hbox); have n2_ := Aside0.mk ((by rw [hg]; exact (below_size (by repeat (first | (with_reducible first | exact HB.out | apply below_alloc | apply pw_below_drewN | apply below_drew1) | exact HB.out))) : w.heap.size ≤ gb120)); have n3_ := Aside0.mk ((by rw [hg]; exact (below_size (by repeat (first | (with_reducible first | exact HB.out | apply below_alloc | apply pw_below_drewN | apply below_drew1) | exact HB.out))) : w.heap.size ≤ gb120)); clear HB; have HB := n0_; have BK120 := n1_; have GW120 := n2_; have GE120 := n3_; clear n0_ n1_ n2_ n3_; clear hb hbox hg; have hcz13_0 : w12.cell? ⟨gb120, 0, none⟩ = some (.int .i64 a0_0) := (blk_cell BK120.out 0).trans rfl; have hcz13_1 : w12.cell? ⟨gb120, 1, none⟩ = some (.int .i64 a0_1) := (blk_cell BK120.out 1).trans rfl; have hfz13_0 := blk_frozen BK120.out 0; have hfz13_1 := blk_frozen BK120.out 1))
        go_ret3
        exact ⟨by first | rfl | (simp [errW_none, errW_some] <;> rfl) | (simp only [← hji5, ← hji11]; first | rfl | (simp [errW_none, errW_some] <;> rfl)) | (simp [*, errW_none, errW_some] <;> rfl), by repeat (first | (with_reducible first | exact HB.out | apply below_alloc | apply pw_below_drewN | apply below_drew1 | refine below_set ?_ GE120.out) | exact HB.out)⟩
      · rw [if_neg c10] at H
        have c10b0 : decide (a0_1 < (wrap64 (4096 - a0_0))) = false := decide_eq_false c10
        clear c10
        simp only [Option.some.injEq, Prod.mk.injEq] at H
        obtain ⟨rfl, rfl, rfl⟩ := H
        go_enter Try.func39, Try.ntmps39
        go_wp2_with (first | ((with_reducible refine gate_dst (N := 1) rfl ?_); refine box_event ?hg (N := 1) ?hd (cs := #[.int .i64 a0_0, .int .i64 a0_1]) (t := 40) ?hr ?_; (case hd => rfl); (case hg => rfl); (case hr => first | (go_simp; done) | (go_simp; rfl)); intro gb120 hg w14 hbox hb; have n0_ := Aside0.mk (below_step (by repeat (first | (with_reducible first | exact HB.out | apply below_alloc | apply pw_below_drewN | apply below_drew1) | exact HB.out)) hb); have n1_ := Aside0.mk (hbox); have n2_ := Aside0.mk ((by rw [hg]; exact (below_size (by repeat (first | (with_reducible first | exact HB.out | apply below_alloc | apply pw_below_drewN | apply below_drew1) | exact HB.out))) : w.heap.size ≤ gb120)); have n3_ := Aside0.mk ((by rw [hg]; exact (below_size (by repeat (first | (with_reducible first | exact HB.out | apply below_alloc | apply pw_below_drewN | apply below_drew1) | exact HB.out))) : w.heap.size ≤ gb120)); clear HB; have HB := n0_; have BK120 := n1_; have GW120 := n2_; have GE120 := n3_; clear n0_ n1_ n2_ n3_; clear hb hbox hg; have hcz15_0 : w14.cell? ⟨gb120, 0, none⟩ = some (.int .i64 a0_0) := (blk_cell BK120.out 0).trans rfl; have hcz15_1 : w14.cell? ⟨gb120, 1, none⟩ = some (.int .i64 a0_1) := (blk_cell BK120.out 1).trans rfl; have hfz15_0 := blk_frozen BK120.out 0; have hfz15_1 := blk_frozen BK120.out 1))
        go_ret3
        exact ⟨by first | rfl | (simp [errW_none, errW_some] <;> rfl) | (simp only [← hji5]; first | rfl | (simp [errW_none, errW_some] <;> rfl)) | (simp [*, errW_none, errW_some] <;> rfl), by repeat (first | (with_reducible first | exact HB.out | apply below_alloc | apply pw_below_drewN | apply below_drew1 | refine below_set ?_ GE120.out) | exact HB.out)⟩
end Go.Proofs.Yteeedheklnelkaa.P

namespace Go.Proofs.Yteeedheklnelkaa.P
open Go.RowKit Go.Proofs.YteeedheklnelkaaW.PrintWords Go.Proofs.YteeedheklnelkaaW.PrintLast Go.Proofs.YteeedheklnelkaaW.PrintMore
/-- What a call has made: the blocks that hold its variables. -/
theorem blk_of_below {W W' : World} {g : Nat} {o : Obj} (h : W.heap[g]? = some o) (hb : Below W.heap.size W W') : W'.heap[g]? = some o :=
  (hb.block g (Array.getElem?_eq_some_iff.1 h).1).trans h
/-- The cells of a variable of two. -/
theorem cells2 {W : World} {g : Nat} {a b : Value} {t : TypeId} (h : W.heap[g]? = some (.cells #[a, b] t (0, 0))) : W.cell? ⟨g, 0, none⟩ = some a ∧ W.cell? ⟨g, 1, none⟩ = some b ∧ W.frozen? ⟨g, 0, none⟩ = false ∧ W.frozen? ⟨g, 1, none⟩ = false :=
  ⟨(blk_cell h 0).trans rfl, (blk_cell h 1).trans rfl, blk_frozen h 0, blk_frozen h 1⟩
/-- Three new blocks. -/
theorem new3 (w : World) (o0 o1 o2 : Obj) : ∃ W, ((w.alloc o0).alloc o1).alloc o2 = W ∧ Below w.heap.size w W ∧ W.heap.size = w.heap.size + 1 + 1 + 1 ∧
    W.heap[w.heap.size]? = some o0 ∧ W.heap[w.heap.size + 1]? = some o1 ∧ W.heap[w.heap.size + 1 + 1]? = some o2 := by
  have a : ∀ (W : World) (o : Obj) (k : Nat) (x : Obj), W.heap[k]? = some x → (W.alloc o).heap[k]? = some x := fun W o k x h => (Below.heap_alloc W o k (Array.getElem?_eq_some_iff.1 h).1).trans h
  have n : ∀ (W : World) (o : Obj) (k : Nat), W.heap.size = k → (W.alloc o).heap[k]? = some o := fun W o k h => by rw [← h]; exact heap_alloc_new W o
  refine ⟨_, rfl, below_alloc (below_alloc (below_alloc (Below.refl _ _) _) _) _, by simp, ?_, ?_, ?_⟩
  · exact a _ _ _ _ (a _ _ _ _ (n _ _ _ rfl))
  · exact a _ _ _ _ (n _ _ _ (by simp))
  · exact n _ _ _ (by simp)
/-- What a round keeps that goes on: all that lay below n₀, and the two captured variables. -/
def KpE (n₀ B1 B2 : Nat) (X Y : World) : Prop := Below n₀ X Y ∧ Y.heap[B1]? = X.heap[B1]? ∧ Y.heap[B2]? = X.heap[B2]?
theorem KpE.trans {n₀ B1 B2 : Nat} {X Y Z : World} (h : KpE n₀ B1 B2 X Y) (k : KpE n₀ B1 B2 Y Z) : KpE n₀ B1 B2 X Z := ⟨h.1.trans k.1, k.2.1.trans h.2.1, k.2.2.trans h.2.2⟩
theorem KpE.putObj {n₀ B1 B2 : Nat} {w : World} (hn : n₀ ≤ w.heap.size) (h1 : B1 < w.heap.size) (h2 : B2 < w.heap.size) (W : World) (l : Nat) (o o' : Obj) (hl : w.heap.size ≤ l) (h : W.heap[l]? = some o) (hc : o.isCells = false) (hw : o.isWalk = false) : KpE n₀ B1 B2 W (W.putObj l o') :=
  ⟨belowK_b hn W l o o' hl h hc hw, World.putObj_heap_other (by omega), World.putObj_heap_other (by omega)⟩
theorem row_cell {W : World} {base : Nat} {e : TypeId} {size : Nat} {g n cap k : Nat} {xs : List Value} (h : W.ownsRow base e size (.slice (some ⟨g, 0, none⟩) n cap) k xs) {j : Nat} {u : Value} (hx : xs[j]? = some u) :
    W.cell? ⟨g, j, none⟩ = some u ∧ W.frozen? ⟨g, j, none⟩ = false := by
  have := h.cells (g := g) rfl j u hx
  rw [add_plain] at this
  refine ⟨this, ?_⟩
  rcases h.2 with ⟨h1, _⟩ | ⟨g', cap', cur, h1, _, hg, _⟩
  · cases h1
  · injection h1 with h1 _ _
    injection h1 with h1
    injection h1 with h1 _ _
    subst h1
    simp [World.frozen?, hg]
end Go.Proofs.Yteeedheklnelkaa.P

namespace Go.Proofs.Yteeedheklnelkaa.P
open Go.RowKit Go.Proofs.YteeedheklnelkaaW.PrintWords Go.Proofs.YteeedheklnelkaaW.PrintLast Go.Proofs.YteeedheklnelkaaW.PrintMore
theorem w64 (x : Int) (h0 : -9223372036854775808 ≤ x) (h1 : x ≤ 9223372036854775807) : wrap64 x = x := by unfold wrap64; omega
theorem mx_eq (a b : Int) : mx a b = max a b := by unfold mx; omega
theorem mn_eq (a b : Int) : mn a b = min a b := by unfold mn; omega
/-- The ends of an extent, as far as it lies within the limits, and whether there are any. -/
def wI (e : S40) : Int × Int × Bool := (xwithin.f e.f0 e.f1).getD (0, 0, false)
theorem wI_eq (a b : Int) : xwithin.f a b = some (wI ⟨a, b⟩) := by
  unfold wI
  suffices h : ∃ r, xwithin.f a b = some r by
    obtain ⟨r, h⟩ := h
    simp only
    rw [h]; rfl
  unfold xwithin.f
  repeat' split
  all_goals exact ⟨_, rfl⟩
/-- Does an extent hold a place? -/
def inE (e : S40) (j : Int) : Bool := (wI e).2.2 && decide ((wI e).1 ≤ j ∧ j < (wI e).2.1)
def inL (l : List S40) (j : Int) : Bool := l.any fun e => inE e j
def endsE (i : Int) (e : S40) : List (Int × Int × Int) := if (wI e).2.2 then [((wI e).1, i, 1), ((wI e).2.1, i, -1)] else []
def endsOf (i : Int) (l : List S40) : List (Int × Int × Int) := l.flatMap (endsE i)
theorem endsOf_length (i : Int) (l : List S40) : (endsOf i l).length ≤ 2 * l.length := by
  induction l with
  | nil => simp [endsOf]
  | cons e l ih =>
    unfold endsOf at ih ⊢
    rw [List.flatMap_cons, List.length_append, List.length_cons]
    have : (endsE i e).length ≤ 2 := by unfold endsE; split <;> simp
    omega
theorem endsOf_snoc (i : Int) (l : List S40) (e : S40) : endsOf i (l ++ [e]) = endsOf i l ++ endsE i e := by simp [endsOf]
/-- One element more: it lengthens the last extent, or begins a new one. -/
def joinE (l : List S40) (x : Int) : List S40 :=
  match l.getLast? with
  | some e => if wrap64 (e.f0 + e.f1) = x then l.dropLast ++ [⟨e.f0, wrap64 (e.f1 + 1)⟩] else l ++ [⟨x, 1⟩]
  | none => [⟨x, 1⟩]
/-- The canonical list of the places that satisfy a condition. -/
def canon (p : Nat → Bool) : List S40 := (((List.range 4096).filter p).map fun (b : Nat) => (b : Int)).foldl joinE []
attribute [irreducible] canon
def opX (f : Bool → Bool → Bool) (a b : List S40) : Option (List S40) := if a.length + b.length ≤ 100000 then some (canon fun j => f (inL a j) (inL b j)) else none
def xUnion.f (a b : List S40) : Option (List S40) := opX (fun x y => x || y) a b
def xIntersect.f (a b : List S40) : Option (List S40) := opX (fun x y => x && y) a b
def xSubtract.f (a b : List S40) : Option (List S40) := opX (fun x y => x && !y) a b
def xContains.f (l : List S40) (x : Int) : Option Bool := if l.length ≤ 1000000 then some (inL l x) else none
end Go.Proofs.Yteeedheklnelkaa.P

namespace Go.Proofs.Yteeedheklnelkaa.Canon
/-- From b on: each count is positive, and each extent begins behind the end of the one before, with a gap. -/
def Can : Int → List (Int × Int) → Prop
  | _, [] => True
  | b, e :: r => b ≤ e.1 ∧ 0 < e.2 ∧ Can (e.1 + e.2 + 1) r
def Mem (x : Int) (l : List (Int × Int)) : Prop := ∃ e, e ∈ l ∧ e.1 ≤ x ∧ x < e.1 + e.2
theorem mem_nil (x : Int) : ¬ Mem x [] := by rintro ⟨e, h, _⟩; cases h
theorem mem_cons (x : Int) (e : Int × Int) (l : List (Int × Int)) : Mem x (e :: l) ↔ (e.1 ≤ x ∧ x < e.1 + e.2) ∨ Mem x l := by
  constructor
  · rintro ⟨d, h, h1, h2⟩
    rcases List.mem_cons.1 h with rfl | h
    · exact .inl ⟨h1, h2⟩
    · exact .inr ⟨d, h, h1, h2⟩
  · rintro (h | ⟨d, h, h1, h2⟩)
    · exact ⟨e, List.mem_cons_self, h⟩
    · exact ⟨d, List.mem_cons_of_mem _ h, h1, h2⟩
theorem mem_append (x : Int) (l m : List (Int × Int)) : Mem x (l ++ m) ↔ Mem x l ∨ Mem x m := by
  induction l with
  | nil => simp [mem_nil]
  | cons e l ih => rw [List.cons_append, mem_cons, mem_cons, ih]; exact or_assoc.symm
theorem can_mem_ge {x : Int} : ∀ {b : Int} {l : List (Int × Int)}, Can b l → Mem x l → b ≤ x
  | _, [], _, h => absurd h (mem_nil _)
  | b, e :: r, ⟨h1, h2, h3⟩, h => by
    rcases (mem_cons _ _ _).1 h with h | h
    · omega
    · have := can_mem_ge h3 h; omega
/-- A canonical list is told by its set. -/
theorem can_unique : ∀ {l m : List (Int × Int)} {b c : Int}, Can b l → Can c m → (∀ x, Mem x l ↔ Mem x m) → l = m
  | [], [], _, _, _, _, _ => rfl
  | [], e :: m, _, _, _, ⟨_, h2, _⟩, h => absurd ((h e.1).2 ((mem_cons _ _ _).2 (.inl ⟨by omega, by omega⟩))) (mem_nil _)
  | e :: l, [], _, _, ⟨_, h2, _⟩, _, h => absurd ((h e.1).1 ((mem_cons _ _ _).2 (.inl ⟨by omega, by omega⟩))) (mem_nil _)
  | e :: l, d :: m, _, _, ⟨h1, h2, h3⟩, ⟨k1, k2, k3⟩, h => by
    have gl : ∀ x, Mem x l → e.1 + e.2 + 1 ≤ x := fun x hx => can_mem_ge h3 hx
    have gm : ∀ x, Mem x m → d.1 + d.2 + 1 ≤ x := fun x hx => can_mem_ge k3 hx
    have hs : e.1 = d.1 := by
      have a := (h e.1).1 ((mem_cons _ _ _).2 (.inl ⟨by omega, by omega⟩))
      have b := (h d.1).2 ((mem_cons _ _ _).2 (.inl ⟨by omega, by omega⟩))
      rcases (mem_cons _ _ _).1 a with a | a <;> rcases (mem_cons _ _ _).1 b with b | b
      · omega
      · have := gl _ b; omega
      · have := gm _ a; omega
      · have := gl _ b; have := gm _ a; omega
    have hc : e.2 = d.2 := by
      rcases Int.lt_trichotomy e.2 d.2 with g | g | g
      · have a := (h (e.1 + e.2)).2 ((mem_cons _ _ _).2 (.inl ⟨by omega, by omega⟩))
        rcases (mem_cons _ _ _).1 a with a | a
        · omega
        · have := gl _ a; omega
      · exact g
      · have a := (h (d.1 + d.2)).1 ((mem_cons _ _ _).2 (.inl ⟨by omega, by omega⟩))
        rcases (mem_cons _ _ _).1 a with a | a
        · omega
        · have := gm _ a; omega
    obtain ⟨e1, e2⟩ := e
    obtain ⟨d1, d2⟩ := d
    simp only at hs hc gl gm
    subst hs; subst hc
    have : l = m := can_unique h3 k3 fun x => by
      have := h x
      rw [mem_cons, mem_cons] at this
      constructor
      · intro hx
        have hg := gl x hx
        rcases this.1 (.inr hx) with a | a
        · omega
        · exact a
      · intro hx
        have hg := gm x hx
        rcases this.2 (.inr hx) with a | a
        · omega
        · exact a
    rw [this]
end Go.Proofs.Yteeedheklnelkaa.Canon

namespace Go.Proofs.Yteeedheklnelkaa.P
open Go.RowKit
def Asc : Int → List S40 → Prop
  | _, [] => True
  | p, e :: l => p < e.f0 ∧ 1 ≤ e.f1 ∧ Asc (e.f0 + e.f1) l
def endL : Int → List S40 → Int
  | p, [] => p
  | _, e :: l => endL (e.f0 + e.f1) l
/-- Does a list cover a place? -/
def Cov (l : List S40) (t : Int) : Prop := ∃ e ∈ l, e.f0 ≤ t ∧ t < e.f0 + e.f1
theorem cov_nil (t : Int) : ¬ Cov [] t := by rintro ⟨e, h, _⟩; cases h
theorem cov_cons (e : S40) (l : List S40) (t : Int) : Cov (e :: l) t ↔ (e.f0 ≤ t ∧ t < e.f0 + e.f1) ∨ Cov l t := by
  constructor
  · rintro ⟨d, h, h1⟩
    rcases List.mem_cons.1 h with rfl | h
    · exact .inl h1
    · exact .inr ⟨d, h, h1⟩
  · rintro (h | ⟨d, h, h1⟩)
    · exact ⟨e, List.mem_cons_self, h⟩
    · exact ⟨d, List.mem_cons_of_mem _ h, h1⟩
theorem cov_snoc (l : List S40) (e : S40) (t : Int) : Cov (l ++ [e]) t ↔ Cov l t ∨ (e.f0 ≤ t ∧ t < e.f0 + e.f1) := by
  constructor
  · rintro ⟨d, h, h1⟩
    rcases List.mem_append.1 h with h | h
    · exact .inl ⟨d, h, h1⟩
    · rw [List.mem_singleton] at h; subst h; exact .inr h1
  · rintro (⟨d, h, h1⟩ | h)
    · exact ⟨d, List.mem_append_left _ h, h1⟩
    · exact ⟨e, by simp, h⟩
def pr (e : S40) : Int × Int := (e.f0, e.f1)
theorem asc_can : ∀ (l : List S40) (p : Int), Asc p l → Canon.Can (p + 1) (l.map pr)
  | [], _, _ => trivial
  | e :: l, p, ⟨h1, h2, h3⟩ => ⟨by show p + 1 ≤ e.f0; omega, by show 0 < e.f1; omega, asc_can l _ h3⟩
theorem cov_mem (l : List S40) (t : Int) : Canon.Mem t (l.map pr) ↔ Cov l t := by
  constructor
  · rintro ⟨d, h, h1, h2⟩
    rw [List.mem_map] at h
    obtain ⟨e, he, rfl⟩ := h
    exact ⟨e, he, h1, h2⟩
  · rintro ⟨e, he, h1, h2⟩
    exact ⟨pr e, List.mem_map.2 ⟨e, he, rfl⟩, h1, h2⟩
theorem map_pr_inj : ∀ {l m : List S40}, l.map pr = m.map pr → l = m
  | [], [], _ => rfl
  | [], _ :: _, h => by simp at h
  | _ :: _, [], h => by simp at h
  | a :: l, b :: m, h => by
    rw [List.map_cons, List.map_cons, List.cons.injEq] at h
    obtain ⟨a0, a1⟩ := a
    obtain ⟨b0, b1⟩ := b
    simp only [pr, Prod.mk.injEq] at h
    rw [h.1.1, h.1.2, map_pr_inj h.2]
/-- A canonical list is told by what it covers. -/
theorem asc_unique {l m : List S40} {p q : Int} (hl : Asc p l) (hm : Asc q m) (h : ∀ t, Cov l t ↔ Cov m t) : l = m := by
  have := Canon.can_unique (asc_can l p hl) (asc_can m q hm) (fun t => by rw [cov_mem, cov_mem]; exact h t)
  exact map_pr_inj this
theorem endL_snoc (e : S40) : ∀ (L : List S40) p, endL p (L ++ [e]) = e.f0 + e.f1
  | [], _ => rfl
  | x :: L, p => by rw [List.cons_append, endL, endL_snoc e L]
theorem asc_snoc (e : S40) : ∀ (L : List S40) p, Asc p (L ++ [e]) ↔ Asc p L ∧ endL p L < e.f0 ∧ 1 ≤ e.f1
  | [], p => by simp [Asc, endL]
  | x :: L, p => by
    rw [List.cons_append, Asc, Asc, endL, asc_snoc e L]
    constructor
    · rintro ⟨a, b, c, d⟩; exact ⟨⟨a, b, c⟩, d⟩
    · rintro ⟨⟨a, b, c⟩, d⟩; exact ⟨a, b, c, d⟩
theorem joinE_nil (x : Int) : joinE [] x = [⟨x, 1⟩] := rfl
theorem joinE_snoc (L : List S40) (e : S40) (x : Int) : joinE (L ++ [e]) x = if wrap64 (e.f0 + e.f1) = x then L ++ [⟨e.f0, wrap64 (e.f1 + 1)⟩] else (L ++ [e]) ++ [⟨x, 1⟩] := by
  unfold joinE
  rw [List.getLast?_concat, List.dropLast_concat]
theorem joinE_len (l : List S40) (x : Int) : (joinE l x).length ≤ l.length + 1 := by
  rcases l.eq_nil_or_concat with h | ⟨L, e, h⟩
  · subst h; simp [joinE_nil]
  · rw [List.concat_eq_append] at h
    subst h
    rw [joinE_snoc]
    split <;> simp
theorem fold_len (xs : List Int) : ∀ l, (xs.foldl joinE l).length ≤ l.length + xs.length := by
  induction xs with
  | nil => intro l; simp
  | cons x xs ih => intro l; rw [List.foldl_cons]; have := ih (joinE l x); have := joinE_len l x; simp only [List.length_cons]; omega
theorem canon_length (p : Nat → Bool) : (canon p).length ≤ 5000 := by
  unfold canon
  have h := fold_len (((List.range 4096).filter p).map fun (b : Nat) => (b : Int)) []
  have h2 := List.length_filter_le p (List.range 4096)
  rw [List.length_range] at h2
  rw [List.length_map] at h
  simp only [List.length_nil] at h
  omega
structure Joined (B : Nat) (xs : List Nat) (L : List S40) : Prop where
  asc : Asc (-1) L
  cover : ∀ t : Int, Cov L t ↔ ∃ j ∈ xs, t = (j : Int)
  last : L = [] ∧ xs = [] ∨ ∃ x ∈ xs, endL (-1) L = x + 1
  bound : ∀ e ∈ L, 0 ≤ e.f0 ∧ 1 ≤ e.f1 ∧ e.f0 + e.f1 ≤ B
theorem joined_snoc {B : Nat} (hB : B ≤ 1000000) {xs : List Nat} {L : List S40} (h : Joined B xs L) {x : Nat} (hx : ∀ y ∈ xs, y < x) (hxB : x < B) : Joined B (xs ++ [x]) (joinE L x) := by
  have hmem : ∀ t : Int, (∃ j ∈ xs ++ [x], t = (j : Int)) ↔ (∃ j ∈ xs, t = (j : Int)) ∨ t = x := fun t => by
    constructor
    · rintro ⟨j, hj, rfl⟩
      rcases List.mem_append.1 hj with hj | hj
      · exact .inl ⟨j, hj, rfl⟩
      · rw [List.mem_singleton] at hj; subst hj; exact .inr rfl
    · rintro (⟨j, hj, rfl⟩ | rfl)
      · exact ⟨j, List.mem_append_left _ hj, rfl⟩
      · exact ⟨x, by simp, rfl⟩
  rcases L.eq_nil_or_concat with h0 | ⟨M, e, h0⟩
  · subst h0
    have hxs : xs = [] := by
      rcases h.last with ⟨_, h1⟩ | ⟨y, hy, h1⟩
      · exact h1
      · exact absurd ((h.cover y).2 ⟨y, hy, rfl⟩) (cov_nil _)
    subst hxs
    rw [joinE_nil]
    refine ⟨⟨by simp only; omega, by simp only; omega, trivial⟩, fun t => ?_, .inr ⟨x, by simp, rfl⟩, ?_⟩
    · rw [hmem, cov_cons]
      constructor
      · rintro (h1 | h1)
        · right; simp only at h1; omega
        · exact absurd h1 (cov_nil _)
      · rintro (⟨j, hj, _⟩ | h1)
        · cases hj
        · left; simp only; omega
    · intro e he
      rw [List.mem_singleton] at he
      subst he
      simp only; omega
  · rw [List.concat_eq_append] at h0
    subst h0
    obtain ⟨y, hy, hend⟩ : ∃ y ∈ xs, endL (-1) (M ++ [e]) = y + 1 := by
      rcases h.last with ⟨h1, _⟩ | h1
      · simp at h1
      · exact h1
    rw [endL_snoc] at hend
    have hyx := hx y hy
    have hbe := h.bound e (by simp)
    have hasc := (asc_snoc e M (-1)).1 h.asc
    rw [joinE_snoc, w64 (e.f0 + e.f1) (by omega) (by omega)]
    by_cases hj : e.f0 + e.f1 = x
    · rw [if_pos hj, w64 (e.f1 + 1) (by omega) (by omega)]
      refine ⟨(asc_snoc _ M (-1)).2 ⟨hasc.1, hasc.2.1, by simp only; omega⟩, fun t => ?_, .inr ⟨x, by simp, ?_⟩, ?_⟩
      · rw [hmem, ← h.cover t, cov_snoc, cov_snoc]
        simp only
        constructor
        · rintro (h1 | h1)
          · exact .inl (.inl h1)
          · by_cases ht : t = x
            · exact .inr ht
            · exact .inl (.inr ⟨by omega, by omega⟩)
        · rintro ((h1 | h1) | h1)
          · exact .inl h1
          · exact .inr ⟨by omega, by omega⟩
          · exact .inr ⟨by omega, by omega⟩
      · rw [endL_snoc]; simp only; omega
      · intro e' he'
        rcases List.mem_append.1 he' with he' | he'
        · exact h.bound e' (List.mem_append_left _ he')
        · rw [List.mem_singleton] at he'
          subst he'
          simp only; omega
    · rw [if_neg hj]
      refine ⟨(asc_snoc _ _ (-1)).2 ⟨h.asc, by rw [endL_snoc]; simp only; omega, by simp only; omega⟩, fun t => ?_, .inr ⟨x, by simp, by rw [endL_snoc]⟩, ?_⟩
      · rw [hmem, cov_snoc, h.cover t]
        simp only
        constructor
        · rintro (h1 | h1)
          · exact .inl h1
          · exact .inr (by omega)
        · rintro (h1 | h1)
          · exact .inl h1
          · exact .inr ⟨by omega, by omega⟩
      · intro e' he'
        rcases List.mem_append.1 he' with he' | he'
        · exact h.bound e' he'
        · rw [List.mem_singleton] at he'
          subst he'
          simp only; omega
theorem joined_fold {B : Nat} (hB : B ≤ 1000000) : ∀ (ys xs : List Nat) (L : List S40), Joined B xs L → (xs ++ ys).Pairwise (· < ·) → (∀ y ∈ ys, y < B) → Joined B (xs ++ ys) ((ys.map fun (b : Nat) => (b : Int)).foldl joinE L)
  | [], xs, L, h, _, _ => by simpa using h
  | y :: ys, xs, L, h, hp, hb => by
    rw [List.map_cons, List.foldl_cons]
    have e : xs ++ y :: ys = (xs ++ [y]) ++ ys := by simp
    rw [e] at hp ⊢
    refine joined_fold hB ys (xs ++ [y]) _ (joined_snoc hB h ?_ (hb y List.mem_cons_self)) hp (fun z hz => hb z (List.mem_cons_of_mem _ hz))
    intro z hz
    have := (List.pairwise_append.1 hp).1
    exact (List.pairwise_append.1 this).2.2 z hz y (by simp)
def canonN (N : Nat) (p : Nat → Bool) : List S40 := (((List.range N).filter p).map fun (b : Nat) => (b : Int)).foldl joinE []
theorem canon_eq (p : Nat → Bool) : canon p = canonN 4096 p := by unfold canon canonN; rfl
theorem canonN_joined (N : Nat) (hN : N ≤ 1000000) (p : Nat → Bool) : Joined N ((List.range N).filter p) (canonN N p) :=
  joined_fold (B := N) hN ((List.range N).filter p) [] [] ⟨trivial, fun t => ⟨fun h => absurd h (cov_nil _), fun ⟨j, hj, _⟩ => by cases hj⟩, .inl ⟨rfl, rfl⟩, fun _ h => by cases h⟩
    (by rw [List.nil_append]; exact List.Pairwise.filter _ List.pairwise_lt_range) (fun y hy => List.mem_range.1 (List.mem_filter.1 hy).1)
theorem canonN_congr (N : Nat) {p q : Nat → Bool} (h : ∀ j, j < N → p j = q j) : canonN N p = canonN N q := by
  unfold canonN
  rw [List.filter_congr fun j hj => h j (List.mem_range.1 hj)]
attribute [irreducible] canonN
theorem canonN_cov (N : Nat) (hN : N ≤ 1000000) (p : Nat → Bool) (t : Int) : Cov (canonN N p) t ↔ 0 ≤ t ∧ t < N ∧ p t.toNat = true := by
  rw [(canonN_joined N hN p).cover]
  constructor
  · rintro ⟨j, hj, rfl⟩
    rw [List.mem_filter, List.mem_range] at hj
    exact ⟨by omega, by omega, by rw [Int.toNat_natCast]; exact hj.2⟩
  · rintro ⟨h1, h2, h3⟩
    exact ⟨t.toNat, List.mem_filter.2 ⟨List.mem_range.2 (by omega), h3⟩, by omega⟩
theorem canon_asc (p : Nat → Bool) : Asc (-1) (canon p) := by
  have h := canonN_joined 4096 (by omega) p
  have h2 := h.asc
  have h3 := canon_eq p
  generalize canonN 4096 p = L at h2 h3
  rw [h3]
  exact h2
theorem canon_bound (p : Nat → Bool) : ∀ e ∈ canon p, 0 ≤ e.f0 ∧ 1 ≤ e.f1 ∧ e.f0 + e.f1 ≤ 4096 := by
  intro e he
  rw [canon_eq] at he
  have := (canonN_joined 4096 (by omega) p).bound e he
  omega
theorem canon_cov (p : Nat → Bool) (t : Int) : Cov (canon p) t ↔ 0 ≤ t ∧ t < 4096 ∧ p t.toNat = true := by
  have := canonN_cov 4096 (by omega) p t
  rw [canon_eq, this]
  have e : ((4096 : Nat) : Int) = 4096 := by omega
  rw [e]
/-- Whoever is ascending and covers what is asked is the canonical list. -/
theorem canon_of {p : Nat → Bool} {l : List S40} {q : Int} (hl : Asc q l) (h : ∀ t, Cov l t ↔ 0 ≤ t ∧ t < 4096 ∧ p t.toNat = true) : l = canon p :=
  asc_unique hl (canon_asc p) (fun t => (h t).trans (canon_cov p t).symm)
theorem canon_congr {p q : Nat → Bool} (h : ∀ j, j < 4096 → p j = q j) : canon p = canon q := by rw [canon_eq, canon_eq, canonN_congr 4096 h]
end Go.Proofs.Yteeedheklnelkaa.P

namespace Go.Proofs.Yteeedheklnelkaa.P
open Go.Shelf
def sortEnd_ren : Go.Shelf.Ren := ⟨fun | 6 => 50 | 15 => 54 | 14 => 53 | 28 => 64 | 29 => 65 | 20 => 56 | 21 => 57 | 22 => 58 | 23 => 59 | 24 => 60 | 25 => 61 | 26 => 62 | 27 => 63 | 46 => 66 | 47 => 67 | 48 => 68 | 49 => 69 | 50 => 70 | 57 => 71 | n => n, fun | 22 => 63 | 24 => 67 | 25 => 71 | 3 => 3 | 39 => 74 | 0 => 0 | 53 => 85 | 55 => 87 | 4 => 4 | 46 => 78 | 45 => 77 | 50 => 82 | 5 => 5 | 9 => 9 | 66 => 88 | 70 => 92 | 76 => 94 | 77 => 95 | n => n, fun | n => n⟩
theorem sortEnd : Go.Proofs.SlLaysF0.n6 Try.prog sortEnd_ren := {
  mixed := by kernel_rfl
  f6 := ⟨Try.f50.name, by decide, Try.func50.trans (congrArg some (by kernel_rfl))⟩
  f14 := ⟨Try.f53.name, by decide, Try.func53.trans (congrArg some (by kernel_rfl))⟩
  f15 := Try.func54.trans (congrArg some (by kernel_rfl))
  f20 := ⟨Try.f56.name, by decide, Try.func56.trans (congrArg some (by kernel_rfl))⟩
  f21 := ⟨Try.f57.name, by decide, Try.func57.trans (congrArg some (by kernel_rfl))⟩
  f22 := ⟨Try.f58.name, by decide, Try.func58.trans (congrArg some (by kernel_rfl))⟩
  f23 := ⟨Try.f59.name, by decide, Try.func59.trans (congrArg some (by kernel_rfl))⟩
  f24 := ⟨Try.f60.name, by decide, Try.func60.trans (congrArg some (by kernel_rfl))⟩
  f25 := ⟨Try.f61.name, by decide, Try.func61.trans (congrArg some (by kernel_rfl))⟩
  f26 := ⟨Try.f62.name, by decide, Try.func62.trans (congrArg some (by kernel_rfl))⟩
  f27 := ⟨Try.f63.name, by decide, Try.func63.trans (congrArg some (by kernel_rfl))⟩
  f28 := Try.func64.trans (congrArg some (by kernel_rfl))
  f29 := Try.func65.trans (congrArg some (by kernel_rfl))
  f46 := ⟨Try.f66.name, by decide, Try.func66.trans (congrArg some (by kernel_rfl))⟩
  f47 := Try.func67.trans (congrArg some (by kernel_rfl))
  f48 := Try.func68.trans (congrArg some (by kernel_rfl))
  f49 := ⟨Try.f69.name, by decide, Try.func69.trans (congrArg some (by kernel_rfl))⟩
  f50 := ⟨Try.f70.name, by decide, Try.func70.trans (congrArg some (by kernel_rfl))⟩
  f57 := ⟨Try.f71.name, by decide, Try.func71.trans (congrArg some (by kernel_rfl))⟩
  t0 := Try.underlying0
  a0 := Try.isAgg0
  z0 := Try.sizeOf0
  v0 := Try.zeroValue0
  t3 := Try.underlying3
  a3 := Try.isAgg3
  z3 := Try.sizeOf3
  v3 := Try.zeroValue3
  t4 := Try.underlying4
  a4 := Try.isAgg4
  z4 := Try.sizeOf4
  v4 := Try.zeroValue4
  t5 := Try.underlying5
  a5 := Try.isAgg5
  z5 := Try.sizeOf5
  v5 := Try.zeroValue5
  t9 := Try.underlying9
  a9 := Try.isAgg9
  z9 := Try.sizeOf9
  v9 := Try.zeroValue9
  t22 := Try.underlying63
  a22 := Try.isAgg63
  z22 := Try.sizeOf63
  v22 := Try.zeroValue63
  t25 := Try.underlying71
  a25 := Try.isAgg71
  z25 := Try.sizeOf71
  v25 := Try.zeroValue71
  t39 := Try.underlying74
  a39 := Try.isAgg74
  z39 := Try.sizeOf74
  v39 := Try.zeroValue74
  t45 := Try.underlying77
  a45 := Try.isAgg77
  z45 := Try.sizeOf77
  v45 := Try.zeroValue77
  t46 := Try.underlying78
  a46 := Try.isAgg78
  z46 := Try.sizeOf78
  v46 := Try.zeroValue78
  t50 := Try.underlying82
  a50 := Try.isAgg82
  z50 := Try.sizeOf82
  v50 := Try.zeroValue82
  t53 := Try.underlying85
  a53 := Try.isAgg85
  z53 := Try.sizeOf85
  v53 := Try.zeroValue85
  t55 := Try.underlying87
  a55 := Try.isAgg87
  z55 := Try.sizeOf87
  v55 := Try.zeroValue87
  t66 := Try.underlying88
  a66 := Try.isAgg88
  z66 := Try.sizeOf88
  v66 := Try.zeroValue88
  t70 := Try.underlying92
  a70 := Try.isAgg92
  z70 := Try.sizeOf92
  v70 := Try.zeroValue92
  t76 := Try.underlying94
  a76 := Try.isAgg94
  z76 := Try.sizeOf94
  v76 := Try.zeroValue94
  t77 := Try.underlying95
  a77 := Try.isAgg95
  z77 := Try.sizeOf95
  v77 := Try.zeroValue95 }
def cmpInt_ren : Go.Shelf.Ren := ⟨fun | 5 => 52 | 7 => 55 | n => n, fun | 22 => 3 | 3 => 3 | 4 => 4 | n => n, fun | n => n⟩
theorem cmpInt : Go.Proofs.SlLaysC2.n5 Try.prog cmpInt_ren := {
  mixed := by kernel_rfl
  f5 := ⟨Try.f52.name, by decide, Try.func52.trans (congrArg some (by kernel_rfl))⟩
  f7 := ⟨Try.f55.name, by decide, Try.func55.trans (congrArg some (by kernel_rfl))⟩
  t3 := Try.underlying3
  a3 := Try.isAgg3
  z3 := Try.sizeOf3
  v3 := Try.zeroValue3
  t4 := Try.underlying4
  a4 := Try.isAgg4
  z4 := Try.sizeOf4
  v4 := Try.zeroValue4
  t22 := Try.underlying3
  a22 := Try.isAgg3
  z22 := Try.sizeOf3
  v22 := Try.zeroValue3 }
end Go.Proofs.Yteeedheklnelkaa.P

namespace Go.Proofs.Yteeedheklnelkaa.P
open Go.RowKit Go.Shelf
/-- The cells of an end. -/
def encE (x : Int × Int × Int) : List Value := [.int .i64 x.1, .int .i64 x.2.1, .int .i64 x.2.2]
def flatE (l : List (Int × Int × Int)) : List Value := l.flatMap encE
theorem flatE_append (l m : List (Int × Int × Int)) : flatE (l ++ m) = flatE l ++ flatE m := by simp [flatE]
theorem flatE_length (l : List (Int × Int × Int)) : (flatE l).length = l.length * 3 := by induction l with | nil => rfl | cons a l ih => simp [flatE, encE] at ih ⊢; omega
theorem flatE_get (l : List (Int × Int × Int)) (i j : Nat) (hi : i < l.length) (hj : j < 3) : (flatE l)[i * 3 + j]? = (encE l[i])[j]? := by
  induction l generalizing i with
  | nil => simp at hi
  | cons a l ih =>
    cases i with
    | zero =>
      rw [Nat.zero_mul, Nat.zero_add]
      show (encE a ++ flatE l)[j]? = _
      rw [List.getElem?_append_left (by simp [encE]; omega)]
      rfl
    | succ i =>
      show (encE a ++ flatE l)[(i + 1) * 3 + j]? = _
      rw [List.getElem?_append_right (by simp [encE]; omega)]
      have : (i + 1) * 3 + j - (encE a).length = i * 3 + j := by simp [encE]; omega
      rw [this, ih i (by simpa using hi)]
      simp
set_option maxHeartbeats 1000000 in
theorem cmp_ends (x y : Int × Int × Int) (W : World) : Calls Try.prog 51 #[.agg #[.int .i64 x.1, .int .i64 x.2.1, .int .i64 x.2.2], .agg #[.int .i64 y.1, .int .i64 y.2.1, .int .i64 y.2.2]] W fun e w' => e = .returned (.int .i64 (Lib.compareInt x.1 y.1)) ∧ ∃ q os', w' = Sort.grow (W.drewN q) os' := by
  have hcon := fun W' => AnyG.cmp_Compare_int cmpInt x.1 y.1 W'
  change ∀ W', Calls Try.prog 52 _ _ _ at hcon
  generalize Lib.compareInt x.1 y.1 = r at hcon ⊢
  go_enter Try.func51, Try.ntmps51
  go_wp2_with (go_at_call 52; refine (hcon _).mono ?_; rintro e w' ⟨rfl, rfl⟩)
  go_ret
  exact ⟨rfl, 0, _, by rw [Sort.alloc_eq_grow, Sort.alloc_eq_grow, Sort.grow_grow]; rfl⟩
theorem ltAt (x y : Int × Int × Int) : ltOf (fun x y : Int × Int × Int => Lib.compareInt x.1 y.1) x y = decide (x.1 < y.1) := by
  unfold ltOf Lib.compareInt
  by_cases h1 : x.1 < y.1
  · simp [h1]
  · by_cases h2 : y.1 < x.1 <;> simp [h1, h2]
theorem swoAt : Sort.SWO (ltOf fun x y : Int × Int × Int => Lib.compareInt x.1 y.1) where
  irrefl x := by rw [ltAt]; simp
  trans x y z h1 h2 := by rw [ltAt] at *; simp at *; omega
  ntrans x y z h1 h2 := by rw [ltAt] at *; simp at *; omega
theorem flatK_flatE (d : List (Int × Int × Int)) : (Sort.flatK encE 3 d.toArray) = (flatE d).toArray := by
  refine Sort.ext_get! (by simp [flatE_length]) fun t ht => ?_
  have ht' : t < d.length * 3 := by simpa using ht
  rw [Sort.get_flatK _ _ _ _ (by simpa using ht')]
  have h1 : t / 3 < d.length := by omega
  have h2 := flatE_get d (t / 3) (t % 3) h1 (by omega)
  rw [show t / 3 * 3 + t % 3 = t by omega] at h2
  have e1 : d.toArray[t / 3]! = d[t / 3] := by simp [h1]
  rw [e1]
  have h3 : t % 3 < (encE d[t / 3]).length := by simp [encE]; omega
  have h4 : t < (flatE d).length := by rw [flatE_length]; exact ht'
  rw [List.getElem?_eq_getElem h4, List.getElem?_eq_getElem h3] at h2
  simp only [Option.some.injEq] at h2
  simp [h3, h4, h2]
/-- What is read of a row of ends. -/
def EndsAt (w : World) (g : Nat) (d : List (Int × Int × Int)) : Prop := ∀ j u, (flatE d)[j]? = some u → w.cell? ⟨g, j, none⟩ = some u ∧ w.frozen? ⟨g, j, none⟩ = false
theorem holds_ends {w : World} {g : Nat} {d : List (Int × Int × Int)} : Sort.HoldsK encE 3 w g 0 d.toArray ↔ EndsAt w g d := by
  unfold Sort.HoldsK Sort.Holds EndsAt
  rw [flatK_flatE]
  constructor
  · intro h j u hu
    have hj := (List.getElem?_eq_some_iff.1 hu).1
    have := h j (by simpa using hj)
    have e : (flatE d).toArray[j]! = u := by
      rw [List.getElem?_eq_getElem hj] at hu
      simp only [Option.some.injEq] at hu
      simp [hj, hu]
    rw [e, Nat.zero_add] at this
    exact this
  · intro h j hj
    have hj' : j < (flatE d).length := by simpa using hj
    have := h j _ (List.getElem?_eq_getElem hj')
    rw [Nat.zero_add]
    simpa [hj'] using this
theorem perm_of {d d' : Array (Int × Int × Int)} (h : Sort.PermIn 0 d.size d d') : d'.toList.Perm d.toList := by
  obtain ⟨h1, _, h3⟩ := h
  have e1 : d'.extract 0 d.size = d' := by rw [← h1]; simp
  have e2 : d.extract 0 d.size = d := by simp
  rw [e1, e2] at h3
  exact h3
theorem heap_mapBlock (w : World) (g k : Nat) (f : Array Value → Array Value) (h : k ≠ g) : (Sort.mapBlock w g f).heap[k]? = w.heap[k]? := by
  simp [Sort.mapBlock, Array.getElem?_modify, Ne.symm h]
theorem typed_mapBlock (w : World) (g : Nat) (f : Array Value → Array Value) {cs : Array Value} {t : TypeId} (h : w.heap[g]? = some (.cells cs t (0, 0))) : ∃ cs, (Sort.mapBlock w g f).heap[g]? = some (.cells cs t (0, 0)) := by
  refine ⟨f cs, ?_⟩
  unfold Sort.mapBlock
  simp only [Array.getElem?_modify, if_pos trivial]
  rw [h]
  rfl
/-- slices.SortFunc of the ends. -/
theorem sort_ends (g cap : Nat) (d : List (Int × Int × Int)) (w : World) (hH : EndsAt w g d) (hg : g < w.heap.size) (cs : Array Value) (hT : w.heap[g]? = some (.cells cs 67 (0, 0))) (hs : d.length < 4611686018427387904) :
    Calls Try.prog 50 #[.slice (some ⟨g, 0, none⟩) d.length cap, .func (.func 51) #[] #[]] w fun e w' => e = .returned (.tuple #[]) ∧
      ∃ d', List.Perm d' d ∧ d'.Pairwise (fun x y => x.1 ≤ y.1) ∧ EndsAt w' g d' ∧ (∃ cs, w'.heap[g]? = some (.cells cs 67 (0, 0))) ∧ (∀ k, k < w.heap.size → k ≠ g → w'.heap[k]? = w.heap[k]?) ∧ w.heap.size ≤ w'.heap.size ∧ w'.os = w.os ∧ w'.tape = w.tape ∧ w'.output = w.output := by
  have eg : ∀ args w, (callFunc 51 args).run Try.prog w = .ok (.enter 51 args) w := enters_of Try.func51 (by kernel_rfl) rfl
  have hcon := AnyQ.slices_SortFunc sortEnd 3 Try.isAgg67 Try.sizeOf67 encE (fun _ => rfl) (fun x v hv => by simp [encE] at hv; rcases hv with rfl | rfl | rfl <;> rfl) (fun x y => Lib.compareInt x.1 y.1) swoAt 51 #[] g 0 cap d.toArray w eg
    (fun _ _ _ _ x y => cmp_ends x y _) (holds_ends.2 hH) hg (by simpa using hs)
  refine hcon.mono ?_
  rintro e w' ⟨rfl, d', n, os, hp, hso, rfl⟩
  have hl := perm_of hp
  have hsz : d'.size = d.length := hp.1.trans (by simp)
  have hW : ∀ k, k < w.heap.size → k ≠ g → (sortWorldK encE 3 w g 0 n d' os).heap[k]? = w.heap[k]? := fun k hk hne => by
    unfold sortWorldK
    rw [Sort.heap_grow_old _ _ (by simpa [Sort.putRowK] using hk)]
    unfold Sort.putRowK Sort.putRow
    rw [heap_mapBlock _ _ _ _ hne]
    rfl
  refine ⟨rfl, d'.toList, hl, ?_, ?_, ?_, hW, ?_, rfl, rfl, rfl⟩
  · rw [List.pairwise_iff_getElem]
    intro i j hi hj hij
    have := hso i j (Nat.zero_le _) hij (by simpa using (show j < d.length by rw [← hsz]; simpa using hj))
    rw [ltAt, decide_eq_false_iff_not] at this
    have e1 : d'[i]! = d'.toList[i] := by simp [show i < d'.size by simpa using hi]
    have e2 : d'[j]! = d'.toList[j] := by simp [show j < d'.size by simpa using hj]
    rw [e1, e2] at this
    omega
  · rw [← holds_ends]
    unfold sortWorldK
    refine Sort.holdsK_grow (enc := encE) (k := 3) _ _ _ _ _ (by simpa [Sort.putRowK] using hg) ?_
    have h0 : Sort.Holds id (Sort.ahead w n) g 0 (Sort.flatK encE 3 d.toArray) := Sort.holdsK_ahead (enc := encE) (k := 3) w n g 0 d.toArray (holds_ends.2 hH)
    exact Sort.holds_putRow id _ g 0 _ _ h0 (by simp [hsz])
  · unfold sortWorldK
    rw [Sort.heap_grow_old _ _ (by simpa [Sort.putRowK] using hg)]
    unfold Sort.putRowK Sort.putRow
    exact typed_mapBlock _ _ _ hT
  · unfold sortWorldK
    rw [Sort.size_grow]
    simp [Sort.putRowK]
/-- A slice of ends that is read. -/
def EndsV (w : World) (base : Nat) (v : Value) (d : List (Int × Int × Int)) : Prop := ∃ A c, v = .slice A d.length c ∧ d.length ≤ c ∧ (0 < d.length → ∃ g, A = some ⟨g, 0, none⟩ ∧ base ≤ g ∧ g < w.heap.size ∧ EndsAt w g d ∧ ∃ cs, w.heap[g]? = some (.cells cs 67 (0, 0)))
/-- slices.SortFunc of a row of ends of the call's own, empty or not. -/
theorem sort_row (base : Nat) (v : Value) (d : List (Int × Int × Int)) (w : World) (ho : w.ownsRow base 67 3 v d.length (flatE d)) (hb : base ≤ w.heap.size) (hs : d.length < 4611686018427387904) :
    Calls Try.prog 50 #[v, .func (.func 51) #[] #[]] w fun e w' => e = .returned (.tuple #[]) ∧ ∃ d', List.Perm d' d ∧ d'.Pairwise (fun x y => x.1 ≤ y.1) ∧ EndsV w' base v d' ∧ Below base w w' := by
  obtain ⟨A, c, rfl⟩ := Go.Proofs.YteeedheklnelkaaW.PrintWords.own_slice ho
  rcases Nat.eq_zero_or_pos d.length with h0 | hp
  · have hd : d = [] := List.eq_nil_of_length_eq_zero h0
    subst hd
    have hcon := AnyF.slices_SortFunc_none sortEnd A c (.func (.func 51) #[] #[]) w
    refine hcon.mono ?_
    rintro e w' ⟨rfl, rfl⟩
    exact ⟨rfl, [], List.Perm.refl _, List.Pairwise.nil, ⟨A, c, rfl, Nat.zero_le _, fun h => by simp at h⟩, Below.refl _ _⟩
  · obtain ⟨g, cap, cur, hv, hbg, hgb, hle, hm, hsz, ht⟩ : ∃ g cap cur, Value.slice A d.length c = .slice (some ⟨g, 0, none⟩) d.length cap ∧ base ≤ g ∧ w.heap[g]? = some (.cells cur 67 (0, 0)) ∧ d.length ≤ cap ∧ cap ≤ maxLen ∧ cur.size = cap * 3 ∧ cur.toList.take (d.length * 3) = flatE d := by
      rcases ho.2 with ⟨h1, h2⟩ | h
      · omega
      · exact h
    rw [hv] at ho ⊢
    have hg := (Array.getElem?_eq_some_iff.1 hgb).1
    refine (sort_ends g cap d w (fun j u hu => row_cell ho hu) hg cur hgb hs).mono ?_
    rintro e w' ⟨rfl, d', hp', hso, hE, hT, hk, hsz', h1, h2, h3⟩
    have hl : d'.length = d.length := hp'.length_eq
    refine ⟨rfl, d', hp', hso, ⟨some ⟨g, 0, none⟩, cap, by rw [hl], by omega, fun _ => ⟨g, rfl, hbg, by omega, hE, hT⟩⟩, ⟨h1, h2, h3, hsz', fun k hk' => ?_⟩⟩
    exact hk k (by omega) (by omega)
end Go.Proofs.Yteeedheklnelkaa.P

namespace Go.Proofs.Yteeedheklnelkaa.P
open Go.RowKit Go.Proofs.YteeedheklnelkaaW.PrintWords Go.Proofs.YteeedheklnelkaaW.PrintLast Go.Proofs.YteeedheklnelkaaW.PrintMore
attribute [local go_sem] max2_int min2_int max_two min_two max_three min_three max_four min_four
theorem read_ext {w : World} {A : Option Addr} {xs : List S40} (h : Kd.C k40 w A xs.length xs) {k : Nat} (hk : k < xs.length) : ∃ ad, A = some ad ∧ w.cell? (ad.add (k * 2)) = some (.int .i64 xs[k].f0) ∧ w.cell? ⟨(ad.add (k * 2)).block, (ad.add (k * 2)).off + 1, none⟩ = some (.int .i64 xs[k].f1) := by
  obtain ⟨ad, e, h⟩ := h.2.2 (by omega)
  obtain ⟨cs, hl, hk', hcell⟩ := h k _ (List.getElem?_eq_getElem hk)
  have hcs := k40_open hk'
  subst hcs
  exact ⟨ad, e, hcell 0 _ rfl, by rw [← add_field _ _ 1 (by omega)]; exact hcell 1 _ rfl⟩
theorem infoEnd : (Try.prog.info? 67).map (fun i => (i.zero, i.size, i.bytes)) = some (some (.agg #[.int .i64 0, .int .i64 0, .int .i64 0]), 3, 24) := by kernel_rfl
theorem cells_six_new (W : World) (a b c d e f : Value) (t : TypeId) : ∀ j u, ([a, b, c, d, e, f] : List Value)[j]? = some u → (W.alloc (.cells #[a, b, c, d, e, f] t)).cell? ((⟨W.heap.size, 0, none⟩ : Addr).add j) = some u := by
  intro j u hj
  rw [add_plain]
  have h := blk_cell (heap_alloc_new W (.cells #[a, b, c, d, e, f] t)) j
  rw [h]
  simpa using hj
set_option maxHeartbeats 8000000 in
set_option maxRecDepth 100000 in
theorem ends_row (g : Nat) (A0 A1 : Option Addr) (c0 c1 : Nat) (l0 l1 : List S40) (w : World) (hb : w.heap[g]? = some (.cells #[.slice A0 l0.length c0, .slice A1 l1.length c1] 22 (0, 0)))
    (hr0 : Kd.C k40 w A0 l0.length l0) (hc0 : l0.length ≤ c0) (hr1 : Kd.C k40 w A1 l1.length l1) (hc1 : l1.length ≤ c1) (hN : l0.length + l1.length ≤ 100000) :
    Calls Try.prog 49 #[.slice (some ⟨g, 0, none⟩) 2 2] w fun e w' => ∃ v d, e = .returned v ∧ EndsV w' w.heap.size v d ∧ List.Perm d (endsOf 0 l0 ++ endsOf 1 l1) ∧ d.Pairwise (fun x y => x.1 ≤ y.1) ∧ Below w.heap.size w w' := by
  obtain ⟨i0, hi, hz0, hz1, hz2⟩ := info_parts infoEnd
  obtain ⟨L, hL⟩ : ∃ L : Nat → List S40, L = fun k => if k = 0 then l0 else l1 := ⟨_, rfl⟩
  have HL0 : Aside0 (L 0 = l0 ∧ L 1 = l1) := ⟨by rw [hL]; exact ⟨rfl, rfl⟩⟩
  have HLN : Aside0 ((L 0).length + (L 1).length ≤ 100000) := ⟨by rw [HL0.out.1, HL0.out.2]; exact hN⟩
  have HC : Aside0 (∀ k, k < 2 → ∃ A c, w.cell? ⟨g, k, none⟩ = some (.slice A (L k).length c) ∧ (L k).length ≤ c ∧ Kd.C k40 w A (L k).length (L k)) := ⟨fun k hk => by
    obtain ⟨q0, q1, -, -⟩ := cells2 hb
    rcases (show k = 0 ∨ k = 1 by omega) with rfl | rfl
    · rw [HL0.out.1]; exact ⟨A0, c0, q0, hc0, hr0⟩
    · rw [HL0.out.2]; exact ⟨A1, c1, q1, hc1, hr1⟩⟩
  have HG := Aside0.mk (Array.getElem?_eq_some_iff.1 hb).1
  clear hL hb hr0 hc0 hr1 hc1 hN
  go_enter Try.func49, Try.ntmps49
  go_wp2_with fail
  go_loopw [3, 13] (fun v i wr => ∃ k : Nat, k ≤ 2 ∧ i = .int .i64 k ∧ wr.ownsRow w.heap.size 67 3 v ((List.range k).flatMap fun (q : Nat) => endsOf q (L q)).length (flatE ((List.range k).flatMap fun (q : Nat) => endsOf q (L q))) ∧ Below w.heap.size w wr)
    (fun _ i _ => 2 - (intOf i).toNat)
  case atStart => exact ⟨0, by omega, rfl, own_nil _ _ _ _, Below.refl _ _⟩
  case round =>
    obtain ⟨k, hk, rfl, ho, hbw⟩ := hrel
    by_cases hlt : k < 2
    · obtain ⟨A, c, hcell0, hlc, hC0⟩ := HC.out k hlt
      have hcell := pw_cell_below hbw hcell0
      have HCR := Aside0.mk hC0
      have HLC := Aside0.mk hlc
      have HO := Aside0.mk ho
      have HB := Aside0.mk hbw
      have HLL : Aside0 ((L k).length ≤ 100000) := ⟨by
        have := HLN.out
        rcases (show k = 0 ∨ k = 1 by omega) with rfl | rfl <;> omega⟩
      clear ho hbw hC0 hcell0 hlc
      have hdk : decide ((k : Int) < 2) = true := by rw [decide_eq_true_iff]; omega
      go_wp2_with fail
      clear hdk
      go_loopw [3, 20] (fun v2 i2 wi => ∃ j : Nat, j ≤ (L k).length ∧ i2 = .int .i64 j ∧ wi.ownsRow w.heap.size 67 3 v2 (((List.range k).flatMap fun (q : Nat) => endsOf q (L q)) ++ endsOf k ((L k).take j)).length (flatE (((List.range k).flatMap fun (q : Nat) => endsOf q (L q)) ++ endsOf k ((L k).take j))) ∧ Below w.heap.size w wi)
        (fun _ i2 _ => (L k).length - (intOf i2).toNat)
      case atStart => exact ⟨0, Nat.zero_le _, rfl, by simpa [endsOf] using HO.out, HB.out⟩
      case round =>
        obtain ⟨j, hj, rfl, ho, hbw⟩ := hrel
        by_cases hjl : j < (L k).length
        · obtain ⟨ad, hA, q0, q1⟩ := read_ext (Kd.C_below HCR.out hbw) hjl
          subst hA
          obtain ⟨e, he⟩ : ∃ e, e = (L k)[j] := ⟨_, rfl⟩
          rw [← he] at q0 q1
          have HE := Aside0.mk he
          have HOI := Aside0.mk ho
          have HBI := Aside0.mk hbw
          clear he ho hbw
          obtain ⟨p, q, ok, hwi⟩ : ∃ p q ok, wI e = (p, q, ok) := ⟨_, _, _, rfl⟩
          have HWI := Aside0.mk hwi
          have hj5 : j < 100000 := by have := HLL.out; omega
          have hwj : wrap64 ((j : Int) + 1) = ((j + 1 : Nat) : Int) := by rw [w64 _ (by omega) (by omega)]; rfl
          have HWJ := Aside0.mk hwj
          clear hwj
          have hcall : xwithin.f e.f0 e.f1 = some (p, q, ok) := (wI_eq _ _).trans (congrArg some hwi)
          have HCALL := Aside0.mk hcall
          have hlen := endsOf_length k ((L k).take j)
          have HTK : Aside0 (endsOf k ((L k).take (j + 1)) = endsOf k ((L k).take j) ++ endsE k e) := ⟨by
            rw [List.take_succ_eq_append_getElem hjl, endsOf_snoc, HE.out]⟩
          clear hwi hcall
          generalize hD : ((List.range k).flatMap fun (q : Nat) => endsOf q (L q)) ++ endsOf k ((L k).take j) = D at HOI
          have HD := Aside0.mk hD
          have hDN : D.length < 1000000 := by
            have hLL := HLL.out
            have h1 : ((L k).take j).length ≤ (L k).length := by rw [List.length_take]; omega
            have h2 : ((List.range k).flatMap fun (q : Nat) => endsOf q (L q)).length ≤ 400000 := by
              have hLN := HLN.out
              have e0 := endsOf_length ((0 : Nat) : Int) (L 0)
              have e1 := endsOf_length ((1 : Nat) : Int) (L 1)
              rcases (show k = 0 ∨ k = 1 by omega) with rfl | rfl
              · simp
              · simp only [List.range_one, List.flatMap_singleton]
                omega
            rw [← hD, List.length_append]
            omega
          clear hD hlen
          go_wp2_with fail
          refine (xwithin.calls e.f0 e.f1 p q ok _ HCALL.out).mono ?_
          rintro e2 w2 ⟨rfl, hd⟩
          have HO2 := Aside0.mk (pw_own_below (HOI.out.alloc (.cells #[Value.int .i64 e.f0, Value.int .i64 e.f1] 40)) hd)
          have HB2 := Aside0.mk (below_step (below_alloc HBI.out (.cells #[Value.int .i64 e.f0, Value.int .i64 e.f1] 40)) hd)
          clear hd q0 q1
          obtain ⟨A3, c3, hv3⟩ := own_slice HO2.out
          subst hv3
          cases ok
          · have HO3 : Aside0 (w2.ownsRow w.heap.size 67 3 (.slice A3 D.length c3) (((List.range k).flatMap fun (q : Nat) => endsOf q (L q)) ++ endsOf k ((L k).take (j + 1))).length (flatE (((List.range k).flatMap fun (q : Nat) => endsOf q (L q)) ++ endsOf k ((L k).take (j + 1))))) := ⟨by
              have e1 : endsE k e = [] := by unfold endsE; rw [HWI.out]; rfl
              rw [HTK.out, e1, List.append_nil, HD.out]
              exact HO2.out⟩
            go_wp2
            go_roundw
            case rel => exact ⟨j + 1, by omega, by go_num, HO3.out, HB2.out⟩
            case measure => simp [intOf]; omega
          · have HZ := Aside0.mk HB2.out.size
            go_wp2_with (at_builtin; refine wpList_append_own _ rfl _ _ 63 rfl w.heap.size 67 i0 (.agg #[.int .i64 0, .int .i64 0, .int .i64 0]) 3 24 Try.underlying63 hi hz0 hz1 hz2 rfl (by decide) _ _ _ rfl (HO2.out.alloc _) ⟨w2.heap.size, 0, none⟩ 2 2 [.int .i64 p, .int .i64 k, .int .i64 1, .int .i64 q, .int .i64 k, .int .i64 (-1)] rfl rfl (cells_six_new _ _ _ _ _ _ _ _) (by simp [Value.oneCell']) (by unfold maxLen; omega) (by omega) (by have := HZ.out; simp; omega) ?_; intro v' w1 hown hgrow _; have HO3 := Aside0.mk hown; have HB3 := Aside0.mk ((below_alloc HB2.out (.cells #[.int .i64 p, .int .i64 k, .int .i64 1, .int .i64 q, .int .i64 k, .int .i64 (-1)] 67)).grown hgrow (by have := HZ.out; simp; omega) (own_base HO2.out)); clear hown hgrow)
            have HO4 : Aside0 (w1.ownsRow w.heap.size 67 3 v' (((List.range k).flatMap fun (q : Nat) => endsOf q (L q)) ++ endsOf k ((L k).take (j + 1))).length (flatE (((List.range k).flatMap fun (q : Nat) => endsOf q (L q)) ++ endsOf k ((L k).take (j + 1))))) := ⟨by
              have e1 : endsE k e = [(p, (k : Int), 1), (q, (k : Int), -1)] := by unfold endsE; rw [HWI.out]; rfl
              rw [HTK.out, e1, ← List.append_assoc, HD.out, flatE_append, List.length_append]
              exact HO3.out⟩
            go_roundw
            case rel => exact ⟨j + 1, by omega, by go_num, HO4.out, HB3.out⟩
            case measure => simp [intOf]; omega
        · obtain rfl : j = (L k).length := by omega
          have HO3 : Aside0 (wr.ownsRow w.heap.size 67 3 u3 ((List.range (k + 1)).flatMap fun (q : Nat) => endsOf q (L q)).length (flatE ((List.range (k + 1)).flatMap fun (q : Nat) => endsOf q (L q)))) := ⟨by
            rw [List.range_succ, List.flatMap_append, List.flatMap_singleton]
            simpa using ho⟩
          have HB3 := Aside0.mk hbw
          clear ho hbw
          go_wp2
          go_roundw
          case rel => exact ⟨k + 1, by omega, by go_num, HO3.out, HB3.out⟩
          case measure => simp [intOf]; omega
    · obtain rfl : k = 2 := by omega
      have hD2 : ((List.range 2).flatMap fun (q : Nat) => endsOf q (L q)) = endsOf 0 l0 ++ endsOf 1 l1 := by
        rw [List.range_succ, List.flatMap_append, List.flatMap_singleton, List.range_one, List.flatMap_singleton, HL0.out.1, HL0.out.2]
        rfl
      rw [hD2] at ho
      have hDL : (endsOf 0 l0 ++ endsOf 1 l1).length < 1000000 := by
        have hLN := HLN.out
        rw [HL0.out.1, HL0.out.2] at hLN
        have e0 := endsOf_length 0 l0
        have e1 := endsOf_length 1 l1
        rw [List.length_append]
        omega
      obtain ⟨D, hDe⟩ : ∃ D, D = endsOf 0 l0 ++ endsOf 1 l1 := ⟨_, rfl⟩
      rw [← hDe] at ho hDL
      have HDE := Aside0.mk hDe
      clear hDe
      have HO := Aside0.mk ho
      have HB := Aside0.mk hbw
      clear ho hbw hD2
      go_wp2_with fail
      refine (sort_row w.heap.size _ D wr HO.out HB.out.size (by omega)).mono ?_
      rintro e w2 ⟨rfl, d', hp, hso, hE, hb2⟩
      have HP := Aside0.mk hp
      have HS := Aside0.mk hso
      have HE := Aside0.mk hE
      have HB2 := Aside0.mk (HB.out.trans hb2)
      clear hp hso hE hb2
      go_wp2
      go_ret
      exact ⟨_, d', rfl, HE.out, by rw [← HDE.out]; exact HP.out, HS.out, HB2.out⟩
end Go.Proofs.Yteeedheklnelkaa.P

namespace Go.Proofs.Yteeedheklnelkaa.P
open Go.RowKit
/-- An invariant that minds neither new blocks nor the turn of one block of cells of a type of T, made since block B. -/
def AbidesT {β : Type} (B : Nat) (T : Nat → Prop) (J : β → World → Prop) : Prop :=
  ∀ s W W' row, J s W → W.grownBy W' row → (∀ r, row = some r → B ≤ r ∧ ∃ cs t, W.heap[r]? = some (.cells cs t (0, 0)) ∧ T t) → J s W'
theorem AbidesT.and {β : Type} {B : Nat} {T : Nat → Prop} {I J : β → World → Prop} (h : AbidesT B T I) (k : AbidesT B T J) : AbidesT B T (fun s W => I s W ∧ J s W) :=
  fun s W W' row hs hg hr => ⟨h s W W' row hs.1 hg hr, k s W W' row hs.2 hg hr⟩
theorem AbidesT.mono {β : Type} {B B' : Nat} {T : Nat → Prop} {I : β → World → Prop} (h : AbidesT B T I) (hB : B ≤ B') : AbidesT B' T I :=
  fun s W W' row hs hg hr => h s W W' row hs hg (fun r e => ⟨Nat.le_trans hB (hr r e).1, (hr r e).2⟩)
/-- What a block that holds no cells holds, it holds behind such a step. -/
theorem other_kept {W W' : World} {row : Option Nat} {T : Nat → Prop} {B k : Nat} {o : Obj} (hg : W.grownBy W' row) (hr : ∀ r, row = some r → B ≤ r ∧ ∃ cs t, W.heap[r]? = some (.cells cs t (0, 0)) ∧ T t) (h : W.heap[k]? = some o) (ho : o.isCells = false) : W'.heap[k]? = some o := by
  refine (hg.block k (Array.getElem?_eq_some_iff.1 h).1 (fun e => ?_)).trans h
  obtain ⟨_, cs, t, hc, _⟩ := hr k e.symm
  rw [hc] at h
  cases h
  cases ho
/-- The iterator's word: it hands over xs, one by one, and returns. -/
def GivesAll {α : Type} (F : Fence) (n : Nat) (P : Program) (gf : Nat) (lb : Array Value) (encs : α → Array Value) (Kp : World → World → Prop) (T : Nat → Prop) (xs : List α) (w : World) : Prop :=
  ∀ (l : Nat) (J : List α → World → Prop) (W : World), Below w.heap.size w W → AbidesT W.heap.size T J →
    (∀ pre x W1, J pre W1 → pre ++ [x] <+: xs → YieldAt F (n - 1) P l (encs x) W1 fun e W' => e = .returned (.bool true) ∧ J (pre ++ [x]) W' ∧ Kp W1 W') →
    J [] W → CallsIn F n P gf (#[.func (.yield l) #[] #[]] ++ lb) W fun e W' => (∃ v, e = .returned v) ∧ J xs W'
/-- How the body of a round ends. -/
def roundPost {α : Type} (Kp : World → World → Prop) (I : List α → World → Prop) (xs : List α) (W : World) : Exit → Act → World → Prop
  | .normal, _, W' => KeepsOthers W W' ∧ Kp W W' ∧ I xs W'
  | _, _, _ => False
variable {F : Fence} {n : Nat} {P : Program}
theorem range_all {α : Type} {g : Operand} {ps : Array Tmp} {assign body : Code} {Q : Exit → Act → World → Prop} {a : Act} {w : World}
    (hro : F.round = none) (h1 : 1 ≤ n) {gf : Nat} {lb : Array Value} (hg : a.eval g = .func (.func gf) #[] lb) (hFg : F.fn gf) (eg : ∀ args w, (callFunc gf args).run P w = .ok (.enter gf args) w)
    {encs : α → Array Value} {Kp : World → World → Prop} {T : Nat → Prop} {xs : List α} {w0 : World} (hseq : GivesAll F (n - 1) P gf lb encs Kp T xs w0)
    (hKt : ∀ {A B C : World}, Kp A B → Kp B C → Kp A C) (hKb : ∀ (W : World) (l : Nat) (o o' : Obj), w.heap.size ≤ l → W.heap[l]? = some o → o.isCells = false → o.isWalk = false → Kp W (W.putObj l o')) (hb0 : Below w0.heap.size w0 w) (hps : ∀ x, (encs x).size = ps.size)
    (I : List α → World → Prop) (hI : OwnFrom w.heap.size I) (hIT : AbidesT w.heap.size T I) (h0 : I [] w) (o₁ : α → Obj) (hKa : ∀ (W : World) (o : Obj), w.heap.size ≤ W.heap.size → Kp W (W.alloc o)) (a₁ : α → Nat → Act)
    (hassign : ∀ (l : Nat) (x : α) (W : World) (K : Act → World → Prop), K (a₁ x W.heap.size) (W.alloc (o₁ x)) →
      assign.wpIn (F.inRound l) (n - 1 - 1) P (Exit.then K (fun _ _ _ => False)) { tmps := (ps.zip (encs x)).foldl (fun t (p, v) => t.setIfInBounds p v) a.tmps, defers := [] } W)
    (hbody : ∀ (l : Nat) (pre : List α) (x : α) (b : Nat) (W : World), I pre W → W.heap[b]? = some (o₁ x) → pre ++ [x] <+: xs → body.wpIn (F.inRound l) (n - 1 - 1) P (roundPost Kp I (pre ++ [x]) W) (a₁ x b) W)
    (hdone : ∀ (D : Nat) (W : World), w.heap.size ≤ D → I xs W → W.heap[D]? = some (.deferred (some [])) → Q .normal { a with defers := { target := .collected D, args := #[] } :: a.defers } W) :
    (Code.rangeFunc g ps assign body).wpIn F n P Q a w := by
  refine wpIn_rangeFunc fun fn hfn => ?_
  rw [hro]
  obtain ⟨rec, hrec⟩ : ∃ rec : LoopState → Option Code → Loop, rec = fun st pe => { state := st, pending := pe, fn, tmps := a.tmps, params := ps, assign, body, defers := w.heap.size } := ⟨_, rfl⟩
  obtain ⟨V, hV⟩ : ∃ V, (w.alloc (.deferred (some []))).alloc (.loop (rec .ready none)) = V := ⟨_, rfl⟩
  have hsz : V.heap.size = w.heap.size + 1 + 1 := by rw [← hV]; simp
  have hloop : V.heap[w.heap.size + 1]? = some (.loop (rec .ready none)) := by
    rw [← hV]
    have := World.alloc_heap_new (w.alloc (.deferred (some []))) (.loop (rec .ready none))
    rwa [World.size_alloc] at this
  have hdef : V.heap[w.heap.size]? = some (.deferred (some [])) := by
    rw [← hV]; exact (Below.heap_alloc _ _ _ (by simp)).trans (World.alloc_heap_new w _)
  have hIV : I [] V := by rw [← hV]; exact hI.alloc _ (hI.alloc _ h0)
  have hbV : Below w0.heap.size w0 V := by
    rw [← hV]; exact hb0.trans ((((Below.refl _ w).alloc (Nat.le_refl _) _).alloc (by simp) _).mono hb0.size)
  refine ⟨w.heap.size + 1, [{ target := .collected w.heap.size, args := #[] }], V, { target := .fn (.func gf) lb, args := #[.func (.yield (w.heap.size + 1)) #[] #[]] }, V, gf, #[.func (.yield (w.heap.size + 1)) #[] #[]] ++ lb, V, ?_, ?_, ?_, ?_, fun _ => h1, ?_⟩
  · rw [← hV, hrec]; exact run_enterLoop_outer _ _ _ _ _
  · simp only [resolve, hg]
    simp [go_sem]
  · intro f' hf'
    simp [Target.leads] at hf'
    subst hf'
    exact hFg
  · simp [invoke, go_sem, eg]
  refine (hseq (w.heap.size + 1) (fun pre W => I pre W ∧ W.heap[w.heap.size + 1]? = some (.loop (rec .ready none)) ∧ W.heap[w.heap.size]? = some (.deferred (some []))) V hbV ?_ ?_ ⟨hIV, hloop, hdef⟩).mono ?_
  · intro s A B row hs hgr hr
    exact ⟨hIT.mono (by omega) s A B row hs.1 hgr hr, other_kept hgr hr hs.2.1 rfl, other_kept hgr hr hs.2.2 rfl⟩
  · rintro pre x U ⟨hiU, hlU, hkU⟩ hpre
    have hltU : w.heap.size + 1 < U.heap.size := (Array.getElem?_eq_some_iff.1 hlU).1
    have hy := run_yield (P := P) (args := encs x) hlU (by rw [hrec]; exact hps x)
    rw [hrec] at hy
    obtain ⟨W, hW⟩ : ∃ W, U.alloc (o₁ x) = W := ⟨_, rfl⟩
    have hi : I pre W := by rw [← hW]; exact hI.alloc _ hiU
    have hl : W.heap[w.heap.size + 1]? = some (.loop (rec .ready none)) := by rw [← hW]; exact (Below.heap_alloc _ _ _ hltU).trans hlU
    have hk : W.heap[w.heap.size]? = some (.deferred (some [])) := by rw [← hW]; exact (Below.heap_alloc _ _ _ (by omega)).trans hkU
    have hlt : w.heap.size + 1 < W.heap.size := (Array.getElem?_eq_some_iff.1 hl).1
    have ho : W.heap[U.heap.size]? = some (o₁ x) := by rw [← hW]; exact World.alloc_heap_new U _
    refine ⟨fn, _, assign, body, hy, roundIn_of_wpIn hfn (hassign _ x U _ ?_)⟩
    rw [hW]
    refine ⟨_, run_beginRound hl (by rw [hrec]), ?_⟩
    have hl2 : (W.putObj (w.heap.size + 1) (.loop { rec .ready none with state := .busy })).heap[w.heap.size + 1]? = some (.loop { rec .ready none with state := .busy }) := World.putObj_heap_same hlt
    have hk2 : (W.putObj (w.heap.size + 1) (.loop { rec .ready none with state := .busy })).heap[w.heap.size]? = some (.deferred (some [])) := (World.putObj_heap_other (by omega)).trans hk
    refine wpIn_mono (hbody _ pre x U.heap.size _ (hI.putObj _ hi (by omega) hl rfl) ((World.putObj_heap_other (by omega)).trans ho) hpre) fun e a3 W3 hp => ?_
    cases e with
    | normal =>
      obtain ⟨hk3, hkp3, hi3⟩ := hp
      have hl3 := hk3.same _ _ hl2 rfl
      have hend : (Instr.endRound (w.heap.size + 1) none).run P W3 = .ok (.bool true) (W3.putObj (w.heap.size + 1) (.loop (rec .ready none))) := by
        have := run_endRound (P := P) none hl3
        rw [hrec] at this ⊢
        exact this
      exact ⟨_, _, hend, rfl, ⟨hI.putObj _ hi3 (by omega) hl3 rfl, World.putObj_heap_same (Array.getElem?_eq_some_iff.1 hl3).1, (World.putObj_heap_other (by omega)).trans (hk3.same _ _ hk2 rfl)⟩,
        hKt (hKt (hKt (by rw [← hW]; exact hKa U _ (by omega)) (hKb _ _ _ _ (by omega) hl rfl rfl)) hkp3) (hKb _ _ _ _ (by omega) hl3 rfl rfl)⟩
    | _ => exact hp.elim
  · rintro e W2 ⟨⟨v, rfl⟩, hi, hl, hk⟩
    have hend := run_endLoop (P := P) hl (by rw [hrec]; simp)
    rw [hrec] at hend
    exact ⟨none, _, hend, hdone _ _ (Nat.le_refl _) (hI.putObj _ hi (by omega) hl rfl) ((World.putObj_heap_other (by omega)).trans hk)⟩
end Go.Proofs.Yteeedheklnelkaa.P

namespace Go
variable {F : Fence} {n : Nat} {P : Program} {ops : Array Oper} {C : World → Prop} {md : Region.Mode}
def Oper.noDefer (o : Oper) : Bool := match o.op with | .defer _ => false | _ => true
theorem Oper.wpIn_of_quiet_r {o : Oper} {a : Act} {K : Act → Prop} {K' : Act → World → Prop} {Q' : Exit → Act → World → Prop} {w : World} (hd : o.noDefer = true) (hw : C w) (h : ∀ a w', C w' → K a → K' a w')
    (ha : o.askedIn F P a C) (hh : o.quietIn F n P a C K) : o.wpIn F n P a w K' Q' := by
  obtain ⟨v, h1, h2⟩ := hh
  have h3 := h1 w hw
  unfold Oper.quietAtIn at h3
  unfold Oper.wpIn
  refine ⟨ha w hw, ?_⟩
  rw [Oper.semAt_eq _ _ _ (fun c e => by unfold Oper.noDefer at hd; rw [e] at hd; cases hd)]
  generalize (execOp a.eval o).run P w = r at *
  cases r with
  | ok x w' =>
    cases x <;> simp only [Oper.quietUponIn] at h3 <;> simp only [Oper.uponIn]
    case value u =>
      obtain ⟨e1, e2⟩ := h3
      rw [e1, e2]
      exact h _ _ hw h2
    case skip =>
      obtain ⟨e1, e2⟩ := h3
      rw [e1, ← e2]
      exact h _ _ hw h2
    case enter f args =>
      obtain ⟨e1, hd, hc⟩ := h3
      rw [e1]
      exact ⟨hd, hc.mono fun e w'' ⟨he, hw''⟩ => by subst he; exact h _ _ hw'' h2⟩
  | halt x w' => simp only [Oper.quietUponIn] at h3
theorem wpOpIn_of_qOpIn_r {i : Nat} {a : Act} {K : Act → Prop} {K' : Act → World → Prop} {Q' : Exit → Act → World → Prop} {w : World} (hd : ∀ o ∈ ops, o.noDefer = true) (hC : C w) (h : ∀ a w', C w' → K a → K' a w')
    (hh : qOpIn F n P ops C i K a) : wpOpIn F n P ops Q' i K' a w := by
  unfold qOpIn at hh
  unfold wpOpIn
  split
  · rename_i ho; simp only [ho] at hh; exact h _ _ hC hh
  · rename_i o ho
    simp only [ho] at hh
    obtain ⟨ha, hh⟩ := hh
    split
    · rename_i hw; simp only [hw, if_true] at hh; exact Oper.wpIn_of_quiet_r (hd o (Array.mem_of_getElem? ho)) hC h ha hh
    · rename_i hw; simp only [hw] at hh; exact ⟨ha w hC, h _ _ hC hh⟩
theorem wpAnyIn_of_quiet_r {Q : Act → Prop} {Q' : Exit → Act → World → Prop} (hd : ∀ o ∈ ops, o.noDefer = true) (hQ : ∀ a w, C w → Q a → Q' .normal a w) : ∀ (fuel : Nat) (listed : Array Bool) (a : Act) (w : World), C w →
    wpAnyQIn F n P md ops C Q fuel listed a → wpAnyIn F n P md ops Q' fuel listed a w
  | 0, _, _, _, hw, h => ⟨h.1, hQ _ _ hw h.2⟩
  | fuel + 1, _, _, _, hw, h => ⟨fun h0 => hQ _ _ hw (h.1 h0), fun i hi => wpOpIn_of_qOpIn_r hd hw (fun a' w' hw' => wpAnyIn_of_quiet_r hd hQ fuel _ a' w' hw') (h.2 i hi)⟩
theorem wpIn_region_quiet_lit_r {id : Nat} {Q : Exit → Act → World → Prop} {a : Act} {w : World} {l : List Oper} (hd : l.all Oper.noDefer = true) (hm : P.follows .mixedOrders = true) (hB : Region.lexB .any l.toArray = true)
    (h : wpQuietIn F n P l.toArray (fun w' => ∃ n, w' = w.drewN n) (fun a' => ∀ w', (∃ n, w' = w.drewN n) → Q .normal a' w') l a) : (Code.region id l.toArray true).wpIn F n P Q a w := by
  simp only [Region.lexB, Bool.and_eq_true] at hB
  refine wpIn_region_any hm (wpAnyIn_of_quiet_r (C := fun w' => ∃ n, w' = w.drewN n) (Q := fun a' => ∀ w', (∃ n, w' = w.drewN n) → Q .normal a' w') (fun o ho => List.all_eq_true.1 hd o (by simpa using ho)) (fun _ w' hw' h => h w' hw') _ _ _ _ ⟨1, rfl⟩ ?_)
  have := wpAnyQIn_lex (F := F) (n := n) (C := fun w' => ∃ n, w' = w.drewN n) (md := .any) hB.1 l 0 (Array.replicate l.toArray.size false) a (by simp) (by simpa using hB.2) h
  simpa using this
end Go

namespace Go.Proofs.Yteeedheklnelkaa.P
open Go.RowKit Go.Shelf Go.Proofs.YteeedheklnelkaaW.PrintWords Go.Proofs.YteeedheklnelkaaW.PrintLast Go.Proofs.YteeedheklnelkaaW.PrintMore
attribute [local go_sem] Oper.semAt_some
attribute [local go_sem] max2_int min2_int max_two min_two max_three min_three max_four min_four
/-- The maximal extents, from a state of the sweep on. -/
def sweepX (keep : Bool → Bool → Bool) : Int → Int → Int → Bool → List (Int × Int × Int) → List S40
  | _, _, _, _, [] => []
  | c0, c1, st, ins, x :: r =>
    let e0 := if x.2.1 = 0 then c0 + x.2.2 else c0
    let e1 := if x.2.1 = 0 then c1 else c1 + x.2.2
    if (r.head?.map (·.1)) = some x.1 then sweepX keep e0 e1 st ins r
    else
      let now := keep (decide (e0 > 0)) (decide (e1 > 0))
      if now && !ins then sweepX keep e0 e1 x.1 now r
      else if !now && ins then ⟨st, wrap64 (x.1 - st)⟩ :: sweepX keep e0 e1 st now r
      else sweepX keep e0 e1 st now r
/-- What the iterator leans on. -/
structure SI (W0 : World) (B1 B2 B3 : Nat) (v1 v2 v3 : Value) (W : World) : Prop where
  below : Below W0.heap.size W0 W
  b1 : W.heap[B1]? = some (.cells #[v1] 22 (0, 0))
  b2 : W.heap[B2]? = some (.cells #[v2] 22 (0, 0))
  b3 : W.heap[B3]? = some (.cells #[v3] 59 (0, 0))
/-- What a round keeps: what lay below n₀, the captured variables, and every block of ends and of depths. -/
structure KpX (n₀ B1 B2 B3 : Nat) (X Y : World) : Prop where
  below : Below n₀ X Y
  b1 : Y.heap[B1]? = X.heap[B1]?
  b2 : Y.heap[B2]? = X.heap[B2]?
  b3 : Y.heap[B3]? = X.heap[B3]?
  ty : ∀ (k : Nat) (cs : Array Value) (t : TypeId), (t = 65 ∨ t = 67) → X.heap[k]? = some (.cells cs t (0, 0)) → Y.heap[k]? = some (.cells cs t (0, 0))
theorem KpX.trans {n₀ B1 B2 B3 : Nat} {X Y Z : World} (h : KpX n₀ B1 B2 B3 X Y) (k : KpX n₀ B1 B2 B3 Y Z) : KpX n₀ B1 B2 B3 X Z :=
  ⟨h.below.trans k.below, k.b1.trans h.b1, k.b2.trans h.b2, k.b3.trans h.b3, fun i cs t ht hx => k.ty i cs t ht (h.ty i cs t ht hx)⟩
theorem KpX.putObj {n₀ B1 B2 B3 : Nat} {w : World} (hn : n₀ ≤ w.heap.size) (h1 : B1 < w.heap.size) (h2 : B2 < w.heap.size) (h3 : B3 < w.heap.size) (W : World) (l : Nat) (o o' : Obj) (hl : w.heap.size ≤ l) (h : W.heap[l]? = some o) (hc : o.isCells = false) (hw : o.isWalk = false) : KpX n₀ B1 B2 B3 W (W.putObj l o') :=
  ⟨belowK_b hn W l o o' hl h hc hw, World.putObj_heap_other (by omega), World.putObj_heap_other (by omega), World.putObj_heap_other (by omega), fun k cs t _ hx => by
    have hne : k ≠ l := by
      rintro rfl
      rw [h] at hx
      cases hx
      cases hc
    rw [World.putObj_heap_other hne]; exact hx⟩
theorem SI.kp {W0 : World} {B1 B2 B3 : Nat} {v1 v2 v3 : Value} {X Y : World} (h : SI W0 B1 B2 B3 v1 v2 v3 X) (k : KpX W0.heap.size B1 B2 B3 X Y) : SI W0 B1 B2 B3 v1 v2 v3 Y := ⟨h.below.trans k.below, k.b1.trans h.b1, k.b2.trans h.b2, k.b3.trans h.b3⟩
theorem SI.step {W0 : World} {B1 B2 B3 : Nat} {v1 v2 v3 : Value} {X Y : World} (h : SI W0 B1 B2 B3 v1 v2 v3 X) (k : Below X.heap.size X Y) : SI W0 B1 B2 B3 v1 v2 v3 Y := ⟨h.below.trans (k.mono h.below.size), blk_of_below h.b1 k, blk_of_below h.b2 k, blk_of_below h.b3 k⟩
theorem SI.set {W0 : World} {B1 B2 B3 : Nat} {v1 v2 v3 : Value} {X : World} (h : SI W0 B1 B2 B3 v1 v2 v3 X) (p : Addr) (u : Value) (h0 : W0.heap.size ≤ p.block) (h1 : B1 ≠ p.block) (h2 : B2 ≠ p.block) (h3 : B3 ≠ p.block) : SI W0 B1 B2 B3 v1 v2 v3 (X.setCell p u) :=
  ⟨h.below.setCell h0 _, (Below.heap_setCell _ _ _ _ h1).trans h.b1, (Below.heap_setCell _ _ _ _ h2).trans h.b2, (Below.heap_setCell _ _ _ _ h3).trans h.b3⟩
/-- The slice of ends, behind a round. -/
theorem EndsV.kp {n₀ B1 B2 B3 base : Nat} {v : Value} {d : List (Int × Int × Int)} {X Y : World} (h : EndsV X base v d) (k : KpX n₀ B1 B2 B3 X Y) : EndsV Y base v d := by
  obtain ⟨A, c, hv, hl, hp⟩ := h
  refine ⟨A, c, hv, hl, fun h0 => ?_⟩
  obtain ⟨g, hA, hb, hg, hE, cs, hT⟩ := hp h0
  have hk := k.ty g cs _ (.inr rfl) hT
  have he : Y.heap[g]? = X.heap[g]? := hk.trans hT.symm
  exact ⟨g, hA, hb, (Array.getElem?_eq_some_iff.1 hk).1, fun j u hu => ⟨(World.cell?_of_block he).trans (hE j u hu).1, (World.frozen?_of_block he).trans (hE j u hu).2⟩, cs, hk⟩
theorem EndsV.keep {base : Nat} {v : Value} {d : List (Int × Int × Int)} {X Y : World} (h : EndsV X base v d) (k : ∀ (g : Nat) (cs : Array Value), X.heap[g]? = some (.cells cs 67 (0, 0)) → Y.heap[g]? = X.heap[g]?) : EndsV Y base v d := by
  obtain ⟨A, c, hv, hl, hp⟩ := h
  refine ⟨A, c, hv, hl, fun h0 => ?_⟩
  obtain ⟨g, hA, hb, hg, hE, cs, hT⟩ := hp h0
  have he : Y.heap[g]? = X.heap[g]? := k g cs hT
  exact ⟨g, hA, hb, (Array.getElem?_eq_some_iff.1 (he.trans hT)).1, fun j u hu => ⟨(World.cell?_of_block he).trans (hE j u hu).1, (World.frozen?_of_block he).trans (hE j u hu).2⟩, cs, he.trans hT⟩
theorem AbidesT.none_ {β : Type} {B : Nat} {T : Nat → Prop} {J : β → World → Prop} (h : AbidesT B T J) {s : β} {W W' : World} (hs : J s W) (hb : Below W.heap.size W W') : J s W' := h s W W' none hs (grown_of_below hb none) (fun r e => by cases e)
theorem mem_endsOf {i : Int} {l : List S40} {x : Int × Int × Int} (h : x ∈ endsOf i l) : x.2.1 = i ∧ (x.2.2 = 1 ∨ x.2.2 = -1) := by
  unfold endsOf at h
  rw [List.mem_flatMap] at h
  obtain ⟨e, _, h⟩ := h
  unfold endsE at h
  split at h
  · simp only [List.mem_cons, List.not_mem_nil, or_false] at h
    rcases h with rfl | rfl
    · exact ⟨rfl, .inl rfl⟩
    · exact ⟨rfl, .inr rfl⟩
  · cases h
theorem set_pair0 {V : World} {g : Nat} {a b u : Value} {t : TypeId} (h : V.heap[g]? = some (.cells #[a, b] t (0, 0))) : (V.setCell ⟨g, 0, none⟩ u).heap[g]? = some (.cells #[u, b] t (0, 0)) := by
  unfold World.setCell
  simp only [Array.getElem?_modify, if_pos trivial]
  rw [h]
  simp
theorem set_pair1 {V : World} {g : Nat} {a b u : Value} {t : TypeId} (h : V.heap[g]? = some (.cells #[a, b] t (0, 0))) : (V.setCell ⟨g, 1, none⟩ u).heap[g]? = some (.cells #[a, u] t (0, 0)) := by
  unfold World.setCell
  simp only [Array.getElem?_modify, if_pos trivial]
  rw [h]
  simp
theorem grownBy_setCell_ (W : World) (b o : Nat) (v : Value) : W.grownBy (W.setCell ⟨b, o, none⟩ v) (some b) :=
  ⟨rfl, rfl, rfl, (KeepsWalks.setCell W _ v).size, fun k _ hk => Below.heap_setCell _ _ _ k (fun e => hk (by rw [e]))⟩
theorem sweepX_cons (keep : Bool → Bool → Bool) (e0 e1 st : Int) (ins : Bool) (x : Int × Int × Int) (r : List (Int × Int × Int)) (f0 f1 : Int) (hf : (f0, f1) = if x.2.1 = 0 then (e0 + x.2.2, e1) else (e0, e1 + x.2.2)) :
    sweepX keep e0 e1 st ins (x :: r) = if (r.head?.map (·.1)) = some x.1 then sweepX keep f0 f1 st ins r
      else if keep (decide (f0 > 0)) (decide (f1 > 0)) && !ins then sweepX keep f0 f1 x.1 (keep (decide (f0 > 0)) (decide (f1 > 0))) r
      else if !keep (decide (f0 > 0)) (decide (f1 > 0)) && ins then ⟨st, wrap64 (x.1 - st)⟩ :: sweepX keep f0 f1 st (keep (decide (f0 > 0)) (decide (f1 > 0))) r
      else sweepX keep f0 f1 st (keep (decide (f0 > 0)) (decide (f1 > 0))) r := by
  rw [sweepX]
  by_cases h : x.2.1 = 0
  · rw [if_pos h] at hf
    injection hf with h1 h2
    rw [if_pos h, if_pos h, h1, h2]
  · rw [if_neg h] at hf
    injection hf with h1 h2
    rw [if_neg h, if_neg h, h1, h2]
set_option maxHeartbeats 8000000 in
set_option maxRecDepth 100000 in
theorem sweep_gives (n : Nat) (fk : Nat) (keep : Bool → Bool → Bool) (ek : ∀ args w, (callFunc fk args).run Try.prog w = .ok (.enter fk args) w) (hkeep : ∀ (p q : Bool) (W : World), Calls Try.prog fk #[.bool p, .bool q] W fun e w' => e = .returned (.bool (keep p q)) ∧ w' = W)
    (B1 B2 B3 : Nat) (A0 A1 : Option Addr) (c0 c1 : Nat) (l0 l1 : List S40) (W0 : World) (hW0 : SI W0 B1 B2 B3 (.slice A0 l0.length c0) (.slice A1 l1.length c1) (.func (.func fk) #[] #[]) W0)
    (hr0 : Kd.C k40 W0 A0 l0.length l0) (hc0 : l0.length ≤ c0) (hr1 : Kd.C k40 W0 A1 l1.length l1) (hc1 : l1.length ≤ c1) (hN : l0.length + l1.length ≤ 100000)
    (xs : List S40) (hxs : ∀ d, List.Perm d (endsOf 0 l0 ++ endsOf 1 l1) → d.Pairwise (fun x y => x.1 ≤ y.1) → sweepX keep 0 0 0 false d = xs) :
    GivesAll Fence.wide n Try.prog 48 #[.pointer (some ⟨B1, 0, none⟩), .pointer (some ⟨B2, 0, none⟩), .pointer (some ⟨B3, 0, none⟩)] (fun x : S40 => #[.agg #[.int .i64 x.f0, .int .i64 x.f1]]) (KpX W0.heap.size B1 B2 B3) (fun t => t = 65) xs W0 := by
  intro l J W hbW hJ hY h0
  have HSI := Aside0.mk (hW0.step hbW)
  have HR0 := Aside0.mk (Kd.C_below hr0 hbW)
  have HR1 := Aside0.mk (Kd.C_below hr1 hbW)
  have HC0 := Aside0.mk hc0
  have HC1 := Aside0.mk hc1
  have HN := Aside0.mk hN
  have HXS := Aside0.mk hxs
  have HJ := Aside0.mk hJ
  have HY := Aside0.mk hY
  have H0 := Aside0.mk h0
  have HK := Aside0.mk hkeep
  have q1 : W.cell? ⟨B1, 0, none⟩ = some (.slice A0 l0.length c0) := (blk_cell HSI.out.b1 0).trans rfl
  have q2 : W.cell? ⟨B2, 0, none⟩ = some (.slice A1 l1.length c1) := (blk_cell HSI.out.b2 0).trans rfl
  clear hW0 hr0 hr1 hc0 hc1 hN hxs hbW hJ hY h0 hkeep
  refine callsIn_of_wp Try.func48 rfl trivial ?_ rfl
  simp only [Try.ntmps48, List.size_toArray, List.length_cons, List.length_nil, Nat.reduceAdd, Nat.reduceSub, Array.replicate_succ, Array.replicate_zero, List.push_toArray, List.append_toArray, List.nil_append, List.cons_append]
  gi_wp2
  have hbA : Below W.heap.size W (W.alloc (.cells #[.slice A0 l0.length c0, .slice A1 l1.length c1] 22)) := below_alloc (Below.refl _ _) _
  refine ⟨trivial, fun h => (by cases h), (callsIn_wide.2 (ends_row W.heap.size A0 A1 c0 c1 l0 l1 _ (heap_alloc_new W _) (Kd.C_below HR0.out hbA) HC0.out (Kd.C_below HR1.out hbA) HC1.out HN.out)).mono ?_⟩
  rintro e w1 ⟨v, d, rfl, hE, hP, hS, hb⟩
  have hb1 : Below W.heap.size W w1 := below_step hbA hb
  have HD := Aside0.mk (HXS.out d hP hS)
  have HJ1 := Aside0.mk (HJ.out.none_ H0.out hb1)
  have HSI1 := Aside0.mk (HSI.out.step hb1)
  have HSZ := Aside0.mk hb1.size
  have HDL : Aside0 (d.length ≤ 200000) := ⟨by
    have := hP.length_eq
    have e0 := endsOf_length 0 l0
    have e1 := endsOf_length 1 l1
    have := HN.out
    rw [List.length_append] at *
    omega⟩
  have HDT : Aside0 (∀ x ∈ d, (x.2.1 = 0 ∨ x.2.1 = 1) ∧ (x.2.2 = 1 ∨ x.2.2 = -1)) := ⟨fun x hx => by
    rcases List.mem_append.1 ((hP.mem_iff).1 hx) with h | h
    · exact ⟨.inl (mem_endsOf h).1, (mem_endsOf h).2⟩
    · exact ⟨.inr (mem_endsOf h).1, (mem_endsOf h).2⟩⟩
  have hEV : EndsV w1 W.heap.size v d := by
    obtain ⟨A, c, hv, hl, hp⟩ := hE
    exact ⟨A, c, hv, hl, fun h0 => by
      obtain ⟨g, a1, a2, a3, a4⟩ := hp h0
      exact ⟨g, a1, by simp at a2; omega, a3, a4⟩⟩
  have hEV2 := hEV
  obtain ⟨A, c, hv, hdc, -⟩ := hEV2
  subst hv
  have HEV := Aside0.mk hEV
  clear q1 q2 hbA hE hP hS hb hb1 hEV HXS H0
  gi_wp2
  gi_loopw [7, 8, 18] (fun s b i wr => ∃ (k : Nat) (e0 e1 st : Int) (ins : Bool) (pre : List S40), k ≤ d.length ∧ s = .int .i64 st ∧ b = .bool ins ∧ i = .int .i64 k ∧ Aside0 (-(k : Int) ≤ e0 ∧ e0 ≤ k ∧ -(k : Int) ≤ e1 ∧ e1 ≤ k) ∧ Aside0 (pre ++ sweepX keep e0 e1 st ins (d.drop k) = xs) ∧ Aside0 (J pre wr) ∧
      Aside0 (SI W0 B1 B2 B3 (.slice A0 l0.length c0) (.slice A1 l1.length c1) (.func (.func fk) #[] #[]) wr) ∧ Aside0 (wr.heap[w1.heap.size]? = some (.cells #[.int .i64 e0, .int .i64 e1] 65 (0, 0))) ∧ Aside0 (EndsV wr W.heap.size (.slice A d.length c) d))
    (fun _ _ i _ => d.length - (intOf i).toNat)
  case atStart =>
    have hbn : Below w1.heap.size w1 (w1.alloc (.cells #[.int .i64 0, .int .i64 0] 65)) := below_alloc (Below.refl _ _) _
    refine ⟨0, 0, 0, 0, false, [], Nat.zero_le _, rfl, rfl, rfl, ⟨by omega⟩, ⟨by rw [List.drop_zero, List.nil_append]; exact HD.out⟩, ⟨HJ.out.none_ HJ1.out (below_alloc (Below.refl _ _) _)⟩, ⟨HSI1.out.step hbn⟩, ⟨heap_alloc_new w1 _⟩, ⟨HEV.out.keep fun g cs h => hbn.block g (Array.getElem?_eq_some_iff.1 h).1⟩⟩
  case round =>
    obtain ⟨k, e0, e1, st, ins, pre, hk, rfl, rfl, rfl, HB, HX, HJp, HSr, HDp, HEr⟩ := hrel
    by_cases hlt : k < d.length
    · have HER := Aside0.mk HEr.out
      obtain ⟨A', c', hv', hl', hp⟩ := HER.out
      obtain ⟨rfl, rfl⟩ : A = A' ∧ c = c' := by injection hv' with h1 _ h2; exact ⟨h1, h2⟩
      obtain ⟨g, hA, hgb, hg, hE, cs, hT⟩ := hp (by omega)
      subst hA
      obtain ⟨xa, xi, xt, hx⟩ : ∃ xa xi xt, d[k] = (xa, xi, xt) := ⟨_, _, _, rfl⟩
      have HXK := Aside0.mk hx
      obtain ⟨hxi, hxt⟩ := HDT.out d[k] (List.getElem_mem hlt)
      rw [hx] at hxi hxt
      simp only at hxi hxt
      obtain ⟨q, hq, rfl⟩ : ∃ q : Nat, q < 2 ∧ xi = q := by
        rcases hxi with h | h
        · exact ⟨0, by omega, by omega⟩
        · exact ⟨1, by omega, by omega⟩
      have hcell : ∀ j u, (encE (xa, (q : Int), xt))[j]? = some u → j < 3 → wr.cell? ⟨g, k * 3 + j, none⟩ = some u := fun j u hu hj => (hE (k * 3 + j) u (by rw [flatE_get d k j hlt hj, hx]; exact hu)).1
      have x0 : wr.cell? ⟨g, k * 3, none⟩ = some (.int .i64 xa) := hcell 0 _ rfl (by omega)
      have x1 : wr.cell? ⟨g, k * 3 + 1, none⟩ = some (.int .i64 q) := hcell 1 _ rfl (by omega)
      have x2 : wr.cell? ⟨g, k * 3 + 2, none⟩ = some (.int .i64 xt) := hcell 2 _ rfl (by omega)
      have hdg : w1.heap.size < wr.heap.size := (Array.getElem?_eq_some_iff.1 HDp.out).1
      obtain ⟨eq, hq1⟩ : ∃ eq : Int, eq = if q = 0 then e0 else e1 := ⟨_, rfl⟩
      have hdq : wr.cell? ⟨w1.heap.size, q, none⟩ = some (.int .i64 eq) := by
        obtain ⟨p0, p1, -, -⟩ := cells2 HDp.out
        rcases (show q = 0 ∨ q = 1 by omega) with rfl | rfl
        · rw [hq1]; exact p0
        · rw [hq1]; exact p1
      have hdf : wr.frozen? ⟨w1.heap.size, q, none⟩ = false := blk_frozen HDp.out q
      have HQ := Aside0.mk hq1
      have hqb : -200000 ≤ eq ∧ eq ≤ 200000 := by
        have := HB.out
        have := HDL.out
        rw [hq1]
        split <;> omega
      have hdk : decide (k < d.length) = true := by rw [decide_eq_true_iff]; exact hlt
      clear hv' hl' hp hcell hE hT hx hxi hq1 HER hgb
      have hmx : Try.prog.follows .mixedOrders = true := by kernel_rfl
      gi_wp2
      obtain ⟨V, hV⟩ : ∃ V, V = wr.alloc (Obj.cells #[Value.int IntKind.i64 xa, Value.int IntKind.i64 (q : Int), Value.int IntKind.i64 xt] 67) := ⟨_, rfl⟩
      have HV := Aside0.mk hV
      have hVb : Below wr.heap.size wr V := by rw [hV]; exact below_alloc (Below.refl _ _) _
      have hVn : V.heap[wr.heap.size]? = some (.cells #[.int .i64 xa, .int .i64 q, .int .i64 xt] 67 (0, 0)) := by rw [hV]; exact heap_alloc_new wr _
      have hVJ : J pre V := HJ.out.none_ HJp.out hVb
      have hVS := HSr.out.step hVb
      have hVD : V.heap[w1.heap.size]? = some (.cells #[.int .i64 e0, .int .i64 e1] 65 (0, 0)) := blk_of_below HDp.out hVb
      have hVE : EndsV V W.heap.size (.slice (some ⟨g, 0, none⟩) d.length c) d := HEr.out.keep fun g cs h => hVb.block g (Array.getElem?_eq_some_iff.1 h).1
      have hVz : V.heap.size = wr.heap.size + 1 := by rw [hV]; simp
      have y0 : V.cell? ⟨wr.heap.size, 0, none⟩ = some (.int .i64 xa) := (blk_cell hVn 0).trans rfl
      have y1 : V.cell? ⟨wr.heap.size, 1, none⟩ = some (.int .i64 q) := (blk_cell hVn 1).trans rfl
      have y2 : V.cell? ⟨wr.heap.size, 2, none⟩ = some (.int .i64 xt) := (blk_cell hVn 2).trans rfl
      have z0 : V.cell? ⟨w1.heap.size, q, none⟩ = some (.int .i64 eq) := pw_cell_below hVb hdq
      have z1 : V.frozen? ⟨w1.heap.size, q, none⟩ = false := blk_frozen hVD q
      have hsum : IntKind.i64.wrap (eq + xt) = eq + xt := by rw [i64_w, w64 _ (by omega) (by omega)]
      rw [← hV]
      have HVJ := Aside0.mk hVJ
      have HVS := Aside0.mk hVS
      have HVD := Aside0.mk hVD
      have HVE := Aside0.mk hVE
      have HVN := Aside0.mk hVn
      have HVZ := Aside0.mk hVz
      clear hV hVb hVn hVJ hVS hVD hVE hVz x0 x1 x2 hdq hdf
      gi_region
      obtain ⟨V2, hV2⟩ : ∃ V2, V2 = (V.setCell ⟨w1.heap.size, q, none⟩ (.int .i64 (eq + xt))).drew := ⟨_, rfl⟩
      rw [← hV2]
      obtain ⟨f0, f1, hf⟩ : ∃ f0 f1 : Int, (f0, f1) = (if q = 0 then (e0 + xt, e1) else (e0, e1 + xt)) := ⟨_, _, rfl⟩
      have HFB : Aside0 (-((k : Int) + 1) ≤ f0 ∧ f0 ≤ k + 1 ∧ -((k : Int) + 1) ≤ f1 ∧ f1 ≤ k + 1) := ⟨by
        have hB := HB.out
        rcases (show q = 0 ∨ q = 1 by omega) with rfl | rfl
        · rw [if_pos rfl] at hf; injection hf with h1 h2; omega
        · rw [if_neg (by decide)] at hf; injection hf with h1 h2; omega⟩
      have hVg : W.heap.size ≤ w1.heap.size := HSZ.out
      have HD2 : Aside0 (V2.heap[w1.heap.size]? = some (.cells #[.int .i64 f0, .int .i64 f1] 65 (0, 0))) := ⟨by
        rw [hV2]
        show (V.setCell ⟨w1.heap.size, q, none⟩ (.int .i64 (eq + xt))).heap[w1.heap.size]? = _
        rcases (show q = 0 ∨ q = 1 by omega) with rfl | rfl
        · rw [if_pos rfl] at hf; injection hf with h1 h2
          rw [set_pair0 HVD.out, h1, h2, HQ.out]; rfl
        · rw [if_neg (by decide)] at hf; injection hf with h1 h2
          rw [set_pair1 HVD.out, h1, h2, HQ.out]; rfl⟩
      have HJ2 : Aside0 (J pre V2) := ⟨by
        rw [hV2]
        exact HJ.out.none_ (HJ.out _ _ _ (some w1.heap.size) HVJ.out (grownBy_setCell_ V w1.heap.size q _) (fun r e => by cases e; exact ⟨hVg, _, _, HVD.out, rfl⟩)) (below_drew (Below.refl _ _))⟩
      have HS2 : Aside0 (SI W0 B1 B2 B3 (.slice A0 l0.length c0) (.slice A1 l1.length c1) (.func (.func fk) #[] #[]) V2) := ⟨by
        rw [hV2]
        have hb := HSI.out
        have l1' := (Array.getElem?_eq_some_iff.1 hb.b1).1
        have l2' := (Array.getElem?_eq_some_iff.1 hb.b2).1
        have l3' := (Array.getElem?_eq_some_iff.1 hb.b3).1
        have l4' := hb.below.size
        exact (HVS.out.set ⟨w1.heap.size, q, none⟩ _ (by simp only; omega) (by simp only; omega) (by simp only; omega) (by simp only; omega)).step (below_drew (Below.refl _ _))⟩
      have HE2 : Aside0 (EndsV V2 W.heap.size (.slice (some ⟨g, 0, none⟩) d.length c) d) := ⟨by
        rw [hV2]
        refine HVE.out.keep fun g cs h => ?_
        have hne : g ≠ w1.heap.size := by rintro rfl; rw [HVD.out] at h; simp at h
        exact Below.heap_setCell _ _ _ _ hne⟩
      have HN2 : Aside0 (V2.heap[wr.heap.size]? = some (.cells #[.int .i64 xa, .int .i64 q, .int .i64 xt] 67 (0, 0))) := ⟨by
        rw [hV2]
        exact (Below.heap_setCell _ _ _ _ (by simp only; omega)).trans HVN.out⟩
      have HF := Aside0.mk hf
      have y0 : V2.cell? ⟨wr.heap.size, 0, none⟩ = some (.int .i64 xa) := (blk_cell HN2.out 0).trans rfl
      clear hV2 hf z0 z1 hsum y1 y2
      have HST := Aside0.mk (sweepX_cons keep e0 e1 st ins (xa, (q : Int), xt) (d.drop (k + 1)) f0 f1 (by rw [HF.out]; simp only [Int.natCast_eq_zero]))
      have HDR : Aside0 (d.drop k = (xa, (q : Int), xt) :: d.drop (k + 1)) := ⟨by rw [List.drop_eq_getElem_cons hlt, HXK.out]⟩
      have hdl := HDL.out
      have hk5 : k ≤ 200000 := by omega
      have hkw : IntKind.i64.wrap ((k : Int) + 1) = (k : Int) + 1 := by rw [i64_w, w64 _ (by omega) (by omega)]
      have hEV2 := HE2.out
      obtain ⟨A3, c3, hv3, -, hp3⟩ := hEV2
      obtain ⟨g3, hA3, -, -, hE3, -⟩ := hp3 (by omega)
      injection hv3 with hA4 _ hc4
      rw [← hA4] at hA3
      injection hA3 with hA3
      injection hA3 with hA3 _ _
      subst hA3
      by_cases hk1 : k + 1 < d.length
      · obtain ⟨ya, hya⟩ : ∃ ya, ya = d[k + 1].1 := ⟨_, rfl⟩
        have n0 : V2.cell? ⟨g, (k + 1) * 3, none⟩ = some (.int .i64 ya) := (hE3 ((k + 1) * 3) _ (by
          have := flatE_get d (k + 1) 0 hk1 (by omega)
          rw [Nat.add_zero] at this
          rw [this, hya]; rfl)).1
        have HH : Aside0 ((d.drop (k + 1)).head?.map (·.1) = some ya) := ⟨by rw [List.drop_eq_getElem_cons hk1, hya]; rfl⟩
        clear hE3 hp3 hA4 hc4
        by_cases hs : ya = xa
        · clear hya
          subst hs
          have hkd : decide ((k : Int) + 1 < (d.length : Int)) = true := by rw [decide_eq_true_iff]; omega
          have hkn : ((k : Int) + 1).toNat = k + 1 := by omega
          have hk0 : (0 : Int) ≤ (k : Int) + 1 := by omega
          gi_wp2
          refine wpIn_region_quiet_lit_r (by rfl) hmx (by kernel_rfl) ?_
          repeat (gi_big_quiet_step (fail))
          refine wpQuietIn_nil ?_
          intro _ hw'
          obtain ⟨nq, hw''⟩ := hw'
          subst hw''
          obtain ⟨V3, hV3⟩ : ∃ V3, V3 = V2.drewN nq := ⟨_, rfl⟩
          have hb3 : Below V2.heap.size V2 V3 := by rw [hV3]; exact pw_below_drewN (Below.refl _ _) nq
          rw [← hV3]
          have HJ3 := Aside0.mk (HJ.out.none_ HJ2.out hb3)
          have HS3 := Aside0.mk (HS2.out.step hb3)
          have HD3 := Aside0.mk (blk_of_below HD2.out hb3)
          have HE3 := Aside0.mk (HE2.out.keep fun g cs h => hb3.block g (Array.getElem?_eq_some_iff.1 h).1)
          have HN3 := Aside0.mk (blk_of_below HN2.out hb3)
          clear hV3 hb3
          gi_wp2
          refine ⟨⟨k + 1, f0, f1, st, ins, pre, by omega, rfl, rfl, by go_num, ⟨by have := HFB.out; omega⟩, ⟨?_⟩, HJ3, HS3, HD3, HE3⟩, by simp [intOf]; omega⟩
          have := HX.out
          rw [HDR.out, HST.out, if_pos HH.out] at this
          exact this
        · have HNE : Aside0 (¬ ((d.drop (k + 1)).head?.map (·.1) = some xa)) := ⟨by rw [HH.out]; intro e; injection e with e; exact hs e⟩
          have hsd : decide (ya = xa) = false := by rw [decide_eq_false_iff_not]; exact hs
          have hse : ((ya : Int) == xa) = false := by simpa using hs
          have hkd : decide ((k : Int) + 1 < (d.length : Int)) = true := by rw [decide_eq_true_iff]; omega
          have hkn : ((k : Int) + 1).toNat = k + 1 := by omega
          have hk0 : (0 : Int) ≤ (k : Int) + 1 := by omega
          clear hya
          gi_wp2
          refine wpIn_region_quiet_lit_r (by rfl) hmx (by kernel_rfl) ?_
          repeat (gi_big_quiet_step (fail))
          refine wpQuietIn_nil ?_
          intro _ hw'
          obtain ⟨nq, hw''⟩ := hw'
          subst hw''
          obtain ⟨V3, hV3⟩ : ∃ V3, V3 = V2.drewN nq := ⟨_, rfl⟩
          have hb3 : Below V2.heap.size V2 V3 := by rw [hV3]; exact pw_below_drewN (Below.refl _ _) nq
          rw [← hV3]
          have HJ3 := Aside0.mk (HJ.out.none_ HJ2.out hb3)
          have HS3 := Aside0.mk (HS2.out.step hb3)
          have HD3 := Aside0.mk (blk_of_below HD2.out hb3)
          have HE3 := Aside0.mk (HE2.out.keep fun g cs h => hb3.block g (Array.getElem?_eq_some_iff.1 h).1)
          have HN3 := Aside0.mk (blk_of_below HN2.out hb3)
          clear hV3 hb3
          have k3 : V3.cell? ⟨B3, 0, none⟩ = some (.func (.func fk) #[] #[]) := (blk_cell HS3.out.b3 0).trans rfl
          have y3 : V3.cell? ⟨wr.heap.size, 0, none⟩ = some (.int .i64 xa) := (blk_cell HN3.out 0).trans rfl
          obtain ⟨p0, p1, -, -⟩ := cells2 HD3.out
          clear y0
          gi_wp2
          refine ⟨trivial, fun h => (by cases h), (callsIn_wide.2 (HK.out _ _ _)).mono ?_⟩
          rintro e w4 ⟨rfl, rfl⟩
          obtain ⟨now, hnow⟩ : ∃ b, keep (decide (0 < f0)) (decide (0 < f1)) = b := ⟨_, rfl⟩
          rw [hnow]
          have HNOW : Aside0 (keep (decide (f0 > 0)) (decide (f1 > 0)) = now) := ⟨hnow⟩
          clear hnow k3 p0 p1
          cases now
          · cases ins
            · gi_wp2
              refine ⟨fun _ h => (by cases h), ?_⟩
              gi_wp2
              refine ⟨⟨k + 1, f0, f1, st, false, pre, by omega, rfl, rfl, by go_num, ⟨by have := HFB.out; omega⟩, ⟨?_⟩, HJ3, HS3, HD3, HE3⟩, by simp [intOf]; omega⟩
              have := HX.out
              rw [HDR.out, HST.out, if_neg HNE.out, HNOW.out] at this
              exact this
            · have HXX : Aside0 (pre ++ (⟨st, wrap64 (xa - st)⟩ : S40) :: sweepX keep f0 f1 st false (d.drop (k + 1)) = xs) := ⟨by
                have := HX.out
                rw [HDR.out, HST.out, if_neg HNE.out, HNOW.out] at this
                exact this⟩
              obtain ⟨fn, tmps, assign, body, hy, hR⟩ := HY.out pre ⟨st, wrap64 (xa - st)⟩ w4 HJ3.out ⟨sweepX keep f0 f1 st false (d.drop (k + 1)), by rw [← HXX.out]; simp⟩
              have HRR := Aside0.mk hR
              clear hR
              gi_wp2
              refine ⟨fun h => (by cases h), HRR.out.mono ?_⟩
              rintro e W3 ⟨rfl, hJ4, hk4⟩
              have HJ4 := Aside0.mk hJ4
              have HS4 := Aside0.mk (HS3.out.kp hk4)
              have HD4 := Aside0.mk (hk4.ty _ _ _ (.inl rfl) HD3.out)
              have HE4 := Aside0.mk (HE3.out.kp hk4)
              clear hJ4 hk4 hy
              gi_wp2
              refine ⟨⟨k + 1, f0, f1, st, false, pre ++ [(⟨st, wrap64 (xa - st)⟩ : S40)], by omega, rfl, rfl, by go_num, ⟨by have := HFB.out; omega⟩, ⟨?_⟩, HJ4, HS4, HD4, HE4⟩, by simp [intOf]; omega⟩
              rw [← HXX.out]; simp
          · cases ins
            · gi_wp2
              refine ⟨fun _ h => (by cases h), ?_⟩
              gi_wp2
              refine ⟨⟨k + 1, f0, f1, xa, true, pre, by omega, rfl, rfl, by go_num, ⟨by have := HFB.out; omega⟩, ⟨?_⟩, HJ3, HS3, HD3, HE3⟩, by simp [intOf]; omega⟩
              have := HX.out
              rw [HDR.out, HST.out, if_neg HNE.out, HNOW.out] at this
              exact this
            · gi_wp2
              refine ⟨fun _ h => (by cases h), ?_⟩
              gi_wp2
              refine ⟨⟨k + 1, f0, f1, st, true, pre, by omega, rfl, rfl, by go_num, ⟨by have := HFB.out; omega⟩, ⟨?_⟩, HJ3, HS3, HD3, HE3⟩, by simp [intOf]; omega⟩
              have := HX.out
              rw [HDR.out, HST.out, if_neg HNE.out, HNOW.out] at this
              exact this
      · have HNE : Aside0 (¬ ((d.drop (k + 1)).head?.map (·.1) = some xa)) := ⟨by rw [List.drop_eq_nil_of_le (by omega)]; simp⟩
        have hkd : decide ((k : Int) + 1 < (d.length : Int)) = false := by rw [decide_eq_false_iff_not]; omega
        clear hE3 hp3 hA4 hc4
        gi_wp2
        refine wpIn_region_quiet_lit_r (by rfl) hmx (by kernel_rfl) ?_
        repeat (gi_big_quiet_step (fail))
        refine wpQuietIn_nil ?_
        intro _ hw'
        obtain ⟨nq, hw''⟩ := hw'
        subst hw''
        obtain ⟨V3, hV3⟩ : ∃ V3, V3 = V2.drewN nq := ⟨_, rfl⟩
        have hb3 : Below V2.heap.size V2 V3 := by rw [hV3]; exact pw_below_drewN (Below.refl _ _) nq
        rw [← hV3]
        have HJ3 := Aside0.mk (HJ.out.none_ HJ2.out hb3)
        have HS3 := Aside0.mk (HS2.out.step hb3)
        have HD3 := Aside0.mk (blk_of_below HD2.out hb3)
        have HE3 := Aside0.mk (HE2.out.keep fun g cs h => hb3.block g (Array.getElem?_eq_some_iff.1 h).1)
        have HN3 := Aside0.mk (blk_of_below HN2.out hb3)
        clear hV3 hb3
        have k3 : V3.cell? ⟨B3, 0, none⟩ = some (.func (.func fk) #[] #[]) := (blk_cell HS3.out.b3 0).trans rfl
        have y3 : V3.cell? ⟨wr.heap.size, 0, none⟩ = some (.int .i64 xa) := (blk_cell HN3.out 0).trans rfl
        obtain ⟨p0, p1, -, -⟩ := cells2 HD3.out
        clear y0
        gi_wp2
        refine ⟨trivial, fun h => (by cases h), (callsIn_wide.2 (HK.out _ _ _)).mono ?_⟩
        rintro e w4 ⟨rfl, rfl⟩
        obtain ⟨now, hnow⟩ : ∃ b, keep (decide (0 < f0)) (decide (0 < f1)) = b := ⟨_, rfl⟩
        rw [hnow]
        have HNOW : Aside0 (keep (decide (f0 > 0)) (decide (f1 > 0)) = now) := ⟨hnow⟩
        clear hnow k3 p0 p1
        cases now
        · cases ins
          · gi_wp2
            refine ⟨fun _ h => (by cases h), ?_⟩
            gi_wp2
            refine ⟨⟨k + 1, f0, f1, st, false, pre, by omega, rfl, rfl, by go_num, ⟨by have := HFB.out; omega⟩, ⟨?_⟩, HJ3, HS3, HD3, HE3⟩, by simp [intOf]; omega⟩
            have := HX.out
            rw [HDR.out, HST.out, if_neg HNE.out, HNOW.out] at this
            exact this
          · have HXX : Aside0 (pre ++ (⟨st, wrap64 (xa - st)⟩ : S40) :: sweepX keep f0 f1 st false (d.drop (k + 1)) = xs) := ⟨by
              have := HX.out
              rw [HDR.out, HST.out, if_neg HNE.out, HNOW.out] at this
              exact this⟩
            obtain ⟨fn, tmps, assign, body, hy, hR⟩ := HY.out pre ⟨st, wrap64 (xa - st)⟩ w4 HJ3.out ⟨sweepX keep f0 f1 st false (d.drop (k + 1)), by rw [← HXX.out]; simp⟩
            have HRR := Aside0.mk hR
            clear hR
            gi_wp2
            refine ⟨fun h => (by cases h), HRR.out.mono ?_⟩
            rintro e W3 ⟨rfl, hJ4, hk4⟩
            have HJ4 := Aside0.mk hJ4
            have HS4 := Aside0.mk (HS3.out.kp hk4)
            have HD4 := Aside0.mk (hk4.ty _ _ _ (.inl rfl) HD3.out)
            have HE4 := Aside0.mk (HE3.out.kp hk4)
            clear hJ4 hk4 hy
            gi_wp2
            refine ⟨⟨k + 1, f0, f1, st, false, pre ++ [(⟨st, wrap64 (xa - st)⟩ : S40)], by omega, rfl, rfl, by go_num, ⟨by have := HFB.out; omega⟩, ⟨?_⟩, HJ4, HS4, HD4, HE4⟩, by simp [intOf]; omega⟩
            rw [← HXX.out]; simp
        · cases ins
          · gi_wp2
            refine ⟨fun _ h => (by cases h), ?_⟩
            gi_wp2
            refine ⟨⟨k + 1, f0, f1, xa, true, pre, by omega, rfl, rfl, by go_num, ⟨by have := HFB.out; omega⟩, ⟨?_⟩, HJ3, HS3, HD3, HE3⟩, by simp [intOf]; omega⟩
            have := HX.out
            rw [HDR.out, HST.out, if_neg HNE.out, HNOW.out] at this
            exact this
          · gi_wp2
            refine ⟨fun _ h => (by cases h), ?_⟩
            gi_wp2
            refine ⟨⟨k + 1, f0, f1, st, true, pre, by omega, rfl, rfl, by go_num, ⟨by have := HFB.out; omega⟩, ⟨?_⟩, HJ3, HS3, HD3, HE3⟩, by simp [intOf]; omega⟩
            have := HX.out
            rw [HDR.out, HST.out, if_neg HNE.out, HNOW.out] at this
            exact this
    · obtain rfl : k = d.length := by omega
      have hpx : pre = xs := by
        have := HX.out
        rw [List.drop_length, sweepX, List.append_nil] at this
        exact this
      have HPX := Aside0.mk hpx
      clear hpx
      gi_wp2
      go_end0
      exact ⟨⟨_, rfl⟩, by rw [← HPX.out]; exact HJp.out⟩
end Go.Proofs.Yteeedheklnelkaa.P

namespace Go.Proofs.Yteeedheklnelkaa.P
open Go.RowKit
def part (i t : Int) (x : Int × Int × Int) : Int := if x.2.1 = i ∧ x.1 ≤ t then x.2.2 else 0
/-- The steps of list i at ends up to t. -/
def depS (i t : Int) : List (Int × Int × Int) → Int
  | [] => 0
  | x :: r => part i t x + depS i t r
theorem depS_append (i t : Int) : ∀ l m, depS i t (l ++ m) = depS i t l + depS i t m
  | [], m => by simp [depS]
  | x :: l, m => by rw [List.cons_append, depS, depS, depS_append i t l m, Int.add_assoc]
theorem depS_perm (i t : Int) {l m : List (Int × Int × Int)} (h : List.Perm l m) : depS i t l = depS i t m := by
  induction h with
  | nil => rfl
  | cons x _ ih => rw [depS, depS, ih]
  | swap x y l => simp only [depS]; omega
  | trans _ _ h1 h2 => exact h1.trans h2
theorem wI_ok {e : S40} (h : (wI e).2.2 = true) : 0 ≤ (wI e).1 ∧ (wI e).1 < (wI e).2.1 ∧ (wI e).2.1 ≤ 4096 := by
  have he := wI_eq e.f0 e.f1
  have hx : (⟨e.f0, e.f1⟩ : S40) = e := rfl
  rw [hx] at he
  generalize wI e = q at he h
  unfold xwithin.f at he
  simp only [mx_eq, mn_eq] at he
  split at he
  · have := Option.some.inj he
    subst this
    cases h
  · split at he
    · have := Option.some.inj he
      subst this
      simp only [decide_eq_true_eq] at h ⊢
      omega
    · split at he
      · have := Option.some.inj he
        subst this
        simp only [decide_eq_true_eq] at h ⊢
        omega
      · have := Option.some.inj he
        subst this
        simp only [decide_eq_true_eq] at h ⊢
        omega
/-- How many extents of a list hold a place. -/
def cnt (t : Int) : List S40 → Int
  | [] => 0
  | e :: l => (if inE e t then 1 else 0) + cnt t l
theorem cnt_nonneg (t : Int) : ∀ l, 0 ≤ cnt t l
  | [] => Int.le_refl _
  | e :: l => by have := cnt_nonneg t l; rw [cnt]; split <;> omega
theorem cnt_pos (t : Int) : ∀ l, decide (cnt t l > 0) = inL l t
  | [] => rfl
  | e :: l => by
    have h := cnt_pos t l
    have h0 := cnt_nonneg t l
    unfold inL at h ⊢
    rw [List.any_cons, ← h, cnt]
    cases inE e t
    · simp
    · simp; omega
theorem dep_endsE (i t : Int) (e : S40) : depS i t (endsE i e) = if inE e t then 1 else 0 := by
  unfold endsE inE
  cases h : (wI e).2.2
  · simp [depS]
  · obtain ⟨h0, h1, h2⟩ := wI_ok h
    rw [if_pos rfl]
    simp only [depS, part, true_and, Bool.true_and, decide_eq_true_eq]
    by_cases ha : (wI e).1 ≤ t
    · by_cases hb : (wI e).2.1 ≤ t
      · rw [if_pos ha, if_pos hb, if_neg (by omega)]; omega
      · rw [if_pos ha, if_neg hb, if_pos (by omega)]; omega
    · rw [if_neg ha, if_neg (by omega), if_neg (by omega)]; omega
theorem dep_other {i j : Int} (h : i ≠ j) (t : Int) (e : S40) : depS i t (endsE j e) = 0 := by
  unfold endsE
  split
  · have hj : ¬ j = i := fun hh => h hh.symm
    simp [depS, part, hj]
  · rfl
theorem dep_endsOf (i t : Int) : ∀ l, depS i t (endsOf i l) = cnt t l
  | [] => rfl
  | e :: l => by
    have h := dep_endsOf i t l
    unfold endsOf at h ⊢
    rw [List.flatMap_cons, depS_append, dep_endsE, h, cnt]
theorem dep_endsOf_other {i j : Int} (h : i ≠ j) (t : Int) : ∀ l, depS i t (endsOf j l) = 0
  | [] => rfl
  | e :: l => by
    have h' := dep_endsOf_other h t l
    unfold endsOf at h' ⊢
    rw [List.flatMap_cons, depS_append, dep_other h, h']; rfl
theorem dep_before (i t : Int) : ∀ r : List (Int × Int × Int), (∀ x ∈ r, t < x.1) → depS i t r = 0
  | [], _ => rfl
  | x :: r, h => by
    have hx := h x List.mem_cons_self
    rw [depS, dep_before i t r (fun y hy => h y (List.mem_cons_of_mem _ hy)), part, if_neg (by omega)]; rfl
theorem sweep_spec (keep : Bool → Bool → Bool) : ∀ (r : List (Int × Int × Int)) (c0 c1 st T p : Int) (ins : Bool), r.Pairwise (fun x y => x.1 ≤ y.1) → (∀ x ∈ r, T ≤ x.1) → (∀ x ∈ r, (x.2.1 = 0 ∨ x.2.1 = 1) ∧ 0 ≤ x.1 ∧ x.1 ≤ 4096) →
    ((∃ x, r.head? = some x ∧ x.1 = T) ∨ ins = keep (decide (c0 > 0)) (decide (c1 > 0))) → keep (decide (c0 + depS 0 4096 r > 0)) (decide (c1 + depS 1 4096 r > 0)) = false →
    (ins = true → p < st ∧ st < T ∧ 0 ≤ st) → (ins = false → p ≤ T ∧ (p < T ∨ ∀ x ∈ r, T < x.1)) →
    Asc p (sweepX keep c0 c1 st ins r) ∧ ∀ t, Cov (sweepX keep c0 c1 st ins r) t ↔ (ins = true ∧ st ≤ t ∧ t < T) ∨ (T ≤ t ∧ keep (decide (c0 + depS 0 t r > 0)) (decide (c1 + depS 1 t r > 0)) = true) := by
  intro r
  induction r with
  | nil =>
    intro c0 c1 st T p ins _ _ _ hh hf _ _
    have hi : ins = keep (decide (c0 > 0)) (decide (c1 > 0)) := by
      rcases hh with ⟨x, hx, _⟩ | hh
      · cases hx
      · exact hh
    simp only [depS, Int.add_zero] at hf ⊢
    rw [hf] at hi
    subst hi
    rw [sweepX, hf]
    refine ⟨trivial, fun t => ⟨fun h => absurd h (cov_nil _), ?_⟩⟩
    rintro (⟨h, _⟩ | ⟨_, h⟩) <;> cases h
  | cons x r ih =>
    intro c0 c1 st T p ins hs hT hb hh hf hi1 hi0
    obtain ⟨a, i, s⟩ := x
    obtain ⟨hbi, hb0, hb1⟩ := hb _ List.mem_cons_self
    have hTa := hT _ List.mem_cons_self
    simp only at hbi hb0 hb1 hTa
    obtain ⟨hsx, hsr⟩ := List.pairwise_cons.1 hs
    simp only at hsx
    obtain ⟨f0, f1, hf01⟩ : ∃ f0 f1 : Int, (f0, f1) = if i = 0 then (c0 + s, c1) else (c0, c1 + s) := ⟨_, _, rfl⟩
    rw [sweepX_cons keep c0 c1 st ins (a, i, s) r f0 f1 hf01]
    simp only
    -- what the steps come to, before and behind a
    have hlt : ∀ t, t < a → depS 0 t ((a, i, s) :: r) = 0 ∧ depS 1 t ((a, i, s) :: r) = 0 := fun t ht => by
      have hall : ∀ y ∈ (a, i, s) :: r, t < y.1 := fun y hy => by
        rcases List.mem_cons.1 hy with rfl | hy
        · exact ht
        · have := hsx y hy; omega
      exact ⟨dep_before 0 t _ hall, dep_before 1 t _ hall⟩
    have hge : ∀ t, a ≤ t → c0 + depS 0 t ((a, i, s) :: r) = f0 + depS 0 t r ∧ c1 + depS 1 t ((a, i, s) :: r) = f1 + depS 1 t r := fun t ht => by
      simp only [depS, part]
      rcases hbi with rfl | rfl
      · rw [if_pos rfl] at hf01
        injection hf01 with e1 e2
        rw [if_pos ⟨rfl, ht⟩, if_neg (by omega)]; omega
      · rw [if_neg (by decide)] at hf01
        injection hf01 with e1 e2
        rw [if_neg (by omega), if_pos ⟨rfl, ht⟩]; omega
    have hbr : ∀ x ∈ r, (x.2.1 = 0 ∨ x.2.1 = 1) ∧ 0 ≤ x.1 ∧ x.1 ≤ 4096 := fun y hy => hb y (List.mem_cons_of_mem _ hy)
    have hfr : keep (decide (f0 + depS 0 4096 r > 0)) (decide (f1 + depS 1 4096 r > 0)) = false := by
      have := hge 4096 hb1
      rw [← this.1, ← this.2]; exact hf
    have hins : T < a → ins = keep (decide (c0 > 0)) (decide (c1 > 0)) := fun h => by
      rcases hh with ⟨y, hy, hyT⟩ | hh
      · injection hy with hy
        subst hy
        simp only at hyT
        omega
      · exact hh
    have hK : ∀ t, T ≤ t → t < a → keep (decide (c0 + depS 0 t ((a, i, s) :: r) > 0)) (decide (c1 + depS 1 t ((a, i, s) :: r) > 0)) = ins := fun t h1 h2 => by
      rw [(hlt t h2).1, (hlt t h2).2, Int.add_zero, Int.add_zero, ← hins (by omega)]
    have hp : ins = false → p < a ∨ (p ≤ a ∧ ∀ x ∈ r, a < x.1) := fun h => by
      obtain ⟨h1, h2⟩ := hi0 h
      rcases h2 with h2 | h2
      · left; omega
      · have := h2 _ List.mem_cons_self
        simp only at this
        left; omega
    by_cases hsame : r.head?.map (·.1) = some a
    · rw [if_pos hsame]
      have hhd : ∃ x, r.head? = some x ∧ x.1 = a := by
        cases hr : r.head? with
        | none => rw [hr] at hsame; cases hsame
        | some y => rw [hr] at hsame; exact ⟨y, rfl, Option.some.inj hsame⟩
      obtain ⟨hA, hC⟩ := ih f0 f1 st a p ins hsr hsx hbr (.inl hhd) hfr (fun h => ⟨(hi1 h).1, by have := (hi1 h).2.1; omega, (hi1 h).2.2⟩) (fun h => by
        rcases hp h with h1 | h1
        · exact ⟨by omega, .inl h1⟩
        · exact ⟨h1.1, .inr h1.2⟩)
      refine ⟨hA, fun t => ?_⟩
      rw [hC t]
      rcases Int.lt_or_le t a with ht | ht
      · constructor
        · rintro (⟨h1, h2, h3⟩ | ⟨h1, h2⟩)
          · rcases Int.lt_or_le t T with h4 | h4
            · exact .inl ⟨h1, h2, h4⟩
            · exact .inr ⟨h4, by rw [hK t h4 ht]; exact h1⟩
          · omega
        · rintro (⟨h1, h2, h3⟩ | ⟨h1, h2⟩)
          · exact .inl ⟨h1, h2, by omega⟩
          · rw [hK t h1 ht] at h2
            exact .inl ⟨h2, by have := (hi1 h2).2.1; omega, ht⟩
      · rw [(hge t ht).1, (hge t ht).2]
        constructor
        · rintro (⟨h1, h2, h3⟩ | ⟨h1, h2⟩)
          · omega
          · exact .inr ⟨by omega, h2⟩
        · rintro (⟨h1, h2, h3⟩ | ⟨h1, h2⟩)
          · omega
          · exact .inr ⟨ht, h2⟩
    · rw [if_neg hsame]
      have hgt : ∀ x ∈ r, a + 1 ≤ x.1 := fun y hy => by
        cases r with
        | nil => cases hy
        | cons z r' =>
          have hz := hsx z List.mem_cons_self
          have hne : z.1 ≠ a := fun h => hsame (by simp [h])
          rcases List.mem_cons.1 hy with rfl | hy
          · omega
          · have := (List.pairwise_cons.1 hsr).1 y hy; omega
      obtain ⟨now, hnow⟩ : ∃ now, now = keep (decide (f0 > 0)) (decide (f1 > 0)) := ⟨_, rfl⟩
      rw [← hnow]
      have hKa : keep (decide (f0 + depS 0 a r > 0)) (decide (f1 + depS 1 a r > 0)) = now := by
        rw [dep_before 0 a r (fun y hy => by have := hgt y hy; omega), dep_before 1 a r (fun y hy => by have := hgt y hy; omega), Int.add_zero, Int.add_zero, hnow]
      have fin : ∀ (L : List S40) (q : Prop), (∀ t, Cov L t ↔ (q ∧ t < a) ∧ (T ≤ t ∨ t < T) ∧ Cov L t ∨ Cov L t) := fun L q t => ⟨fun h => .inr h, fun h => h.elim (fun h => h.2.2) id⟩
      clear fin
      cases now <;> cases ins
      · -- neither
        rw [if_neg (by decide), if_neg (by decide)]
        obtain ⟨hA, hC⟩ := ih f0 f1 st (a + 1) p false hsr hgt hbr (.inr hnow) hfr (fun h => by cases h) (fun _ => by
          rcases hp rfl with h1 | h1
          · exact ⟨by omega, .inl (by omega)⟩
          · exact ⟨by omega, .inl (by omega)⟩)
        refine ⟨hA, fun t => ?_⟩
        rw [hC t]
        rcases Int.lt_or_le t a with ht | ht
        · constructor
          · rintro (⟨h1, _⟩ | ⟨h1, h2⟩)
            · cases h1
            · omega
          · rintro (⟨h1, _⟩ | ⟨h1, h2⟩)
            · cases h1
            · rw [hK t h1 ht] at h2; cases h2
        · rw [(hge t ht).1, (hge t ht).2]
          constructor
          · rintro (⟨h1, _⟩ | ⟨h1, h2⟩)
            · cases h1
            · exact .inr ⟨by omega, h2⟩
          · rintro (⟨h1, _⟩ | ⟨h1, h2⟩)
            · cases h1
            · rcases Int.lt_or_le a t with h3 | h3
              · exact .inr ⟨by omega, h2⟩
              · obtain rfl : t = a := by omega
                rw [hKa] at h2; cases h2
      · -- it ends
        rw [if_neg (by decide), if_pos (by decide)]
        obtain ⟨q1, q2, q3⟩ := hi1 rfl
        obtain ⟨hA, hC⟩ := ih f0 f1 st (a + 1) a false hsr hgt hbr (.inr hnow) hfr (fun h => by cases h) (fun _ => ⟨by omega, .inl (by omega)⟩)
        have hw : wrap64 (a - st) = a - st := w64 _ (by omega) (by omega)
        rw [hw]
        refine ⟨⟨q1, by simp only; omega, ?_⟩, fun t => ?_⟩
        · have e : st + (a - st) = a := by omega
          simp only [e]; exact hA
        · rw [cov_cons, hC t]
          simp only
          rcases Int.lt_or_le t a with ht | ht
          · constructor
            · rintro (h1 | ⟨h1, _⟩ | ⟨h1, h2⟩)
              · rcases Int.lt_or_le t T with h4 | h4
                · exact .inl ⟨trivial, h1.1, h4⟩
                · exact .inr ⟨h4, hK t h4 ht⟩
              · cases h1
              · omega
            · rintro (⟨_, h2, h3⟩ | ⟨h1, h2⟩)
              · exact .inl ⟨h2, by omega⟩
              · exact .inl ⟨by omega, by omega⟩
          · rw [(hge t ht).1, (hge t ht).2]
            constructor
            · rintro (h1 | ⟨h1, _⟩ | ⟨h1, h2⟩)
              · omega
              · cases h1
              · exact .inr ⟨by omega, h2⟩
            · rintro (⟨_, h2, h3⟩ | ⟨h1, h2⟩)
              · omega
              · rcases Int.lt_or_le a t with h3 | h3
                · exact .inr (.inr ⟨by omega, h2⟩)
                · obtain rfl : t = a := by omega
                  rw [hKa] at h2; cases h2
      · -- it begins
        rw [if_pos (by decide)]
        have hpa : p < a := by
          rcases hp rfl with h1 | h1
          · exact h1
          · obtain ⟨h2, h3⟩ := hi0 rfl
            rcases h3 with h3 | h3
            · omega
            · have := h3 _ List.mem_cons_self
              simp only at this
              omega
        obtain ⟨hA, hC⟩ := ih f0 f1 a (a + 1) p true hsr hgt hbr (.inr hnow) hfr (fun _ => ⟨hpa, by omega, hb0⟩) (fun h => by cases h)
        refine ⟨hA, fun t => ?_⟩
        rw [hC t]
        rcases Int.lt_or_le t a with ht | ht
        · constructor
          · rintro (⟨_, h2, h3⟩ | ⟨h1, h2⟩) <;> omega
          · rintro (⟨h1, _⟩ | ⟨h1, h2⟩)
            · cases h1
            · rw [hK t h1 ht] at h2; cases h2
        · rw [(hge t ht).1, (hge t ht).2]
          constructor
          · rintro (⟨_, h2, h3⟩ | ⟨h1, h2⟩)
            · obtain rfl : t = a := by omega
              exact .inr ⟨hTa, hKa⟩
            · exact .inr ⟨by omega, h2⟩
          · rintro (⟨h1, _⟩ | ⟨h1, h2⟩)
            · cases h1
            · rcases Int.lt_or_le a t with h3 | h3
              · exact .inr ⟨by omega, h2⟩
              · exact .inl ⟨rfl, ht, by omega⟩
      · -- it goes on
        rw [if_neg (by decide), if_neg (by decide)]
        obtain ⟨q1, q2, q3⟩ := hi1 rfl
        obtain ⟨hA, hC⟩ := ih f0 f1 st (a + 1) p true hsr hgt hbr (.inr hnow) hfr (fun _ => ⟨q1, by omega, q3⟩) (fun h => by cases h)
        refine ⟨hA, fun t => ?_⟩
        rw [hC t]
        rcases Int.lt_or_le t a with ht | ht
        · constructor
          · rintro (⟨_, h2, h3⟩ | ⟨h1, h2⟩)
            · rcases Int.lt_or_le t T with h4 | h4
              · exact .inl ⟨rfl, h2, h4⟩
              · exact .inr ⟨h4, hK t h4 ht⟩
            · omega
          · rintro (⟨_, h2, h3⟩ | ⟨h1, h2⟩)
            · exact .inl ⟨rfl, h2, by omega⟩
            · exact .inl ⟨rfl, by omega, by omega⟩
        · rw [(hge t ht).1, (hge t ht).2]
          constructor
          · rintro (⟨_, h2, h3⟩ | ⟨h1, h2⟩)
            · obtain rfl : t = a := by omega
              exact .inr ⟨hTa, hKa⟩
            · exact .inr ⟨by omega, h2⟩
          · rintro (⟨_, h2, h3⟩ | ⟨h1, h2⟩)
            · omega
            · rcases Int.lt_or_le a t with h3 | h3
              · exact .inr ⟨by omega, h2⟩
              · exact .inl ⟨rfl, by omega, by omega⟩
theorem ends_range {i : Int} {l : List S40} {x : Int × Int × Int} (h : x ∈ endsOf i l) : 0 ≤ x.1 ∧ x.1 ≤ 4096 := by
  unfold endsOf at h
  rw [List.mem_flatMap] at h
  obtain ⟨e, _, h⟩ := h
  unfold endsE at h
  split at h
  · rename_i hok
    obtain ⟨h0, h1, h2⟩ := wI_ok hok
    simp only [List.mem_cons, List.not_mem_nil, or_false] at h
    rcases h with rfl | rfl
    · simp only; omega
    · simp only; omega
  · cases h
theorem inL_range {l : List S40} {t : Int} (h : inL l t = true) : 0 ≤ t ∧ t < 4096 := by
  unfold inL at h
  rw [List.any_eq_true] at h
  obtain ⟨e, _, h⟩ := h
  unfold inE at h
  rw [Bool.and_eq_true, decide_eq_true_iff] at h
  obtain ⟨h0, h1, h2⟩ := wI_ok h.1
  omega
theorem sweep_canon (keep : Bool → Bool → Bool) (h00 : keep false false = false) (l0 l1 : List S40) (_hN : l0.length + l1.length ≤ 100000) (d : List (Int × Int × Int)) (hp : List.Perm d (endsOf 0 l0 ++ endsOf 1 l1)) (hs : d.Pairwise (fun x y => x.1 ≤ y.1)) :
    sweepX keep 0 0 0 false d = canon fun j => keep (inL l0 j) (inL l1 j) := by
  have hd0 : ∀ t, depS 0 t d = cnt t l0 := fun t => by rw [depS_perm 0 t hp, depS_append, dep_endsOf, dep_endsOf_other (by decide), Int.add_zero]
  have hd1 : ∀ t, depS 1 t d = cnt t l1 := fun t => by rw [depS_perm 1 t hp, depS_append, dep_endsOf, dep_endsOf_other (by decide), Int.zero_add]
  have hmem : ∀ x ∈ d, (x.2.1 = 0 ∨ x.2.1 = 1) ∧ 0 ≤ x.1 ∧ x.1 ≤ 4096 := fun x hx => by
    rcases List.mem_append.1 ((hp.mem_iff).1 hx) with h | h
    · exact ⟨.inl (mem_endsOf h).1, ends_range h⟩
    · exact ⟨.inr (mem_endsOf h).1, ends_range h⟩
  have hout : ∀ (l : List S40) (t : Int), ¬ (0 ≤ t ∧ t < 4096) → inL l t = false := fun l t h => by
    cases hb : inL l t
    · rfl
    · exact absurd (inL_range hb) h
  have hk : ∀ t, keep (decide (0 + depS 0 t d > 0)) (decide (0 + depS 1 t d > 0)) = keep (inL l0 t) (inL l1 t) := fun t => by rw [Int.zero_add, Int.zero_add, hd0, hd1, cnt_pos, cnt_pos]
  obtain ⟨hA, hC⟩ := sweep_spec keep d 0 0 0 0 (-1) false hs (fun x hx => (hmem x hx).2.1) hmem (.inr (by simp [h00])) (by rw [hk 4096, hout l0 4096 (by omega), hout l1 4096 (by omega), h00]) (fun h => by cases h) (fun _ => ⟨by omega, .inl (by omega)⟩)
  refine canon_of hA fun t => ?_
  rw [hC t, hk t]
  constructor
  · rintro (⟨h, _⟩ | ⟨h1, h2⟩)
    · cases h
    · refine ⟨h1, ?_, ?_⟩
      · rcases Int.lt_or_le t 4096 with h3 | h3
        · exact h3
        · rw [hout l0 t (by omega), hout l1 t (by omega), h00] at h2; cases h2
      · show keep (inL l0 (t.toNat : Int)) (inL l1 (t.toNat : Int)) = true
        rw [Int.toNat_of_nonneg h1]; exact h2
  · rintro ⟨h1, h2, h3⟩
    have h3 : keep (inL l0 (t.toNat : Int)) (inL l1 (t.toNat : Int)) = true := h3
    rw [Int.toNat_of_nonneg h1] at h3
    exact .inr ⟨h1, h3⟩
end Go.Proofs.Yteeedheklnelkaa.P

namespace Go.Proofs.Yteeedheklnelkaa.P
open Go.RowKit Go.Proofs.YteeedheklnelkaaW.PrintWords Go.Proofs.YteeedheklnelkaaW.PrintLast Go.Proofs.YteeedheklnelkaaW.PrintMore
attribute [local go_sem] max2_int min2_int max_two min_two max_three min_three max_four min_four   -- for this text's walks alone
set_option linter.unusedVariables false
set_option linter.unusedSimpArgs false
theorem eqA40 (d : Nat) (w : World) (x0 y0 : Int) (x1 y1 : Int) :
    (Op.equalIn (d + 2) 40 (.agg #[.int .i64 x0, .int .i64 x1]) (.agg #[.int .i64 y0, .int .i64 y1])).run Try.prog w = .ok (x0 == y0 && (x1 == y1)) w := by
  refine eqA_of Try.underlying40 (by kernel_rfl) ?_
  refine eqf_cons (by rfl) (by go_simp; rfl) (by go_simp; rfl) (by go_simp) ?_
  exact eqf_last (by rfl) (by go_simp; rfl) (by go_simp; rfl) (by go_simp)
end Go.Proofs.Yteeedheklnelkaa.P

namespace Go.Proofs.Yteeedheklnelkaa.P
open Go.RowKit Go.Shelf Go.Proofs.YteeedheklnelkaaW.PrintWords Go.Proofs.YteeedheklnelkaaW.PrintLast Go.Proofs.YteeedheklnelkaaW.PrintMore
attribute [local go_sem] Oper.semAt_some
attribute [local go_sem] max2_int min2_int max_two min_two max_three min_three max_four min_four
/-- The cells of a list of extents. -/
def flat (l : List S40) : List Value := l.flatMap fun e => [.int .i64 e.f0, .int .i64 e.f1]
theorem flat_append (l m : List S40) : flat (l ++ m) = flat l ++ flat m := by simp [flat]
theorem infoExt : (Try.prog.info? 40).map (fun i => (i.zero, i.size, i.bytes)) = some (some (.agg #[.int .i64 0, .int .i64 0]), 2, 16) := by kernel_rfl
theorem cells_two_new (W : World) (a b : Value) (t : TypeId) : ∀ j u, ([a, b] : List Value)[j]? = some u → (W.alloc (.cells #[a, b] t)).cell? ((⟨W.heap.size, 0, none⟩ : Addr).add j) = some u := by
  intro j u hj
  rw [add_plain]
  have h := blk_cell (heap_alloc_new W (.cells #[a, b] t)) j
  rw [h]
  simpa using hj
theorem reps_flat (w : World) (base : Nat) (ok : Nat → Prop) (l : List S40) : Reps (k40.M w base ok) 2 l (flat l) := by
  suffices h : ∀ (m l : List S40), Reps (k40.M w base ok) 2 m (flat m) → Reps (k40.M w base ok) 2 (m ++ l) (flat (m ++ l)) by simpa using h [] l (Reps.none _ _)
  intro m l
  induction l generalizing m with
  | nil => intro h; simpa using h
  | cons a l ih =>
    intro h
    have := ih (m ++ [a]) (by rw [flat_append]; exact h.snoc (k40_mkM w base ok a) rfl)
    simpa using this
theorem KpX.alloc {n₀ B1 B2 B3 : Nat} {W : World} (h0 : n₀ ≤ W.heap.size) (h1 : B1 < W.heap.size) (h2 : B2 < W.heap.size) (h3 : B3 < W.heap.size) (o : Obj) : KpX n₀ B1 B2 B3 W (W.alloc o) :=
  ⟨(Below.refl _ W).alloc h0 o, Below.heap_alloc _ _ _ h1, Below.heap_alloc _ _ _ h2, Below.heap_alloc _ _ _ h3, fun _ _ _ _ h => (Below.heap_alloc _ _ _ (Array.getElem?_eq_some_iff.1 h).1).trans h⟩
set_option maxHeartbeats 8000000 in
set_option maxRecDepth 100000 in
theorem append_seq (xs : List S40) (hxl : xs.length ≤ 5000) (B1 B2 B3 : Nat) (w : World) (h1 : B1 < w.heap.size) (h2 : B2 < w.heap.size) (h3 : B3 < w.heap.size)
    (hgive : ∀ n, GivesAll Fence.wide n Try.prog 48 #[.pointer (some ⟨B1, 0, none⟩), .pointer (some ⟨B2, 0, none⟩), .pointer (some ⟨B3, 0, none⟩)] (fun x : S40 => #[.agg #[.int .i64 x.f0, .int .i64 x.f1]]) (KpX w.heap.size B1 B2 B3) (fun t => t = 65) xs w) :
    Calls Try.prog 47 #[.slice none 0 0, .func (.func 48) #[] #[.pointer (some ⟨B1, 0, none⟩), .pointer (some ⟨B2, 0, none⟩), .pointer (some ⟨B3, 0, none⟩)]] w fun e w' => ∃ v, e = .returned v ∧ w'.ownsRow w.heap.size 40 2 v xs.length (flat xs) ∧ Below w.heap.size w w' := by
  refine (callsIn_wide (n := 5)).1 ?_
  have HG := Aside0.mk hgive
  clear hgive
  refine callsIn_of_wp_marks Try.func47 rfl trivial ?_ rfl
  simp only [Try.ntmps47, List.size_toArray, List.length_cons, List.length_nil, Nat.reduceAdd, Nat.reduceSub, Array.replicate_succ, Array.replicate_zero, List.push_toArray, List.append_toArray, List.nil_append, List.cons_append]
  gi_wp2
  obtain ⟨V, hV⟩ : ∃ V, w.alloc (.cells #[.slice none 0 0] 22) = V := ⟨_, rfl⟩
  have hVb : Below w.heap.size w V := by rw [← hV]; exact below_alloc (Below.refl _ _) _
  have hVn : V.heap[w.heap.size]? = some (.cells #[.slice none 0 0] 22 (0, 0)) := by rw [← hV]; exact heap_alloc_new w _
  have hVz : V.heap.size = w.heap.size + 1 := by rw [← hV]; simp
  rw [hV]
  clear hV
  refine range_all rfl (by omega) (gf := 48) (lb := #[.pointer (some ⟨B1, 0, none⟩), .pointer (some ⟨B2, 0, none⟩), .pointer (some ⟨B3, 0, none⟩)]) rfl trivial (enters_of Try.func48 (by kernel_rfl) rfl)
    (HG.out _) KpX.trans (KpX.putObj hVb.size (by omega) (by omega) (by omega)) hVb (fun _ => rfl)
    (fun (pre : List S40) W => (∃ v, Boxed W w.heap.size 22 v ∧ W.ownsRow w.heap.size 40 2 v pre.length (flat pre) ∧ True) ∧ Below w.heap.size w W)
    (OwnFrom.and (Own.from (holdsRow_own w.heap.size w.heap.size 22 40 2 (fun (pre : List S40) => pre.length) (fun (pre : List S40) => flat pre) (fun _ _ => True)) _) (ownFrom_below (Nat.le_refl _) hVb.size))
    ?abides ⟨⟨.slice none 0 0, hVn, own_nil _ _ _ _, trivial⟩, hVb⟩
    (fun x => .cells #[.int .i64 x.f0, .int .i64 x.f1] 40) ?kalloc ?act ?assign ?body ?done
  case abides =>
    intro s W W' row hs hg hr
    obtain ⟨⟨v, hv, hrow, -⟩, hB⟩ := hs
    refine ⟨⟨v, hv.kept hg ?_, hrow.kept hg ?_, trivial⟩, ?_⟩
    · intro e
      obtain ⟨-, cs, t, hc, rfl⟩ := hr _ e.symm
      have : W.heap[w.heap.size]? = some (.cells #[v] 22 (0, 0)) := hv
      rw [this] at hc
      simp at hc
    · cases hv0 : v.ownBlock with
      | none => exact .inl rfl
      | some k =>
        right
        intro e
        obtain ⟨-, cs, t, hc, rfl⟩ := hr _ e.symm
        obtain ⟨cells, hcc⟩ := own_typed hrow k hv0
        rw [hcc] at hc
        simp at hc
    · exact hB.grown hg hB.size (fun k e => by have := (hr k e).1; omega)
  case kalloc =>
    intro W o hW
    exact KpX.alloc (by omega) (by omega) (by omega) (by omega) o
  case act => exact fun x b => { tmps := #[.slice none 0 0, .func (.func 48) #[] #[.pointer (some ⟨B1, 0, none⟩), .pointer (some ⟨B2, 0, none⟩), .pointer (some ⟨B3, 0, none⟩)], .pointer (some ⟨w.heap.size, 0, none⟩), undef, .slice none 0 0, .pointer (some ⟨b, 0, none⟩), .func (.func 48) #[] #[.pointer (some ⟨B1, 0, none⟩), .pointer (some ⟨B2, 0, none⟩), .pointer (some ⟨B3, 0, none⟩)], .agg #[.int .i64 x.f0, .int .i64 x.f1], undef, undef, undef, undef, undef], defers := [] }
  case assign =>
    intro l x W K hK
    gi_wp2
    exact hK
  case body =>
    rintro l pre x b W ⟨⟨v, hv, hrow, -⟩, hB⟩ hbx hpre
    have hd : 1 ≤ 5 - 1 - 1 := by omega
    obtain ⟨i0, hi, hz0, hz1, hz2⟩ := info_parts infoExt
    have hle : w.heap.size ≤ w.heap.size := Nat.le_refl _
    have HBX := Aside0.mk hv
    have hcv := hv.cell
    have hfv := hv.frozen
    obtain ⟨x0, x1, -, -⟩ := cells2 hbx
    have hlp : pre.length < 5000 := by have := hpre.length_le; simp at this; omega
    have HROW := Aside0.mk hrow
    have HB := Aside0.mk hB
    obtain ⟨A2, c2, hvv⟩ := own_slice HROW.out
    subst hvv
    clear hrow hv hB hpre hbx
    gi_wp2_with (gi_at_builtin; refine wpListIn_append_own _ rfl _ _ 22 rfl w.heap.size 40 i0 (.agg #[.int .i64 0, .int .i64 0]) 2 16 Try.underlying22 hi hz0 hz1 hz2 rfl (by decide) _ _ _ rfl (HROW.out.alloc _) ⟨W.heap.size, 0, none⟩ 1 1 [.int .i64 x.f0, .int .i64 x.f1] rfl rfl (cells_two_new _ _ _ _) (by simp [Value.oneCell']) (by unfold maxLen; omega) (by omega) (by have := HB.out.size; simp; omega) ?_; intro v' w1 hown' hgrow _; obtain ⟨g', cap', rfl⟩ := ownsRow_succ hown'; obtain ⟨hv1, hv2, hr2, hk2, hb2⟩ := HBX.out.appended (by decide) HROW.out HB.out.size hle hown' hgrow; have hc1 := hv1.cell; have hf1 := hv1.frozen; have HV2 := Aside0.mk hv2; have HR2 := Aside0.mk hr2; have HK2 := Aside0.mk hk2; have HB2' := Aside0.mk hb2; have HGR := Aside0.mk hgrow; clear hv1 hv2 hr2 hk2 hb2 hown' hgrow)
    refine ⟨HK2.out, ⟨HB2'.out, HB2'.out.block _ h1, HB2'.out.block _ h2, HB2'.out.block _ h3, fun k cs t ht hk => ?_⟩, ⟨_, HV2.out, ?_, trivial⟩, HB.out.trans HB2'.out⟩
    · have hlk := (Array.getElem?_eq_some_iff.1 hk).1
      have hne : k ≠ w.heap.size := by
        rintro rfl
        have : W.heap[w.heap.size]? = some (.cells _ 22 (0, 0)) := HBX.out
        rw [this] at hk
        rcases ht with rfl | rfl <;> simp at hk
      refine (Below.heap_setCell _ _ _ _ hne).trans ((HGR.out.block k (by simp; omega) ?_).trans ((Below.heap_alloc _ _ _ hlk).trans hk))
      intro e
      obtain ⟨cells, hcc⟩ := own_typed HROW.out k e.symm
      rw [hcc] at hk
      rcases ht with rfl | rfl <;> simp at hk
    · have := HR2.out
      rw [List.length_append, flat_append]
      exact this
  case done =>
    rintro D W hD ⟨⟨v, hv, hrow, -⟩, hB2⟩ hK
    have hcv := hv.cell
    have HROW := Aside0.mk hrow
    clear hrow hv
    gi_wp2
    refine ⟨by simp, .inl ⟨_, _, rfl, run_takeDeferred hK, ?_⟩⟩
    refine ⟨v, ?_, v, rfl, ownsRow_putObj HROW.out _ hK rfl, hB2.trans (belowK_b (w := w) (Nat.le_refl _) W D _ _ (by omega) hK rfl rfl)⟩
    simp [results, Try.f47, go_sem]
/-- slices.Collect of the iterator 'sweep'. -/
theorem collect_any (xs : List S40) (hxl : xs.length ≤ 5000) (B1 B2 B3 : Nat) (w : World) (h1 : B1 < w.heap.size) (h2 : B2 < w.heap.size) (h3 : B3 < w.heap.size)
    (hgive : ∀ n, GivesAll Fence.wide n Try.prog 48 #[.pointer (some ⟨B1, 0, none⟩), .pointer (some ⟨B2, 0, none⟩), .pointer (some ⟨B3, 0, none⟩)] (fun x : S40 => #[.agg #[.int .i64 x.f0, .int .i64 x.f1]]) (KpX w.heap.size B1 B2 B3) (fun t => t = 65) xs w) :
    Calls Try.prog 40 #[.func (.func 48) #[] #[.pointer (some ⟨B1, 0, none⟩), .pointer (some ⟨B2, 0, none⟩), .pointer (some ⟨B3, 0, none⟩)]] w fun e w' => ∃ v, e = .returned v ∧ w'.ownsRow w.heap.size 40 2 v xs.length (flat xs) ∧ Below w.heap.size w w' := by
  have hcon := append_seq xs hxl B1 B2 B3 w h1 h2 h3 hgive
  have HC := Aside0.mk hcon
  clear hcon hgive
  go_enter Try.func40, Try.ntmps40
  go_wp2_with fail
  refine HC.out.mono ?_
  rintro e w1 ⟨v, rfl, ho, hb⟩
  have HO := Aside0.mk ho
  have HB := Aside0.mk hb
  clear ho hb
  go_wp2
  go_ret
  exact ⟨v, rfl, HO.out, HB.out⟩
theorem sweep_any (A0 A1 : Option Addr) (c0 c1 n0 n1 fk : Nat) (w : World) :
    Calls Try.prog 41 #[.slice A0 n0 c0, .slice A1 n1 c1, .func (.func fk) #[] #[]] w fun e w' => e = .returned (.func (.func 48) #[] #[.pointer (some ⟨w.heap.size, 0, none⟩), .pointer (some ⟨w.heap.size + 1, 0, none⟩), .pointer (some ⟨w.heap.size + 1 + 1, 0, none⟩)]) ∧
      w' = ((w.alloc (.cells #[.slice A0 n0 c0] 22)).alloc (.cells #[.slice A1 n1 c1] 22)).alloc (.cells #[.func (.func fk) #[] #[]] 59) := by
  go_enter Try.func41, Try.ntmps41
  go_wp2
  go_ret
  exact ⟨rfl, rfl⟩
/-- The operations, whatever the condition. -/
theorem op_core (fk : Nat) (keep : Bool → Bool → Bool) (h00 : keep false false = false) (ek : ∀ args w, (callFunc fk args).run Try.prog w = .ok (.enter fk args) w) (hkeep : ∀ (p q : Bool) (W : World), Calls Try.prog fk #[.bool p, .bool q] W fun e w' => e = .returned (.bool (keep p q)) ∧ w' = W)
    (A0 A1 : Option Addr) (c0 c1 : Nat) (l0 l1 r : List S40) (w : World) (hr0 : Kd.C k40 w A0 l0.length l0) (hc0 : l0.length ≤ c0) (hr1 : Kd.C k40 w A1 l1.length l1) (hc1 : l1.length ≤ c1) (h : opX keep l0 l1 = some r) :
    Calls Try.prog 40 #[.func (.func 48) #[] #[.pointer (some ⟨w.heap.size, 0, none⟩), .pointer (some ⟨w.heap.size + 1, 0, none⟩), .pointer (some ⟨w.heap.size + 1 + 1, 0, none⟩)]]
      (((w.alloc (.cells #[.slice A0 l0.length c0] 22)).alloc (.cells #[.slice A1 l1.length c1] 22)).alloc (.cells #[.func (.func fk) #[] #[]] 59)) fun e w' => ∃ v, e = .returned v ∧ Kd.R k40 40 w' w.heap.size (fun _ => True) v r ∧ Below w.heap.size w w' := by
  obtain ⟨W, hW, hB, hS, b0, b1, b2⟩ := new3 w (Obj.cells #[Value.slice A0 l0.length c0] 22) (Obj.cells #[Value.slice A1 l1.length c1] 22) (Obj.cells #[Value.func (.func fk) #[] #[]] 59)
  rw [hW]
  have hN : l0.length + l1.length ≤ 100000 ∧ r = canon fun j => keep (inL l0 j) (inL l1 j) := by
    unfold opX at h
    split at h
    · rename_i hn
      exact ⟨hn, (Option.some.inj h).symm⟩
    · cases h
  obtain ⟨hN, hr⟩ := hN
  have hlen : r.length ≤ 5000 := by rw [hr]; exact canon_length _
  have hsw : ∀ d, List.Perm d (endsOf 0 l0 ++ endsOf 1 l1) → d.Pairwise (fun x y => x.1 ≤ y.1) → sweepX keep 0 0 0 false d = r := fun d hp hs => by rw [hr]; exact sweep_canon keep h00 l0 l1 hN d hp hs
  clear hr h
  refine (collect_any r hlen w.heap.size (w.heap.size + 1) (w.heap.size + 1 + 1) W (by omega) (by omega) (by omega) (fun n =>
    sweep_gives n fk keep ek hkeep w.heap.size (w.heap.size + 1) (w.heap.size + 1 + 1) A0 A1 c0 c1 l0 l1 W ⟨Below.refl _ _, b0, b1, b2⟩ (Kd.C_below hr0 hB) hc0 (Kd.C_below hr1 hB) hc1 hN r hsw)).mono ?_
  rintro e w' ⟨v, rfl, ho, hb⟩
  exact ⟨v, rfl, ⟨fun _ _ => trivial, _, own_weaken ho hB.size, reps_flat _ _ _ _⟩, hB.trans (hb.mono hB.size)⟩
theorem union_keep (p q : Bool) (W : World) : Calls Try.prog 42 #[.bool p, .bool q] W fun e w' => e = .returned (.bool (p || q)) ∧ w' = W := by
  cases p <;> cases q
  all_goals
    go_enter Try.func42, Try.ntmps42
    go_wp2
    go_ret
    exact ⟨rfl, rfl⟩
theorem xUnion.calls (A0 : Option Addr) (c0 : Nat) (l0 : List (S40)) (A1 : Option Addr) (c1 : Nat) (l1 : List (S40)) (r : List (S40)) (w : World) (hr0 : Kd.C k40 w A0 l0.length l0) (hc0 : l0.length ≤ c0) (hr1 : Kd.C k40 w A1 l1.length l1) (hc1 : l1.length ≤ c1) (h : xUnion.f l0 l1 = some r) :
    Calls Try.prog 25 #[.slice A0 l0.length c0, .slice A1 l1.length c1] w fun e w' => ∃ v0_ : Value, e = .returned (v0_) ∧ Kd.R k40 40 w' w.heap.size (fun _ => True) v0_ r ∧ Below w.heap.size w w' := by
  have hcore := op_core 42 (fun x y => x || y) rfl (enters_of Try.func42 (by kernel_rfl) rfl) union_keep A0 A1 c0 c1 l0 l1 r w hr0 hc0 hr1 hc1 h
  have HC := Aside0.mk hcore
  clear hcore hr0 hc0 hr1 hc1 h
  go_enter Try.func25, Try.ntmps25
  go_wp2_with fail
  refine (sweep_any A0 A1 c0 c1 l0.length l1.length 42 w).mono ?_
  rintro e w1 ⟨rfl, rfl⟩
  go_wp2_with fail
  refine HC.out.mono ?_
  rintro e w2 ⟨v, rfl, hR, hb⟩
  have HR := Aside0.mk hR
  have HB := Aside0.mk hb
  clear hR hb
  go_wp2
  go_ret
  exact ⟨v, rfl, HR.out, HB.out⟩
theorem intersect_keep (p q : Bool) (W : World) : Calls Try.prog 43 #[.bool p, .bool q] W fun e w' => e = .returned (.bool (p && q)) ∧ w' = W := by
  cases p <;> cases q
  all_goals
    go_enter Try.func43, Try.ntmps43
    go_wp2
    go_ret
    exact ⟨rfl, rfl⟩
theorem xIntersect.calls (A0 : Option Addr) (c0 : Nat) (l0 : List (S40)) (A1 : Option Addr) (c1 : Nat) (l1 : List (S40)) (r : List (S40)) (w : World) (hr0 : Kd.C k40 w A0 l0.length l0) (hc0 : l0.length ≤ c0) (hr1 : Kd.C k40 w A1 l1.length l1) (hc1 : l1.length ≤ c1) (h : xIntersect.f l0 l1 = some r) :
    Calls Try.prog 27 #[.slice A0 l0.length c0, .slice A1 l1.length c1] w fun e w' => ∃ v0_ : Value, e = .returned (v0_) ∧ Kd.R k40 40 w' w.heap.size (fun _ => True) v0_ r ∧ Below w.heap.size w w' := by
  have hcore := op_core 43 (fun x y => x && y) rfl (enters_of Try.func43 (by kernel_rfl) rfl) intersect_keep A0 A1 c0 c1 l0 l1 r w hr0 hc0 hr1 hc1 h
  have HC := Aside0.mk hcore
  clear hcore hr0 hc0 hr1 hc1 h
  go_enter Try.func27, Try.ntmps27
  go_wp2_with fail
  refine (sweep_any A0 A1 c0 c1 l0.length l1.length 43 w).mono ?_
  rintro e w1 ⟨rfl, rfl⟩
  go_wp2_with fail
  refine HC.out.mono ?_
  rintro e w2 ⟨v, rfl, hR, hb⟩
  have HR := Aside0.mk hR
  have HB := Aside0.mk hb
  clear hR hb
  go_wp2
  go_ret
  exact ⟨v, rfl, HR.out, HB.out⟩
theorem subtract_keep (p q : Bool) (W : World) : Calls Try.prog 44 #[.bool p, .bool q] W fun e w' => e = .returned (.bool (p && !q)) ∧ w' = W := by
  cases p <;> cases q
  all_goals
    go_enter Try.func44, Try.ntmps44
    go_wp2
    go_ret
    exact ⟨rfl, rfl⟩
theorem xSubtract.calls (A0 : Option Addr) (c0 : Nat) (l0 : List (S40)) (A1 : Option Addr) (c1 : Nat) (l1 : List (S40)) (r : List (S40)) (w : World) (hr0 : Kd.C k40 w A0 l0.length l0) (hc0 : l0.length ≤ c0) (hr1 : Kd.C k40 w A1 l1.length l1) (hc1 : l1.length ≤ c1) (h : xSubtract.f l0 l1 = some r) :
    Calls Try.prog 29 #[.slice A0 l0.length c0, .slice A1 l1.length c1] w fun e w' => ∃ v0_ : Value, e = .returned (v0_) ∧ Kd.R k40 40 w' w.heap.size (fun _ => True) v0_ r ∧ Below w.heap.size w w' := by
  have hcore := op_core 44 (fun x y => x && !y) rfl (enters_of Try.func44 (by kernel_rfl) rfl) subtract_keep A0 A1 c0 c1 l0 l1 r w hr0 hc0 hr1 hc1 h
  have HC := Aside0.mk hcore
  clear hcore hr0 hc0 hr1 hc1 h
  go_enter Try.func29, Try.ntmps29
  go_wp2_with fail
  refine (sweep_any A0 A1 c0 c1 l0.length l1.length 44 w).mono ?_
  rintro e w1 ⟨rfl, rfl⟩
  go_wp2_with fail
  refine HC.out.mono ?_
  rintro e w2 ⟨v, rfl, hR, hb⟩
  have HR := Aside0.mk hR
  have HB := Aside0.mk hb
  clear hR hb
  go_wp2
  go_ret
  exact ⟨v, rfl, HR.out, HB.out⟩
end Go.Proofs.Yteeedheklnelkaa.P

namespace Go.Proofs.Yteeedheklnelkaa.P
open Go.RowKit Go.Proofs.YteeedheklnelkaaW.PrintWords Go.Proofs.YteeedheklnelkaaW.PrintLast Go.Proofs.YteeedheklnelkaaW.PrintMore
attribute [local go_sem] max2_int min2_int max_two min_two max_three min_three max_four min_four   -- for this text's walks alone
set_option linter.unusedVariables false
set_option linter.unusedSimpArgs false
attribute [local go_sem high] eqA40
def xNormalize.l0 : Nat → List (S40) → List (S40) → Int → Int → Option ((List (S40)) × Int)
  | 0, _, _, _, _ => none
  | k + 1, x0, x6, x7, x8 => if x8 < x7 then (if 0 ≤ x8 then (if x8 < (x6.length : Int) then (if ((rd_T40 x6 x8).f1) < 0 then (some (([] : List (S40)), 1)) else (if ((rd_T40 x6 x8).f1) > 0 then (if ((rd_T40 x6 x8).f0) < 0 then (some (([] : List (S40)), 2)) else (if ((rd_T40 x6 x8).f1) > (wrap64 (4096 - ((rd_T40 x6 x8).f0))) then (some (([] : List (S40)), 2)) else (xNormalize.l0 k x0 x6 x7 (wrap64 (x8 + 1))))) else (xNormalize.l0 k x0 x6 x7 (wrap64 (x8 + 1))))) else (none)) else (none)) else ((xUnion.f x0 ([] : List (S40))).bind fun t147 => (some (t147, 0)))
def xNormalize.f (k : Nat) (l0 : List (S40)) : Option ((List (S40)) × Int) := xNormalize.l0 k l0 l0 (l0.length : Int) 0
theorem xNormalize.mono_l : ∀ k, (∀ y0 y1 y2 y3, LeO (xNormalize.l0 k y0 y1 y2 y3) (xNormalize.l0 (k + 1) y0 y1 y2 y3))
  | 0 => fun _ _ _ _ r h => by simp [xNormalize.l0] at h
  | k + 1 => by
    have ih0 := xNormalize.mono_l k
    · intro y0 y1 y2 y3
      unfold xNormalize.l0
      repeat' first
      | (with_reducible exact ih0 _ _ _ _)
      | (with_reducible exact LeO.refl _)
      | (with_reducible exact LeO.none _)
      | (with_reducible refine LeO.ite ?_ ?_)
      | (with_reducible refine LeO.bind ?_ (fun _ => ?_))
      | exact ih0 _ _ _ _
      | exact LeO.none _
      | refine LeO.ite ?_ ?_
      | refine LeO.bind ?_ (fun _ => ?_)
theorem xNormalize.mono : ∀ a0 k, LeO (xNormalize.f k a0) (xNormalize.f (k + 1) a0) := by
  intro a0 k
  have ih0 := xNormalize.mono_l k
  unfold xNormalize.f
  repeat' first
      | (with_reducible exact ih0 _ _ _ _)
      | (with_reducible exact LeO.refl _)
      | (with_reducible exact LeO.none _)
      | (with_reducible refine LeO.ite ?_ ?_)
      | (with_reducible refine LeO.bind ?_ (fun _ => ?_))
      | exact ih0 _ _ _ _
      | exact LeO.none _
      | refine LeO.ite ?_ ?_
      | refine LeO.bind ?_ (fun _ => ?_)
set_option maxHeartbeats 8000000 in
set_option maxRecDepth 100000 in
theorem xNormalize.calls (k : Nat) (A0 : Option Addr) (c0 : Nat) (l0 : List (S40)) (r1 : List (S40)) (r2 : Int) (w : World) (hr0 : Kd.C k40 w A0 l0.length l0) (hc0 : l0.length ≤ c0) (h : xNormalize.f k l0 = some (r1, r2)) :
    Calls Try.prog 16 #[.slice A0 l0.length c0] w fun e w' => ∃ v0_ : Value, e = .returned (.tuple #[v0_, .int .i64 r2]) ∧ Kd.R k40 40 w' w.heap.size (fun _ => True) v0_ r1 ∧ Below w.heap.size w w' := by
  have hu40 := Try.underlying40
  have HR0 := Aside0.mk hr0
  have HC0 := Aside0.mk hc0
  clear hr0 hc0
  have HB := Aside0.mk (Below.refl w.heap.size w)
  have H : (xNormalize.l0 k l0 l0 (l0.length : Int) 0) = some (r1, r2) := h
  clear h
  have H' := Aside0.mk H
  clear H
  go_enter Try.func16, Try.ntmps16
  go_wp2
  go_loopg [8] k (fun kq v8 w' => ∃ (x8_1 : Int), v8 = .int .i64 x8_1 ∧ Aside0 (xNormalize.l0 kq l0 l0 (l0.length : Int) x8_1 = some (r1, r2)) ∧ Aside0 (kq ≤ k) ∧ Aside0 (Below w.heap.size w w'))
  case atStart => exact ⟨(0), (by first | rfl | (simp; done) | (simp [*]; done)), H', ⟨Nat.le_refl _⟩, ⟨by repeat (first | (with_reducible first | exact HB.out | apply below_alloc | apply pw_below_drewN | apply below_drew1) | exact HB.out)⟩⟩
  case round =>
    clear H'
    try clear c1
    obtain ⟨x8_1, rfl, HA, HK1, HB⟩ := hrel
    cases gk with
    | zero => exact absurd HA.out (by simp [xNormalize.l0])
    | succ k1 =>
      have H := HA.out
      clear HA
      simp only [xNormalize.l0] at H
      by_cases c2 : x8_1 < (l0.length : Int)
      · rw [if_pos c2] at H
        have c2b0 : decide (x8_1 < (l0.length : Int)) = true := decide_eq_true c2
        clear c2
        by_cases c3 : 0 ≤ x8_1
        · rw [if_pos c3] at H
          have c3b0 : decide (0 ≤ x8_1) = true := decide_eq_true c3
          clear c3
          by_cases c4 : x8_1 < (l0.length : Int)
          · rw [if_pos c4] at H
            have c4b0 : decide (x8_1 < (l0.length : Int)) = true := decide_eq_true c4
            clear c4
            by_cases c5 : ((rd_T40 l0 x8_1).f1) < 0
            · rw [if_pos c5] at H
              have c5b0 : decide (((rd_T40 l0 x8_1).f1) < 0) = true := decide_eq_true c5
              clear c5
              simp only [Option.some.injEq, Prod.mk.injEq] at H
              obtain ⟨rfl, rfl⟩ := H
              have p150 : 0 ≤ (x8_1 : Int) := of_decide_eq_true (by first | (with_reducible assumption) | assumption)
              have q150 : x8_1 < (l0.length : Int) := of_decide_eq_true (by first | (with_reducible assumption) | assumption)
              obtain ⟨ad150, e150, hx150_0, hx150_1⟩ := at_T40 HR0.out x8_1 p150 q150
              cases e150
              replace hx150_0 := (HB.out.cell (World.block_lt_of_cell? w _ hx150_0)).trans hx150_0
              replace hx150_1 := (HB.out.cell (World.block_lt_of_cell? w _ hx150_1)).trans hx150_1
              replace p150 := eq_true p150
              replace q150 := eq_true q150
              go_wp2_with (first | ((with_reducible refine gate_dst (N := 5) rfl ?_); refine box_event ?hg (N := 5) ?hd (cs := #[.int .i64 0, .int .i64 0]) (t := 40) ?hr ?_; (case hd => rfl); (case hg => rfl); (case hr => first | (go_simp; done) | (go_simp; rfl)); intro gb151 hg w6 hbox hb; have n0_ := Aside0.mk (below_step (by repeat (first | (with_reducible first | exact HB.out | apply below_alloc | apply pw_below_drewN | apply below_drew1) | exact HB.out)) hb); have n1_ := Aside0.mk (hbox); have n2_ := Aside0.mk ((by rw [hg]; exact (below_size (by repeat (first | (with_reducible first | exact HB.out | apply below_alloc | apply pw_below_drewN | apply below_drew1) | exact HB.out))) : w.heap.size ≤ gb151)); have n3_ := Aside0.mk ((by rw [hg]; exact (below_size (by repeat (first | (with_reducible first | exact HB.out | apply below_alloc | apply pw_below_drewN | apply below_drew1) | exact HB.out))) : w.heap.size ≤ gb151)); clear HB; have HB := n0_; have BK151 := n1_; have GW151 := n2_; have GE151 := n3_; clear n0_ n1_ n2_ n3_; clear hb hbox hg; have hcz7_0 : w6.cell? ⟨gb151, 0, none⟩ = some (.int .i64 0) := (blk_cell BK151.out 0).trans rfl; have hcz7_1 : w6.cell? ⟨gb151, 1, none⟩ = some (.int .i64 0) := (blk_cell BK151.out 1).trans rfl; have hfz7_0 := blk_frozen BK151.out 0; have hfz7_1 := blk_frozen BK151.out 1))
              go_ret2
              exact ⟨_, by first | rfl | (simp [errW_none, errW_some] <;> rfl) | (simp [*, errW_none, errW_some] <;> rfl), by first | exact Kd.R_nil _ _ _ _ _ | exact Kd.N_nil _ _ _ _ _ | exact Kd.V_nil _ _ _ _ _ | exact Kd.Q_nil _ _ _ _ _ | exact Kd.S_nil _ _ _ _ _, by repeat (first | (with_reducible first | exact HB.out | apply below_alloc | apply pw_below_drewN | apply below_drew1 | refine below_set ?_ GE151.out) | exact HB.out)⟩
            · rw [if_neg c5] at H
              have c5b0 : decide (((rd_T40 l0 x8_1).f1) < 0) = false := decide_eq_false c5
              clear c5
              by_cases c8 : ((rd_T40 l0 x8_1).f1) > 0
              · rw [if_pos c8] at H
                have c8b0 : decide (0 < ((rd_T40 l0 x8_1).f1)) = true := decide_eq_true c8
                clear c8
                by_cases c9 : ((rd_T40 l0 x8_1).f0) < 0
                · rw [if_pos c9] at H
                  have c9b0 : decide (((rd_T40 l0 x8_1).f0) < 0) = true := decide_eq_true c9
                  clear c9
                  simp only [Option.some.injEq, Prod.mk.injEq] at H
                  obtain ⟨rfl, rfl⟩ := H
                  have p150 : 0 ≤ (x8_1 : Int) := of_decide_eq_true (by first | (with_reducible assumption) | assumption)
                  have q150 : x8_1 < (l0.length : Int) := of_decide_eq_true (by first | (with_reducible assumption) | assumption)
                  obtain ⟨ad150, e150, hx150_0, hx150_1⟩ := at_T40 HR0.out x8_1 p150 q150
                  cases e150
                  replace hx150_0 := (HB.out.cell (World.block_lt_of_cell? w _ hx150_0)).trans hx150_0
                  replace hx150_1 := (HB.out.cell (World.block_lt_of_cell? w _ hx150_1)).trans hx150_1
                  replace p150 := eq_true p150
                  replace q150 := eq_true q150
                  go_wp2_with (first | ((with_reducible refine gate_dst (N := 5) rfl ?_); refine box_event ?hg (N := 5) ?hd (cs := #[.int .i64 0, .int .i64 0]) (t := 40) ?hr ?_; (case hd => rfl); (case hg => rfl); (case hr => first | (go_simp; done) | (go_simp; rfl)); intro gb151 hg w10 hbox hb; have n0_ := Aside0.mk (below_step (by repeat (first | (with_reducible first | exact HB.out | apply below_alloc | apply pw_below_drewN | apply below_drew1) | exact HB.out)) hb); have n1_ := Aside0.mk (hbox); have n2_ := Aside0.mk ((by rw [hg]; exact (below_size (by repeat (first | (with_reducible first | exact HB.out | apply below_alloc | apply pw_below_drewN | apply below_drew1) | exact HB.out))) : w.heap.size ≤ gb151)); have n3_ := Aside0.mk ((by rw [hg]; exact (below_size (by repeat (first | (with_reducible first | exact HB.out | apply below_alloc | apply pw_below_drewN | apply below_drew1) | exact HB.out))) : w.heap.size ≤ gb151)); clear HB; have HB := n0_; have BK151 := n1_; have GW151 := n2_; have GE151 := n3_; clear n0_ n1_ n2_ n3_; clear hb hbox hg; have hcz11_0 : w10.cell? ⟨gb151, 0, none⟩ = some (.int .i64 0) := (blk_cell BK151.out 0).trans rfl; have hcz11_1 : w10.cell? ⟨gb151, 1, none⟩ = some (.int .i64 0) := (blk_cell BK151.out 1).trans rfl; have hfz11_0 := blk_frozen BK151.out 0; have hfz11_1 := blk_frozen BK151.out 1))
                  go_ret2
                  exact ⟨_, by first | rfl | (simp [errW_none, errW_some] <;> rfl) | (simp [*, errW_none, errW_some] <;> rfl), by first | exact Kd.R_nil _ _ _ _ _ | exact Kd.N_nil _ _ _ _ _ | exact Kd.V_nil _ _ _ _ _ | exact Kd.Q_nil _ _ _ _ _ | exact Kd.S_nil _ _ _ _ _, by repeat (first | (with_reducible first | exact HB.out | apply below_alloc | apply pw_below_drewN | apply below_drew1 | refine below_set ?_ GE151.out) | exact HB.out)⟩
                · rw [if_neg c9] at H
                  have c9b0 : decide (((rd_T40 l0 x8_1).f0) < 0) = false := decide_eq_false c9
                  clear c9
                  by_cases c12 : ((rd_T40 l0 x8_1).f1) > (wrap64 (4096 - ((rd_T40 l0 x8_1).f0)))
                  · rw [if_pos c12] at H
                    have c12b0 : decide ((wrap64 (4096 - ((rd_T40 l0 x8_1).f0))) < ((rd_T40 l0 x8_1).f1)) = true := decide_eq_true c12
                    clear c12
                    simp only [Option.some.injEq, Prod.mk.injEq] at H
                    obtain ⟨rfl, rfl⟩ := H
                    have p150 : 0 ≤ (x8_1 : Int) := of_decide_eq_true (by first | (with_reducible assumption) | assumption)
                    have q150 : x8_1 < (l0.length : Int) := of_decide_eq_true (by first | (with_reducible assumption) | assumption)
                    obtain ⟨ad150, e150, hx150_0, hx150_1⟩ := at_T40 HR0.out x8_1 p150 q150
                    cases e150
                    replace hx150_0 := (HB.out.cell (World.block_lt_of_cell? w _ hx150_0)).trans hx150_0
                    replace hx150_1 := (HB.out.cell (World.block_lt_of_cell? w _ hx150_1)).trans hx150_1
                    replace p150 := eq_true p150
                    replace q150 := eq_true q150
                    go_wp2_with (first | ((with_reducible refine gate_dst (N := 5) rfl ?_); refine box_event ?hg (N := 5) ?hd (cs := #[.int .i64 0, .int .i64 0]) (t := 40) ?hr ?_; (case hd => rfl); (case hg => rfl); (case hr => first | (go_simp; done) | (go_simp; rfl)); intro gb151 hg w13 hbox hb; have n0_ := Aside0.mk (below_step (by repeat (first | (with_reducible first | exact HB.out | apply below_alloc | apply pw_below_drewN | apply below_drew1) | exact HB.out)) hb); have n1_ := Aside0.mk (hbox); have n2_ := Aside0.mk ((by rw [hg]; exact (below_size (by repeat (first | (with_reducible first | exact HB.out | apply below_alloc | apply pw_below_drewN | apply below_drew1) | exact HB.out))) : w.heap.size ≤ gb151)); have n3_ := Aside0.mk ((by rw [hg]; exact (below_size (by repeat (first | (with_reducible first | exact HB.out | apply below_alloc | apply pw_below_drewN | apply below_drew1) | exact HB.out))) : w.heap.size ≤ gb151)); clear HB; have HB := n0_; have BK151 := n1_; have GW151 := n2_; have GE151 := n3_; clear n0_ n1_ n2_ n3_; clear hb hbox hg; have hcz14_0 : w13.cell? ⟨gb151, 0, none⟩ = some (.int .i64 0) := (blk_cell BK151.out 0).trans rfl; have hcz14_1 : w13.cell? ⟨gb151, 1, none⟩ = some (.int .i64 0) := (blk_cell BK151.out 1).trans rfl; have hfz14_0 := blk_frozen BK151.out 0; have hfz14_1 := blk_frozen BK151.out 1))
                    go_ret2
                    exact ⟨_, by first | rfl | (simp [errW_none, errW_some] <;> rfl) | (simp [*, errW_none, errW_some] <;> rfl), by first | exact Kd.R_nil _ _ _ _ _ | exact Kd.N_nil _ _ _ _ _ | exact Kd.V_nil _ _ _ _ _ | exact Kd.Q_nil _ _ _ _ _ | exact Kd.S_nil _ _ _ _ _, by repeat (first | (with_reducible first | exact HB.out | apply below_alloc | apply pw_below_drewN | apply below_drew1 | refine below_set ?_ GE151.out) | exact HB.out)⟩
                  · rw [if_neg c12] at H
                    have c12b0 : decide ((wrap64 (4096 - ((rd_T40 l0 x8_1).f0))) < ((rd_T40 l0 x8_1).f1)) = false := decide_eq_false c12
                    clear c12
                    have H' := Aside0.mk H
                    clear H
                    have p150 : 0 ≤ (x8_1 : Int) := of_decide_eq_true (by first | (with_reducible assumption) | assumption)
                    have q150 : x8_1 < (l0.length : Int) := of_decide_eq_true (by first | (with_reducible assumption) | assumption)
                    obtain ⟨ad150, e150, hx150_0, hx150_1⟩ := at_T40 HR0.out x8_1 p150 q150
                    cases e150
                    replace hx150_0 := (HB.out.cell (World.block_lt_of_cell? w _ hx150_0)).trans hx150_0
                    replace hx150_1 := (HB.out.cell (World.block_lt_of_cell? w _ hx150_1)).trans hx150_1
                    replace p150 := eq_true p150
                    replace q150 := eq_true q150
                    go_wp2_with (first | ((with_reducible refine gate_dst (N := 5) rfl ?_); refine box_event ?hg (N := 5) ?hd (cs := #[.int .i64 0, .int .i64 0]) (t := 40) ?hr ?_; (case hd => rfl); (case hg => rfl); (case hr => first | (go_simp; done) | (go_simp; rfl)); intro gb151 hg w15 hbox hb; have n0_ := Aside0.mk (below_step (by repeat (first | (with_reducible first | exact HB.out | apply below_alloc | apply pw_below_drewN | apply below_drew1) | exact HB.out)) hb); have n1_ := Aside0.mk (hbox); have n2_ := Aside0.mk ((by rw [hg]; exact (below_size (by repeat (first | (with_reducible first | exact HB.out | apply below_alloc | apply pw_below_drewN | apply below_drew1) | exact HB.out))) : w.heap.size ≤ gb151)); have n3_ := Aside0.mk ((by rw [hg]; exact (below_size (by repeat (first | (with_reducible first | exact HB.out | apply below_alloc | apply pw_below_drewN | apply below_drew1) | exact HB.out))) : w.heap.size ≤ gb151)); clear HB; have HB := n0_; have BK151 := n1_; have GW151 := n2_; have GE151 := n3_; clear n0_ n1_ n2_ n3_; clear hb hbox hg; have hcz16_0 : w15.cell? ⟨gb151, 0, none⟩ = some (.int .i64 0) := (blk_cell BK151.out 0).trans rfl; have hcz16_1 : w15.cell? ⟨gb151, 1, none⟩ = some (.int .i64 0) := (blk_cell BK151.out 1).trans rfl; have hfz16_0 := blk_frozen BK151.out 0; have hfz16_1 := blk_frozen BK151.out 1))
                    go_roundg k1
                    case measure => have := HK1.out; omega
                    case rel => exact ⟨(wrap64 (x8_1 + 1)), (by first | rfl | (simp; done) | (simp [*]; done)), H', ⟨by have := HK1.out; omega⟩, ⟨by repeat (first | (with_reducible first | exact HB.out | apply below_alloc | apply pw_below_drewN | apply below_drew1 | refine below_set ?_ GE151.out) | exact HB.out)⟩⟩
              · rw [if_neg c8] at H
                have c8b0 : decide (0 < ((rd_T40 l0 x8_1).f1)) = false := decide_eq_false c8
                clear c8
                have H' := Aside0.mk H
                clear H
                have p150 : 0 ≤ (x8_1 : Int) := of_decide_eq_true (by first | (with_reducible assumption) | assumption)
                have q150 : x8_1 < (l0.length : Int) := of_decide_eq_true (by first | (with_reducible assumption) | assumption)
                obtain ⟨ad150, e150, hx150_0, hx150_1⟩ := at_T40 HR0.out x8_1 p150 q150
                cases e150
                replace hx150_0 := (HB.out.cell (World.block_lt_of_cell? w _ hx150_0)).trans hx150_0
                replace hx150_1 := (HB.out.cell (World.block_lt_of_cell? w _ hx150_1)).trans hx150_1
                replace p150 := eq_true p150
                replace q150 := eq_true q150
                go_wp2_with (first | ((with_reducible refine gate_dst (N := 5) rfl ?_); refine box_event ?hg (N := 5) ?hd (cs := #[.int .i64 0, .int .i64 0]) (t := 40) ?hr ?_; (case hd => rfl); (case hg => rfl); (case hr => first | (go_simp; done) | (go_simp; rfl)); intro gb151 hg w17 hbox hb; have n0_ := Aside0.mk (below_step (by repeat (first | (with_reducible first | exact HB.out | apply below_alloc | apply pw_below_drewN | apply below_drew1) | exact HB.out)) hb); have n1_ := Aside0.mk (hbox); have n2_ := Aside0.mk ((by rw [hg]; exact (below_size (by repeat (first | (with_reducible first | exact HB.out | apply below_alloc | apply pw_below_drewN | apply below_drew1) | exact HB.out))) : w.heap.size ≤ gb151)); have n3_ := Aside0.mk ((by rw [hg]; exact (below_size (by repeat (first | (with_reducible first | exact HB.out | apply below_alloc | apply pw_below_drewN | apply below_drew1) | exact HB.out))) : w.heap.size ≤ gb151)); clear HB; have HB := n0_; have BK151 := n1_; have GW151 := n2_; have GE151 := n3_; clear n0_ n1_ n2_ n3_; clear hb hbox hg; have hcz18_0 : w17.cell? ⟨gb151, 0, none⟩ = some (.int .i64 0) := (blk_cell BK151.out 0).trans rfl; have hcz18_1 : w17.cell? ⟨gb151, 1, none⟩ = some (.int .i64 0) := (blk_cell BK151.out 1).trans rfl; have hfz18_0 := blk_frozen BK151.out 0; have hfz18_1 := blk_frozen BK151.out 1))
                go_roundg k1
                case measure => have := HK1.out; omega
                case rel => exact ⟨(wrap64 (x8_1 + 1)), (by first | rfl | (simp; done) | (simp [*]; done)), H', ⟨by have := HK1.out; omega⟩, ⟨by repeat (first | (with_reducible first | exact HB.out | apply below_alloc | apply pw_below_drewN | apply below_drew1 | refine below_set ?_ GE151.out) | exact HB.out)⟩⟩
          · rw [if_neg c4] at H
            exact absurd H (by simp)
        · rw [if_neg c3] at H
          exact absurd H (by simp)
      · rw [if_neg c2] at H
        have c2b0 : decide (x8_1 < (l0.length : Int)) = false := decide_eq_false c2
        clear c2
        replace H := Option.bind_eq_some_iff.mp H
        obtain ⟨t147, A190, H⟩ := H
        replace H : (some (t147, 0)) = some (r1, r2) := H
        have A19 := Aside0.mk A190
        clear A190
        simp only [Option.some.injEq, Prod.mk.injEq] at H
        obtain ⟨rfl, rfl⟩ := H
        go_wp2_with (first | ((with_reducible refine gate_callee (f := 25) rfl ?_); refine goesL_ (some 33) rfl rfl Try.func25 (by kernel_rfl) rfl #[.slice A0 l0.length c0, .slice none 0 0] rfl (by (try simp only [List.map_toArray, List.map_cons, List.map_nil]); first | done | rfl | (simp only [List.length_drop, List.length_take]; rfl)) ?_; (refine (xUnion.calls _ _ l0 _ _ ([] : List (S40)) t147 _ ?side1 ?side2 ?side3 ?side4 A19.out).mono ?_); (case side1 => repeat (first | exact (Kd.C_below HR0.out HB.out) | (with_reducible refine Kd.C_alloc ?_ _) | (with_reducible refine Kd.C_drewN ?_ _) | (with_reducible refine Kd.C_drew ?_))); (case side2 => exact HC0.out); (case side3 => exact Kd.C_nil _ _); (case side4 => exact Nat.le_refl _); rintro e w20 ⟨v148, rfl, ho0, hb⟩; refine ⟨_, rfl, ?_⟩; have n0_ := Aside0.mk (Kd.R_lower ho0 (below_size (by repeat (first | (with_reducible first | exact HB.out | apply below_alloc | apply pw_below_drewN | apply below_drew1) | exact HB.out)))); have n1_ := Aside0.mk (below_step (by repeat (first | (with_reducible first | exact HB.out | apply below_alloc | apply pw_below_drewN | apply below_drew1) | exact HB.out)) hb); clear HB; have HO149 := n0_; have HB := n1_; clear n0_ n1_; (try clear hb); (try clear hb2); (try clear hk); (try clear hi); (try clear ho0)))
        go_ret2
        exact ⟨_, by first | rfl | (simp [errW_none, errW_some] <;> rfl) | (simp [*, errW_none, errW_some] <;> rfl), by (with_reducible repeat (first | apply Kd.R_alloc | apply Kd.R_drewN | apply Kd.R_drew)); exact HO149.out, by repeat (first | (with_reducible first | exact HB.out | apply below_alloc | apply pw_below_drewN | apply below_drew1) | exact HB.out)⟩
def r01Same.l0 : Nat → List (S40) → List (S40) → Int → Option (Bool)
  | 0, _, _, _ => none
  | k + 1, x0, x1, x5 => if x5 < (x0.length : Int) then (if 0 ≤ x5 then (if x5 < (x1.length : Int) then (if (!(((rd_T40 x0 x5).f0) == ((rd_T40 x1 x5).f0)) || (!(((rd_T40 x0 x5).f1) == ((rd_T40 x1 x5).f1)))) = true then (some false) else (r01Same.l0 k x0 x1 (wrap64 (x5 + 1)))) else (none)) else (none)) else (some true)
def r01Same.f (k : Nat) (l0 : List (S40)) (l1 : List (S40)) : Option (Bool) := if (l0.length : Int) = (l1.length : Int) then (r01Same.l0 k l0 l1 0) else (some false)
theorem r01Same.mono_l : ∀ k, (∀ y0 y1 y2, LeO (r01Same.l0 k y0 y1 y2) (r01Same.l0 (k + 1) y0 y1 y2))
  | 0 => fun _ _ _ r h => by simp [r01Same.l0] at h
  | k + 1 => by
    have ih0 := r01Same.mono_l k
    · intro y0 y1 y2
      unfold r01Same.l0
      repeat' first
      | (with_reducible exact ih0 _ _ _)
      | (with_reducible exact LeO.refl _)
      | (with_reducible exact LeO.none _)
      | (with_reducible refine LeO.ite ?_ ?_)
      | (with_reducible refine LeO.bind ?_ (fun _ => ?_))
      | exact ih0 _ _ _
      | exact LeO.none _
      | refine LeO.ite ?_ ?_
      | refine LeO.bind ?_ (fun _ => ?_)
theorem r01Same.mono : ∀ a0 a1 k, LeO (r01Same.f k a0 a1) (r01Same.f (k + 1) a0 a1) := by
  intro a0 a1 k
  have ih0 := r01Same.mono_l k
  unfold r01Same.f
  repeat' first
      | (with_reducible exact ih0 _ _ _)
      | (with_reducible exact LeO.refl _)
      | (with_reducible exact LeO.none _)
      | (with_reducible refine LeO.ite ?_ ?_)
      | (with_reducible refine LeO.bind ?_ (fun _ => ?_))
      | exact ih0 _ _ _
      | exact LeO.none _
      | refine LeO.ite ?_ ?_
      | refine LeO.bind ?_ (fun _ => ?_)
set_option maxHeartbeats 8000000 in
set_option maxRecDepth 100000 in
theorem r01Same.calls (k : Nat) (A0 : Option Addr) (c0 : Nat) (l0 : List (S40)) (A1 : Option Addr) (c1 : Nat) (l1 : List (S40)) (r : Bool) (w : World) (hr0 : Kd.C k40 w A0 l0.length l0) (hc0 : l0.length ≤ c0) (hr1 : Kd.C k40 w A1 l1.length l1) (hc1 : l1.length ≤ c1) (h : r01Same.f k l0 l1 = some r) :
    Calls Try.prog 18 #[.slice A0 l0.length c0, .slice A1 l1.length c1] w fun e w' => e = .returned (.bool r) ∧ Drawn0 w w' := by
  have hu40 := Try.underlying40
  have HR0 := Aside0.mk hr0
  have HC0 := Aside0.mk hc0
  clear hr0 hc0
  have HR1 := Aside0.mk hr1
  have HC1 := Aside0.mk hc1
  clear hr1 hc1
  have H : (if (l0.length : Int) = (l1.length : Int) then (r01Same.l0 k l0 l1 0) else (some false)) = some r := h
  clear h
  by_cases c3 : (l0.length : Int) = (l1.length : Int)
  · rw [if_pos c3] at H
    have c3b0 : ((l0.length : Int) == (l1.length : Int)) = true := beq_iff_eq.mpr c3
    have c3b1 : ((l0.length : Int) != (l1.length : Int)) = false := bne_eq_false_iff_eq.mpr c3
    have c3b2 : (l0.length == l1.length) = true := by first | simpa using c3 | (simp at c3 ⊢; omega)
    clear c3
    have H' := Aside0.mk H
    clear H
    go_enter Try.func18, Try.ntmps18
    go_wp2
    repeat (go_quiet (fail); try go_wp2)
    go_loopg [5] k (fun kq v5 w' => ∃ (x5_1 : Int), v5 = .int .i64 x5_1 ∧ Aside0 (r01Same.l0 kq l0 l1 x5_1 = some r) ∧ Aside0 (kq ≤ k) ∧ Drawn0 w w')
    case atStart => exact ⟨(0), (by first | rfl | (simp; done) | (simp [*]; done)), H', ⟨Nat.le_refl _⟩, by repeat (first | exact Drawn0.refl _ | apply Drawn0.step)⟩
    case round =>
      clear H'
      try clear c1
      try clear p2
      try clear c3
      try clear c3b0
      try clear c3b1
      try clear c3b2
      obtain ⟨x5_1, rfl, HA, HK1, ⟨m1, rfl⟩⟩ := hrel
      cases gk with
      | zero => exact absurd HA.out (by simp [r01Same.l0])
      | succ k1 =>
        have H := HA.out
        clear HA
        simp only [r01Same.l0] at H
        by_cases c4 : x5_1 < (l0.length : Int)
        · rw [if_pos c4] at H
          have c4b0 : decide (x5_1 < (l0.length : Int)) = true := decide_eq_true c4
          clear c4
          by_cases c5 : 0 ≤ x5_1
          · rw [if_pos c5] at H
            have c5b0 : decide (0 ≤ x5_1) = true := decide_eq_true c5
            clear c5
            by_cases c6 : x5_1 < (l1.length : Int)
            · rw [if_pos c6] at H
              have c6b0 : decide (x5_1 < (l1.length : Int)) = true := decide_eq_true c6
              clear c6
              by_cases c7 : (!(((rd_T40 l0 x5_1).f0) == ((rd_T40 l1 x5_1).f0)) || (!(((rd_T40 l0 x5_1).f1) == ((rd_T40 l1 x5_1).f1)))) = true
              · rw [if_pos c7] at H
                have c7b0 : (!(((rd_T40 l0 x5_1).f0) == ((rd_T40 l1 x5_1).f0)) || (!(((rd_T40 l0 x5_1).f1) == ((rd_T40 l1 x5_1).f1)))) = true := c7
                clear c7
                obtain rfl := Option.some.inj H
                have p152 : 0 ≤ (x5_1 : Int) := of_decide_eq_true (by first | (with_reducible assumption) | assumption)
                have q152 : x5_1 < (l0.length : Int) := of_decide_eq_true (by first | (with_reducible assumption) | assumption)
                obtain ⟨ad152, e152, hx152_0, hx152_1⟩ := at_T40 HR0.out x5_1 p152 q152
                cases e152
                replace p152 := eq_true p152
                replace q152 := eq_true q152
                have p153 : 0 ≤ (x5_1 : Int) := of_decide_eq_true (by first | (with_reducible assumption) | assumption)
                have q153 : x5_1 < (l1.length : Int) := of_decide_eq_true (by first | (with_reducible assumption) | assumption)
                obtain ⟨ad153, e153, hx153_0, hx153_1⟩ := at_T40 HR1.out x5_1 p153 q153
                cases e153
                replace p153 := eq_true p153
                replace q153 := eq_true q153
                go_wp2
                repeat (go_quiet (fail); try go_wp2)
                go_ret
                exact ⟨by first | rfl | (simp; done) | (simp [*]; done), by repeat (first | exact Drawn0.refl _ | apply Drawn0.step)⟩
              · rw [if_neg c7] at H
                have c7b0 : (!(((rd_T40 l0 x5_1).f0) == ((rd_T40 l1 x5_1).f0)) || (!(((rd_T40 l0 x5_1).f1) == ((rd_T40 l1 x5_1).f1)))) = false := by simpa using c7
                clear c7
                have H' := Aside0.mk H
                clear H
                have p152 : 0 ≤ (x5_1 : Int) := of_decide_eq_true (by first | (with_reducible assumption) | assumption)
                have q152 : x5_1 < (l0.length : Int) := of_decide_eq_true (by first | (with_reducible assumption) | assumption)
                obtain ⟨ad152, e152, hx152_0, hx152_1⟩ := at_T40 HR0.out x5_1 p152 q152
                cases e152
                replace p152 := eq_true p152
                replace q152 := eq_true q152
                have p153 : 0 ≤ (x5_1 : Int) := of_decide_eq_true (by first | (with_reducible assumption) | assumption)
                have q153 : x5_1 < (l1.length : Int) := of_decide_eq_true (by first | (with_reducible assumption) | assumption)
                obtain ⟨ad153, e153, hx153_0, hx153_1⟩ := at_T40 HR1.out x5_1 p153 q153
                cases e153
                replace p153 := eq_true p153
                replace q153 := eq_true q153
                go_wp2
                repeat (go_quiet (fail); try go_wp2)
                go_roundg k1
                case measure => have := HK1.out; omega
                case rel => exact ⟨(wrap64 (x5_1 + 1)), (by first | rfl | (simp; done) | (simp [*]; done)), H', ⟨by have := HK1.out; omega⟩, by repeat (first | exact Drawn0.refl _ | apply Drawn0.step)⟩
            · rw [if_neg c6] at H
              exact absurd H (by simp)
          · rw [if_neg c5] at H
            exact absurd H (by simp)
        · rw [if_neg c4] at H
          have c4b0 : decide (x5_1 < (l0.length : Int)) = false := decide_eq_false c4
          clear c4
          obtain rfl := Option.some.inj H
          go_wp2
          repeat (go_quiet (fail); try go_wp2)
          go_ret
          exact ⟨by first | rfl | (simp; done) | (simp [*]; done), by repeat (first | exact Drawn0.refl _ | apply Drawn0.step)⟩
  · rw [if_neg c3] at H
    have c3b0 : ((l0.length : Int) == (l1.length : Int)) = false := beq_eq_false_iff_ne.mpr c3
    have c3b1 : ((l0.length : Int) != (l1.length : Int)) = true := bne_iff_ne.mpr c3
    have c3b2 : (l0.length == l1.length) = false := by first | simpa using c3 | (simp at c3 ⊢; omega)
    obtain rfl := Option.some.inj H
    go_enter Try.func18, Try.ntmps18
    go_wp2
    repeat (go_quiet (fail); try go_wp2)
    go_ret
    exact ⟨by first | rfl | (simp; done) | (simp [*]; done), by repeat (first | exact Drawn0.refl _ | apply Drawn0.step)⟩
end Go.Proofs.Yteeedheklnelkaa.P

namespace Go.Proofs.Yteeedheklnelkaa.P
open Go.RowKit Go.Proofs.YteeedheklnelkaaW.PrintWords Go.Proofs.YteeedheklnelkaaW.PrintLast Go.Proofs.YteeedheklnelkaaW.PrintMore
theorem wsucc (i : Nat) (h : i < 1000000) : wrap64 ((i : Int) + 1) = ((i + 1 : Nat) : Int) := by rw [w64 _ (by omega) (by omega)]; rfl
theorem drop_cons (l : List S40) {i : Nat} (hi : i < l.length) : l.drop i = rd_T40 l (i : Int) :: l.drop (i + 1) := by
  rw [List.drop_eq_getElem_cons hi]
  unfold rd_T40
  rw [Int.toNat_natCast, List.getD_eq_getElem?_getD, List.getElem?_eq_getElem hi]; rfl
end Go.Proofs.Yteeedheklnelkaa.P

namespace Go.Proofs.Yteeedheklnelkaa.P
open Go.RowKit Go.Proofs.YteeedheklnelkaaW.PrintWords Go.Proofs.YteeedheklnelkaaW.PrintLast Go.Proofs.YteeedheklnelkaaW.PrintMore
attribute [local go_sem] max2_int min2_int max_two min_two max_three min_three max_four min_four   -- for this text's walks alone
set_option linter.unusedVariables false
set_option linter.unusedSimpArgs false
mutual
def xSplit.l0 : Nat → Int → List (S40) → List (S40) → Int → Int → Option ((List (S40)) × Int)
  | 0, _, _, _, _, _ => none
  | k + 1, x1, x6, x12, x13, x14 => if x14 < x13 then (if 0 ≤ x14 then (if x14 < (x12.length : Int) then (xSplit.l1 k x1 x6 x12 x13 x14 ((rd_T40 x12 x14).f0) ((rd_T40 x12 x14).f1)) else (none)) else (none)) else (some (x6, 0))
def xSplit.l1 : Nat → Int → List (S40) → List (S40) → Int → Int → Int → Int → Option ((List (S40)) × Int)
  | 0, _, _, _, _, _, _, _ => none
  | k + 1, x1, x6, x12, x13, x14, x199000, x199001 => if x199001 > x1 then (if x6.length < 8796093022208 then (xSplit.l1 k x1 (x6 ++ [(⟨x199000, x1⟩ : S40)]) x12 x13 x14 (wrap64 (x199000 + x1)) (wrap64 (x199001 - x1))) else (none)) else (if x6.length < 8796093022208 then (xSplit.l0 k x1 (x6 ++ [(⟨x199000, x199001⟩ : S40)]) x12 x13 (wrap64 (x14 + 1))) else (none))
end
def xSplit.f (k : Nat) (l0 : List (S40)) (a1 : Int) : Option ((List (S40)) × Int) := if a1 ≤ 0 then (some (([] : List (S40)), 1)) else ((xUnion.f l0 ([] : List (S40))).bind fun t194 => (xSplit.l0 k a1 ([] : List (S40)) t194 (t194.length : Int) 0))
theorem xSplit.mono_l : ∀ k, (∀ y0 y1 y2 y3 y4, LeO (xSplit.l0 k y0 y1 y2 y3 y4) (xSplit.l0 (k + 1) y0 y1 y2 y3 y4)) ∧ (∀ y0 y1 y2 y3 y4 y5 y6, LeO (xSplit.l1 k y0 y1 y2 y3 y4 y5 y6) (xSplit.l1 (k + 1) y0 y1 y2 y3 y4 y5 y6))
  | 0 => ⟨fun _ _ _ _ _ r h => by simp [xSplit.l0] at h, fun _ _ _ _ _ _ _ r h => by simp [xSplit.l1] at h⟩
  | k + 1 => by
    obtain ⟨ih0, ih1⟩ := xSplit.mono_l k
    refine ⟨?_, ?_⟩
    · intro y0 y1 y2 y3 y4
      unfold xSplit.l0
      repeat' first
      | (with_reducible exact ih0 _ _ _ _ _)
      | (with_reducible exact ih1 _ _ _ _ _ _ _)
      | (with_reducible exact LeO.refl _)
      | (with_reducible exact LeO.none _)
      | (with_reducible refine LeO.ite ?_ ?_)
      | (with_reducible refine LeO.bind ?_ (fun _ => ?_))
      | exact ih0 _ _ _ _ _
      | exact ih1 _ _ _ _ _ _ _
      | exact LeO.none _
      | refine LeO.ite ?_ ?_
      | refine LeO.bind ?_ (fun _ => ?_)
    · intro y0 y1 y2 y3 y4 y5 y6
      unfold xSplit.l1
      repeat' first
      | (with_reducible exact ih0 _ _ _ _ _)
      | (with_reducible exact ih1 _ _ _ _ _ _ _)
      | (with_reducible exact LeO.refl _)
      | (with_reducible exact LeO.none _)
      | (with_reducible refine LeO.ite ?_ ?_)
      | (with_reducible refine LeO.bind ?_ (fun _ => ?_))
      | exact ih0 _ _ _ _ _
      | exact ih1 _ _ _ _ _ _ _
      | exact LeO.none _
      | refine LeO.ite ?_ ?_
      | refine LeO.bind ?_ (fun _ => ?_)
theorem xSplit.mono : ∀ a0 a1 k, LeO (xSplit.f k a0 a1) (xSplit.f (k + 1) a0 a1) := by
  intro a0 a1 k
  obtain ⟨ih0, ih1⟩ := xSplit.mono_l k
  unfold xSplit.f
  repeat' first
      | (with_reducible exact ih0 _ _ _ _ _)
      | (with_reducible exact ih1 _ _ _ _ _ _ _)
      | (with_reducible exact LeO.refl _)
      | (with_reducible exact LeO.none _)
      | (with_reducible refine LeO.ite ?_ ?_)
      | (with_reducible refine LeO.bind ?_ (fun _ => ?_))
      | exact ih0 _ _ _ _ _
      | exact ih1 _ _ _ _ _ _ _
      | exact LeO.none _
      | refine LeO.ite ?_ ?_
      | refine LeO.bind ?_ (fun _ => ?_)
set_option maxHeartbeats 8000000 in
set_option maxRecDepth 100000 in
theorem xSplit.calls (k : Nat) (A0 : Option Addr) (c0 : Nat) (l0 : List (S40)) (a1 : Int) (r1 : List (S40)) (r2 : Int) (w : World) (hr0 : Kd.C k40 w A0 l0.length l0) (hc0 : l0.length ≤ c0) (h : xSplit.f k l0 a1 = some (r1, r2)) :
    Calls Try.prog 23 #[.slice A0 l0.length c0, .int .i64 a1] w fun e w' => ∃ v0_ : Value, e = .returned (.tuple #[v0_, .int .i64 r2]) ∧ Kd.R k40 40 w' w.heap.size (fun _ => True) v0_ r1 ∧ Below w.heap.size w w' := by
  have hu40 := Try.underlying40
  have HR0 := Aside0.mk hr0
  have HC0 := Aside0.mk hc0
  clear hr0 hc0
  have HB := Aside0.mk (Below.refl w.heap.size w)
  have H : (if a1 ≤ 0 then (some (([] : List (S40)), 1)) else ((xUnion.f l0 ([] : List (S40))).bind fun t194 => (xSplit.l0 k a1 ([] : List (S40)) t194 (t194.length : Int) 0))) = some (r1, r2) := h
  clear h
  by_cases c3 : a1 ≤ 0
  · rw [if_pos c3] at H
    have c3b0 : decide (a1 ≤ 0) = true := decide_eq_true c3
    clear c3
    simp only [Option.some.injEq, Prod.mk.injEq] at H
    obtain ⟨rfl, rfl⟩ := H
    go_enter Try.func23, Try.ntmps23
    go_wp2
    go_ret2
    exact ⟨_, by first | rfl | (simp [errW_none, errW_some] <;> rfl) | (simp [*, errW_none, errW_some] <;> rfl), by first | exact Kd.R_nil _ _ _ _ _ | exact Kd.N_nil _ _ _ _ _ | exact Kd.V_nil _ _ _ _ _ | exact Kd.Q_nil _ _ _ _ _ | exact Kd.S_nil _ _ _ _ _, by repeat (first | (with_reducible first | exact HB.out | apply below_alloc | apply pw_below_drewN | apply below_drew1) | exact HB.out)⟩
  · rw [if_neg c3] at H
    have c3b0 : decide (a1 ≤ 0) = false := decide_eq_false c3
    clear c3
    replace H := Option.bind_eq_some_iff.mp H
    obtain ⟨t194, A40, H⟩ := H
    replace H : (xSplit.l0 k a1 ([] : List (S40)) t194 (t194.length : Int) 0) = some (r1, r2) := H
    have A4 := Aside0.mk A40
    clear A40
    have H' := Aside0.mk H
    clear H
    go_enter Try.func23, Try.ntmps23
    go_wp2_with (first | ((with_reducible refine gate_callee (f := 25) rfl ?_); refine goesL_ (some 12) rfl rfl Try.func25 (by kernel_rfl) rfl #[.slice A0 l0.length c0, .slice none 0 0] rfl (by (try simp only [List.map_toArray, List.map_cons, List.map_nil]); first | done | rfl | (simp only [List.length_drop, List.length_take]; rfl)) ?_; (refine (xUnion.calls _ _ l0 _ _ ([] : List (S40)) t194 _ ?side1 ?side2 ?side3 ?side4 A4.out).mono ?_); (case side1 => repeat (first | exact HR0.out | (with_reducible refine Kd.C_alloc ?_ _) | (with_reducible refine Kd.C_drewN ?_ _) | (with_reducible refine Kd.C_drew ?_))); (case side2 => exact HC0.out); (case side3 => exact Kd.C_nil _ _); (case side4 => exact Nat.le_refl _); rintro e w5 ⟨v195, rfl, ho0, hb⟩; refine ⟨_, rfl, ?_⟩; have n0_ := Aside0.mk (Kd.R_lower ho0 (below_size (by repeat (first | (with_reducible first | exact HB.out | apply below_alloc | apply pw_below_drewN | apply below_drew1) | exact HB.out)))); have n1_ := Aside0.mk (below_step (by repeat (first | (with_reducible first | exact HB.out | apply below_alloc | apply pw_below_drewN | apply below_drew1) | exact HB.out)) hb); clear HB; have HO196 := n0_; have HB := n1_; clear n0_ n1_; (try clear hb); (try clear hb2); (try clear hk); (try clear hi); (try clear ho0); obtain ⟨Ao6, co6, eo6⟩ := Kd.R_slice HO196.out; subst eo6))
    go_loopg [6, 14] k (fun kq v6 v14 w' => ∃ (x6_1 : List (S40)) (x14_1 : Int), v14 = .int .i64 x14_1 ∧ Aside0 (xSplit.l0 kq a1 x6_1 t194 (t194.length : Int) x14_1 = some (r1, r2)) ∧ Aside0 (kq ≤ k) ∧ Aside0 (Kd.R k40 40 w' w.heap.size (fun k_ => some k_ ≠ ((.slice Ao6 t194.length co6) : Value).ownBlock) v6 x6_1) ∧ Aside0 (Kd.R k40 40 w' w.heap.size (fun k_ => some k_ ≠ (v6 : Value).ownBlock) (.slice Ao6 t194.length co6) t194) ∧ Aside0 (Below w.heap.size w w'))
    case atStart => exact ⟨(([] : List (S40))), (0), (by first | rfl | (simp; done) | (simp [*]; done)), H', ⟨Nat.le_refl _⟩, ⟨by first | exact Kd.R_nil _ _ _ _ _ | exact Kd.N_nil _ _ _ _ _ | exact Kd.V_nil _ _ _ _ _ | exact Kd.Q_nil _ _ _ _ _ | exact Kd.S_nil _ _ _ _ _⟩, ⟨by (with_reducible repeat (first | apply Kd.R_alloc | apply Kd.R_drewN | apply Kd.R_drew)); exact Kd.R_mono HO196.out (fun _ hk => (by simp [Value.ownBlock]))⟩, ⟨by repeat (first | (with_reducible first | exact HB.out | apply below_alloc | apply pw_below_drewN | apply below_drew1) | exact HB.out)⟩⟩
    case round =>
      clear H'
      try clear c2
      try clear p2
      try clear c3
      try clear c3b0
      obtain ⟨x6_1, x14_1, rfl, HA, HK1, HO_6, HO_12, HB⟩ := hrel
      cases gk with
      | zero => exact absurd HA.out (by simp [xSplit.l0])
      | succ k1 =>
        have H := HA.out
        clear HA
        simp only [xSplit.l0] at H
        by_cases c7 : x14_1 < (t194.length : Int)
        · rw [if_pos c7] at H
          have c7b0 : decide (x14_1 < (t194.length : Int)) = true := decide_eq_true c7
          clear c7
          by_cases c8 : 0 ≤ x14_1
          · rw [if_pos c8] at H
            have c8b0 : decide (0 ≤ x14_1) = true := decide_eq_true c8
            clear c8
            by_cases c9 : x14_1 < (t194.length : Int)
            · rw [if_pos c9] at H
              have c9b0 : decide (x14_1 < (t194.length : Int)) = true := decide_eq_true c9
              clear c9
              have H' := Aside0.mk H
              clear H
              have p197 : 0 ≤ (x14_1 : Int) := of_decide_eq_true (by first | (with_reducible assumption) | assumption)
              have q197 : x14_1 < (t194.length : Int) := of_decide_eq_true (by first | (with_reducible assumption) | assumption)
              obtain ⟨ad197, e197, hx197_0, hx197_1⟩ := at_T40 (Kd.R_reads' HO_12.out).2.2 x14_1 p197 q197
              cases e197
              replace p197 := eq_true p197
              replace q197 := eq_true q197
              go_wp2_with (first | ((with_reducible refine gate_dst (N := 8) rfl ?_); refine box_event ?hg (N := 8) ?hd (cs := #[.int .i64 0, .int .i64 0]) (t := 40) ?hr ?_; (case hd => rfl); (case hg => rfl); (case hr => first | (go_simp; done) | (go_simp; rfl)); intro gb198 hg w10 hbox hb; have n0_ := Aside0.mk (Kd.R_below (Kd.R_elderB (by (with_reducible repeat (first | apply Kd.R_alloc | apply Kd.R_drewN | apply Kd.R_drew)); exact HO_6.out) gb198 (Nat.le_of_eq hg.symm)) hb); have n1_ := Aside0.mk (Kd.R_below (Kd.R_elderB (by (with_reducible repeat (first | apply Kd.R_alloc | apply Kd.R_drewN | apply Kd.R_drew)); exact HO_12.out) gb198 (Nat.le_of_eq hg.symm)) hb); have n2_ := Aside0.mk (below_step (by repeat (first | (with_reducible first | exact HB.out | apply below_alloc | apply pw_below_drewN | apply below_drew1) | exact HB.out)) hb); have n3_ := Aside0.mk (hbox); have n4_ := Aside0.mk ((by rw [hg]; exact (below_size (by repeat (first | (with_reducible first | exact HB.out | apply below_alloc | apply pw_below_drewN | apply below_drew1) | exact HB.out))) : w.heap.size ≤ gb198)); have n5_ := Aside0.mk ((by rw [hg]; exact (below_size (by repeat (first | (with_reducible first | exact HB.out | apply below_alloc | apply pw_below_drewN | apply below_drew1) | exact HB.out))) : w.heap.size ≤ gb198)); clear HO_6; clear HO_12; clear HB; have HO_6 := n0_; have HO_12 := n1_; have HB := n2_; have BK198 := n3_; have GW198 := n4_; have GE198 := n5_; clear n0_ n1_ n2_ n3_ n4_ n5_; clear hb hbox hg; have hcz11_0 : w10.cell? ⟨gb198, 0, none⟩ = some (.int .i64 0) := (blk_cell BK198.out 0).trans rfl; have hcz11_1 : w10.cell? ⟨gb198, 1, none⟩ = some (.int .i64 0) := (blk_cell BK198.out 1).trans rfl; have hfz11_0 := blk_frozen BK198.out 0; have hfz11_1 := blk_frozen BK198.out 1))
              go_loopg [6] k1 (fun kq v6 w' => ∃ (x6_2 : List (S40)) (x199000_2 : Int) (x199001_2 : Int), Aside0 (xSplit.l1 kq a1 x6_2 t194 (t194.length : Int) x14_1 x199000_2 x199001_2 = some (r1, r2)) ∧ Aside0 (kq ≤ k1) ∧ Aside0 (Kd.R k40 40 w' w.heap.size (fun k_ => some k_ ≠ ((.slice (some ad197) t194.length co6) : Value).ownBlock ∧ k_ ≠ gb198) v6 x6_2) ∧ Aside0 (Kd.R k40 40 w' w.heap.size (fun k_ => some k_ ≠ (v6 : Value).ownBlock ∧ k_ ≠ gb198) (.slice (some ad197) t194.length co6) t194) ∧ Aside0 (w'.heap[gb198]? = some (.cells #[.int .i64 x199000_2, .int .i64 x199001_2] 40 (0, 0))) ∧ Aside0 (Below w.heap.size w w'))
              case atStart => exact ⟨(x6_1), ((rd_T40 t194 x14_1).f0), ((rd_T40 t194 x14_1).f1), H', ⟨Nat.le_refl _⟩, ⟨by (with_reducible repeat (first | apply Kd.R_alloc | apply Kd.R_drewN | apply Kd.R_drew)); exact Kd.R_mono (Kd.R_far (p := ⟨gb198, 1, none⟩) (Kd.R_far (p := ⟨gb198, 0, none⟩) (Kd.R_mono HO_6.out (fun k_ hk => (⟨hk, hk.2⟩ : _ ∧ k_ ≠ gb198))) (fun _ hk => hk.2) (.int .i64 ((rd_T40 t194 x14_1).f0))) (fun _ hk => hk.2) (.int .i64 ((rd_T40 t194 x14_1).f1))) (fun _ hk => by first | exact ⟨hk.1.1, hk.1.2⟩ | (revert hk; simp only [and_imp]; intros; (repeat' (first | assumption | apply And.intro)); done))⟩, ⟨by (with_reducible repeat (first | apply Kd.R_alloc | apply Kd.R_drewN | apply Kd.R_drew)); exact Kd.R_mono (Kd.R_far (p := ⟨gb198, 1, none⟩) (Kd.R_far (p := ⟨gb198, 0, none⟩) (Kd.R_mono HO_12.out (fun k_ hk => (⟨hk, hk.2⟩ : _ ∧ k_ ≠ gb198))) (fun _ hk => hk.2) (.int .i64 ((rd_T40 t194 x14_1).f0))) (fun _ hk => hk.2) (.int .i64 ((rd_T40 t194 x14_1).f1))) (fun _ hk => by first | exact ⟨hk.1.1, hk.1.2⟩ | (revert hk; simp only [and_imp]; intros; (repeat' (first | assumption | apply And.intro)); done))⟩, ⟨by (with_reducible repeat (first | refine blk_drewN ?_ _ | refine blk_drew ?_ | refine blk_alloc ?_ _)); refine blk_put (cs := #[.int .i64 ((rd_T40 t194 x14_1).f0), .int .i64 0]) ?_ 1 _ rfl; (with_reducible repeat (first | refine blk_drewN ?_ _ | refine blk_drew ?_ | refine blk_alloc ?_ _)); refine blk_put (cs := #[.int .i64 0, .int .i64 0]) ?_ 0 _ rfl; (with_reducible repeat (first | refine blk_drewN ?_ _ | refine blk_drew ?_ | refine blk_alloc ?_ _)); exact BK198.out⟩, ⟨by repeat (first | (with_reducible first | exact HB.out | apply below_alloc | apply pw_below_drewN | apply below_drew1 | refine below_set ?_ GE198.out) | exact HB.out)⟩⟩
              case round =>
                clear H'
                try clear p1
                try clear q1
                try clear hx1
                try clear c2
                try clear p2
                try clear c3
                try clear c3b0
                try clear c7
                try clear c7b0
                try clear c8
                try clear c8b0
                try clear c9
                try clear c9b0
                try clear hcz11_0
                try clear hcz11_1
                try clear hfz11_0
                try clear hfz11_1
                try clear hx197_0
                try clear hx197_1
                try clear p197
                try clear p2
                try clear q197
                obtain ⟨x6_2, x199000_2, x199001_2, HA, HK2, HO_6, HO_12, BK198, HB⟩ := hrel
                cases gk with
                | zero => exact absurd HA.out (by simp [xSplit.l1])
                | succ k2 =>
                  have H := HA.out
                  clear HA
                  simp only [xSplit.l1] at H
                  by_cases c12 : x199001_2 > a1
                  · rw [if_pos c12] at H
                    have c12b0 : decide (a1 < x199001_2) = true := decide_eq_true c12
                    clear c12
                    by_cases c13 : x6_2.length < 8796093022208
                    · rw [if_pos c13] at H
                      have LMc13 := Aside0.mk c13
                      clear c13
                      obtain ⟨y199, hy199⟩ : ∃ y_ : List (S40), y_ = (x6_2 ++ [(⟨x199000_2, a1⟩ : S40)]) := ⟨_, rfl⟩
                      replace H : (xSplit.l1 k2 a1 y199 t194 (t194.length : Int) x14_1 (wrap64 (x199000_2 + a1)) (wrap64 (x199001_2 - a1))) = some (r1, r2) := by first | (rw [hy199]; with_reducible exact H) | (have H2_ := (Option.bind_some _ _).symm.trans H; rw [hy199]; with_reducible exact H2_) | (have H2_ := (Option.bind_some _ _).symm.trans H; with_reducible exact H2_) | with_reducible exact H | (rw [hy199]; exact H) | exact H
                      have Ny199 := Aside0.mk hy199
                      clear hy199
                      have H' := Aside0.mk H
                      clear H
                      have hcz14_0 : wr.cell? ⟨gb198, 0, none⟩ = some (.int .i64 x199000_2) := (blk_cell BK198.out 0).trans rfl
                      have hcz14_1 : wr.cell? ⟨gb198, 1, none⟩ = some (.int .i64 x199001_2) := (blk_cell BK198.out 1).trans rfl
                      have hfz14_0 := blk_frozen BK198.out 0
                      have hfz14_1 := blk_frozen BK198.out 1
                      go_wp2_with (first | ((with_reducible refine gate_builtin (b := .append) (xs := #[.tmp 22, .tmp 27]) rfl ?_); at_builtin; refine Kd.R_append k40 (w0 := w) w.heap.size rfl (.tmp 22) (.tmp 27) 22 40 (.agg #[(.int .i64 0), (.int .i64 0)]) 16 rfl Try.underlying22 info40 rfl (by decide) (by omega) u6 x6_2 (⟨x199000_2, a1⟩ : S40) [.int .i64 x199000_2, .int .i64 a1] (fun k_ => some k_ ≠ (.slice (some ad197) t194.length co6 : Value).ownBlock ∧ k_ ≠ gb198) (fun _ => False) rfl rfl ?aP (fun _ hk => hk.elim) ?aF ?aO ?aB ?aS ?aL ?_; (case aP => exact k40_mkM _ _ _ (⟨x199000_2, a1⟩ : S40)); (case aB => exact (by repeat (first | (with_reducible first | exact HB.out | apply below_alloc | apply pw_below_drewN | apply below_drew1 | refine below_set ?_ GE198.out) | exact HB.out))); (case aF => exact (fun k_ hk => ⟨Kd.fresh' (Kd.R_lt (by (with_reducible repeat (first | apply Kd.R_alloc | apply Kd.R_drewN | apply Kd.R_drew)); exact HO_12.out)) k_ hk, Kd.freshB (g := gb198) (o := .cells #[.int .i64 x199000_2, .int .i64 x199001_2] 40 (0, 0)) (by (with_reducible repeat (first | refine blk_drewN ?_ _ | refine blk_drew ?_ | refine blk_alloc ?_ _)); exact BK198.out) k_ hk⟩)); (case aO => exact (by (with_reducible repeat (first | apply Kd.R_alloc | apply Kd.R_drewN | apply Kd.R_drew)); exact HO_6.out)); (case aS => exact (below_size (by repeat (first | (with_reducible first | exact HB.out | apply below_alloc | apply pw_below_drewN | apply below_drew1 | refine below_set ?_ GE198.out) | exact HB.out)))); (case aL => have := LMc13.out; omega); intro v200 w15 ho hb hg hat; rw [← Ny199.out] at ho; have n0_ := Aside0.mk (Kd.R_after (ok := (fun k_ => k_ ≠ gb198)) (by (with_reducible repeat (first | apply Kd.R_alloc | apply Kd.R_drewN | apply Kd.R_drew)); exact Kd.R_mono HO_12.out (fun _ hk => by first | exact ⟨hk.2, hk.1⟩ | (revert hk; simp only [and_imp]; intros; (repeat' (first | assumption | apply And.intro)); done))) hg hat); have n1_ := Aside0.mk (blk_grown (g := gb198) (o := .cells #[.int .i64 x199000_2, .int .i64 x199001_2] 40 (0, 0)) (by (with_reducible repeat (first | refine blk_drewN ?_ _ | refine blk_drew ?_ | refine blk_alloc ?_ _)); exact BK198.out) hg (Kd.R_away HO_6.out (fun _ hk => hk.2))); have n2_ := Aside0.mk (hb); have n3_ := Aside0.mk (ho); clear HO_12; clear BK198; clear HB; clear HO_6; have HO_12 := n0_; have BK198 := n1_; have HB := n2_; have HO201 := n3_; clear n0_ n1_ n2_ n3_; clear ho hb hg hat; have hcz16_0 : w15.cell? ⟨gb198, 0, none⟩ = some (.int .i64 x199000_2) := (blk_cell BK198.out 0).trans rfl; have hcz16_1 : w15.cell? ⟨gb198, 1, none⟩ = some (.int .i64 x199001_2) := (blk_cell BK198.out 1).trans rfl; have hfz16_0 := blk_frozen BK198.out 0; have hfz16_1 := blk_frozen BK198.out 1))
                      go_roundg k2
                      case measure => have := HK1.out; have := HK2.out; omega
                      case rel => exact ⟨(y199), (wrap64 (x199000_2 + a1)), (wrap64 (x199001_2 - a1)), H', ⟨by have := HK1.out; have := HK2.out; omega⟩, ⟨by (with_reducible repeat (first | apply Kd.R_alloc | apply Kd.R_drewN | apply Kd.R_drew)); exact Kd.R_mono (Kd.R_far (p := ⟨gb198, 1, none⟩) (Kd.R_far (p := ⟨gb198, 0, none⟩) (Kd.R_mono HO201.out (fun k_ hk => (⟨hk, hk.2⟩ : _ ∧ k_ ≠ gb198))) (fun _ hk => hk.2) (.int .i64 (wrap64 (x199000_2 + a1)))) (fun _ hk => hk.2) (.int .i64 (wrap64 (x199001_2 - a1)))) (fun _ hk => by first | exact ⟨hk.1.1, hk.1.2⟩ | (revert hk; simp only [and_imp]; intros; (repeat' (first | assumption | apply And.intro)); done))⟩, ⟨by (with_reducible repeat (first | apply Kd.R_alloc | apply Kd.R_drewN | apply Kd.R_drew)); exact Kd.R_mono (Kd.R_far (p := ⟨gb198, 1, none⟩) (Kd.R_far (p := ⟨gb198, 0, none⟩) (Kd.R_mono HO_12.out (fun k_ hk => (⟨hk, hk.1⟩ : _ ∧ k_ ≠ gb198))) (fun _ hk => hk.2) (.int .i64 (wrap64 (x199000_2 + a1)))) (fun _ hk => hk.2) (.int .i64 (wrap64 (x199001_2 - a1)))) (fun _ hk => by first | exact ⟨hk.1.2, hk.1.1⟩ | (revert hk; simp only [and_imp]; intros; (repeat' (first | assumption | apply And.intro)); done))⟩, ⟨by (with_reducible repeat (first | refine blk_drewN ?_ _ | refine blk_drew ?_ | refine blk_alloc ?_ _)); refine blk_put (cs := #[.int .i64 (wrap64 (x199000_2 + a1)), .int .i64 x199001_2]) ?_ 1 _ rfl; (with_reducible repeat (first | refine blk_drewN ?_ _ | refine blk_drew ?_ | refine blk_alloc ?_ _)); refine blk_put (cs := #[.int .i64 x199000_2, .int .i64 x199001_2]) ?_ 0 _ rfl; (with_reducible repeat (first | refine blk_drewN ?_ _ | refine blk_drew ?_ | refine blk_alloc ?_ _)); exact BK198.out⟩, ⟨by repeat (first | (with_reducible first | exact HB.out | apply below_alloc | apply pw_below_drewN | apply below_drew1 | refine below_set ?_ GE198.out) | exact HB.out)⟩⟩
                    · rw [if_neg c13] at H
                      exact absurd H (by simp)
                  · rw [if_neg c12] at H
                    have c12b0 : decide (a1 < x199001_2) = false := decide_eq_false c12
                    clear c12
                    by_cases c17 : x6_2.length < 8796093022208
                    · rw [if_pos c17] at H
                      have LMc17 := Aside0.mk c17
                      clear c17
                      obtain ⟨y202, hy202⟩ : ∃ y_ : List (S40), y_ = (x6_2 ++ [(⟨x199000_2, x199001_2⟩ : S40)]) := ⟨_, rfl⟩
                      replace H : (xSplit.l0 k2 a1 y202 t194 (t194.length : Int) (wrap64 (x14_1 + 1))) = some (r1, r2) := by first | (rw [hy202]; with_reducible exact H) | (have H2_ := (Option.bind_some _ _).symm.trans H; rw [hy202]; with_reducible exact H2_) | (have H2_ := (Option.bind_some _ _).symm.trans H; with_reducible exact H2_) | with_reducible exact H | (rw [hy202]; exact H) | exact H
                      have Ny202 := Aside0.mk hy202
                      clear hy202
                      have H' := Aside0.mk H
                      clear H
                      have hcz18_0 : wr.cell? ⟨gb198, 0, none⟩ = some (.int .i64 x199000_2) := (blk_cell BK198.out 0).trans rfl
                      have hcz18_1 : wr.cell? ⟨gb198, 1, none⟩ = some (.int .i64 x199001_2) := (blk_cell BK198.out 1).trans rfl
                      have hfz18_0 := blk_frozen BK198.out 0
                      have hfz18_1 := blk_frozen BK198.out 1
                      go_wp2_with (first | ((with_reducible refine gate_builtin (b := .append) (xs := #[.tmp 39, .tmp 41]) rfl ?_); at_builtin; refine Kd.R_append k40 (w0 := w) w.heap.size rfl (.tmp 39) (.tmp 41) 22 40 (.agg #[(.int .i64 0), (.int .i64 0)]) 16 rfl Try.underlying22 info40 rfl (by decide) (by omega) u6 x6_2 (⟨x199000_2, x199001_2⟩ : S40) [.int .i64 x199000_2, .int .i64 x199001_2] (fun k_ => some k_ ≠ (.slice (some ad197) t194.length co6 : Value).ownBlock ∧ k_ ≠ gb198) (fun _ => False) rfl rfl ?aP (fun _ hk => hk.elim) ?aF ?aO ?aB ?aS ?aL ?_; (case aP => exact k40_mkM _ _ _ (⟨x199000_2, x199001_2⟩ : S40)); (case aB => exact (by repeat (first | (with_reducible first | exact HB.out | apply below_alloc | apply pw_below_drewN | apply below_drew1 | refine below_set ?_ GE198.out) | exact HB.out))); (case aF => exact (fun k_ hk => ⟨Kd.fresh' (Kd.R_lt (by (with_reducible repeat (first | apply Kd.R_alloc | apply Kd.R_drewN | apply Kd.R_drew)); exact HO_12.out)) k_ hk, Kd.freshB (g := gb198) (o := .cells #[.int .i64 x199000_2, .int .i64 x199001_2] 40 (0, 0)) (by (with_reducible repeat (first | refine blk_drewN ?_ _ | refine blk_drew ?_ | refine blk_alloc ?_ _)); exact BK198.out) k_ hk⟩)); (case aO => exact (by (with_reducible repeat (first | apply Kd.R_alloc | apply Kd.R_drewN | apply Kd.R_drew)); exact HO_6.out)); (case aS => exact (below_size (by repeat (first | (with_reducible first | exact HB.out | apply below_alloc | apply pw_below_drewN | apply below_drew1 | refine below_set ?_ GE198.out) | exact HB.out)))); (case aL => have := LMc17.out; omega); intro v203 w19 ho hb hg hat; rw [← Ny202.out] at ho; have n0_ := Aside0.mk (Kd.R_after (ok := (fun k_ => k_ ≠ gb198)) (by (with_reducible repeat (first | apply Kd.R_alloc | apply Kd.R_drewN | apply Kd.R_drew)); exact Kd.R_mono HO_12.out (fun _ hk => by first | exact ⟨hk.2, hk.1⟩ | (revert hk; simp only [and_imp]; intros; (repeat' (first | assumption | apply And.intro)); done))) hg hat); have n1_ := Aside0.mk (blk_grown (g := gb198) (o := .cells #[.int .i64 x199000_2, .int .i64 x199001_2] 40 (0, 0)) (by (with_reducible repeat (first | refine blk_drewN ?_ _ | refine blk_drew ?_ | refine blk_alloc ?_ _)); exact BK198.out) hg (Kd.R_away HO_6.out (fun _ hk => hk.2))); have n2_ := Aside0.mk (hb); have n3_ := Aside0.mk (ho); clear HO_12; clear BK198; clear HB; clear HO_6; have HO_12 := n0_; have BK198 := n1_; have HB := n2_; have HO204 := n3_; clear n0_ n1_ n2_ n3_; clear ho hb hg hat))
                      go_roundg k2
                      case measure => have := HK1.out; have := HK2.out; omega
                      case rel => exact ⟨(y202), (wrap64 (x14_1 + 1)), (by first | rfl | (simp; done) | (simp [*]; done)), H', ⟨by have := HK1.out; have := HK2.out; omega⟩, ⟨by (with_reducible repeat (first | apply Kd.R_alloc | apply Kd.R_drewN | apply Kd.R_drew)); exact Kd.R_mono HO204.out (fun _ hk => hk.1)⟩, ⟨by (with_reducible repeat (first | apply Kd.R_alloc | apply Kd.R_drewN | apply Kd.R_drew)); exact Kd.R_mono HO_12.out (fun _ hk => hk.2)⟩, ⟨by repeat (first | (with_reducible first | exact HB.out | apply below_alloc | apply pw_below_drewN | apply below_drew1 | refine below_set ?_ GE198.out) | exact HB.out)⟩⟩
                    · rw [if_neg c17] at H
                      exact absurd H (by simp)
            · rw [if_neg c9] at H
              exact absurd H (by simp)
          · rw [if_neg c8] at H
            exact absurd H (by simp)
        · rw [if_neg c7] at H
          have c7b0 : decide (x14_1 < (t194.length : Int)) = false := decide_eq_false c7
          clear c7
          simp only [Option.some.injEq, Prod.mk.injEq] at H
          obtain ⟨rfl, rfl⟩ := H
          go_wp2
          go_ret2
          exact ⟨_, by first | rfl | (simp [errW_none, errW_some] <;> rfl) | (simp [*, errW_none, errW_some] <;> rfl), by (with_reducible repeat (first | apply Kd.R_alloc | apply Kd.R_drewN | apply Kd.R_drew)); exact Kd.R_mono HO_6.out (fun _ hk => trivial), by repeat (first | (with_reducible first | exact HB.out | apply below_alloc | apply pw_below_drewN | apply below_drew1) | exact HB.out)⟩
def xCount.l0 : Nat → Int → List (S40) → Int → Int → Option (Int)
  | 0, _, _, _, _ => none
  | k + 1, x3, x7, x8, x9 => if x9 < x8 then (if 0 ≤ x9 then (if x9 < (x7.length : Int) then (xCount.l0 k (wrap64 (x3 + ((rd_T40 x7 x9).f1))) x7 x8 (wrap64 (x9 + 1))) else (none)) else (none)) else (some x3)
def xCount.f (k : Nat) (l0 : List (S40)) : Option (Int) := (xUnion.f l0 ([] : List (S40))).bind fun t205 => (xCount.l0 k 0 t205 (t205.length : Int) 0)
theorem xCount.mono_l : ∀ k, (∀ y0 y1 y2 y3, LeO (xCount.l0 k y0 y1 y2 y3) (xCount.l0 (k + 1) y0 y1 y2 y3))
  | 0 => fun _ _ _ _ r h => by simp [xCount.l0] at h
  | k + 1 => by
    have ih0 := xCount.mono_l k
    · intro y0 y1 y2 y3
      unfold xCount.l0
      repeat' first
      | (with_reducible exact ih0 _ _ _ _)
      | (with_reducible exact LeO.refl _)
      | (with_reducible exact LeO.none _)
      | (with_reducible refine LeO.ite ?_ ?_)
      | (with_reducible refine LeO.bind ?_ (fun _ => ?_))
      | exact ih0 _ _ _ _
      | exact LeO.none _
      | refine LeO.ite ?_ ?_
      | refine LeO.bind ?_ (fun _ => ?_)
theorem xCount.mono : ∀ a0 k, LeO (xCount.f k a0) (xCount.f (k + 1) a0) := by
  intro a0 k
  have ih0 := xCount.mono_l k
  unfold xCount.f
  repeat' first
      | (with_reducible exact ih0 _ _ _ _)
      | (with_reducible exact LeO.refl _)
      | (with_reducible exact LeO.none _)
      | (with_reducible refine LeO.ite ?_ ?_)
      | (with_reducible refine LeO.bind ?_ (fun _ => ?_))
      | exact ih0 _ _ _ _
      | exact LeO.none _
      | refine LeO.ite ?_ ?_
      | refine LeO.bind ?_ (fun _ => ?_)
set_option maxHeartbeats 8000000 in
set_option maxRecDepth 100000 in
theorem xCount.calls (k : Nat) (A0 : Option Addr) (c0 : Nat) (l0 : List (S40)) (r : Int) (w : World) (hr0 : Kd.C k40 w A0 l0.length l0) (hc0 : l0.length ≤ c0) (h : xCount.f k l0 = some r) :
    Calls Try.prog 31 #[.slice A0 l0.length c0] w fun e w' => e = .returned (.int .i64 r) ∧ Below w.heap.size w w' := by
  have hu40 := Try.underlying40
  have HR0 := Aside0.mk hr0
  have HC0 := Aside0.mk hc0
  clear hr0 hc0
  have HB := Aside0.mk (Below.refl w.heap.size w)
  have H : ((xUnion.f l0 ([] : List (S40))).bind fun t205 => (xCount.l0 k 0 t205 (t205.length : Int) 0)) = some r := h
  clear h
  replace H := Option.bind_eq_some_iff.mp H
  obtain ⟨t205, A20, H⟩ := H
  replace H : (xCount.l0 k 0 t205 (t205.length : Int) 0) = some r := H
  have A2 := Aside0.mk A20
  clear A20
  have H' := Aside0.mk H
  clear H
  go_enter Try.func31, Try.ntmps31
  go_wp2_with (first | ((with_reducible refine gate_callee (f := 25) rfl ?_); refine goesL_ (some 7) rfl rfl Try.func25 (by kernel_rfl) rfl #[.slice A0 l0.length c0, .slice none 0 0] rfl (by (try simp only [List.map_toArray, List.map_cons, List.map_nil]); first | done | rfl | (simp only [List.length_drop, List.length_take]; rfl)) ?_; (refine (xUnion.calls _ _ l0 _ _ ([] : List (S40)) t205 _ ?side1 ?side2 ?side3 ?side4 A2.out).mono ?_); (case side1 => repeat (first | exact HR0.out | (with_reducible refine Kd.C_alloc ?_ _) | (with_reducible refine Kd.C_drewN ?_ _) | (with_reducible refine Kd.C_drew ?_))); (case side2 => exact HC0.out); (case side3 => exact Kd.C_nil _ _); (case side4 => exact Nat.le_refl _); rintro e w3 ⟨v206, rfl, ho0, hb⟩; refine ⟨_, rfl, ?_⟩; have n0_ := Aside0.mk (Kd.R_lower ho0 (below_size (by repeat (first | (with_reducible first | exact HB.out | apply below_alloc | apply pw_below_drewN | apply below_drew1) | exact HB.out)))); have n1_ := Aside0.mk (below_step (by repeat (first | (with_reducible first | exact HB.out | apply below_alloc | apply pw_below_drewN | apply below_drew1) | exact HB.out)) hb); clear HB; have HO207 := n0_; have HB := n1_; clear n0_ n1_; (try clear hb); (try clear hb2); (try clear hk); (try clear hi); (try clear ho0); obtain ⟨Ao4, co4, eo4⟩ := Kd.R_slice HO207.out; subst eo4))
  go_loopg [3, 9] k (fun kq v3 v9 w' => ∃ (x3_1 : Int) (x9_1 : Int), v3 = .int .i64 x3_1 ∧ v9 = .int .i64 x9_1 ∧ Aside0 (xCount.l0 kq x3_1 t205 (t205.length : Int) x9_1 = some r) ∧ Aside0 (kq ≤ k) ∧ Aside0 (Kd.R k40 40 w' w.heap.size (fun _ => True) (.slice Ao4 t205.length co4) t205) ∧ Aside0 (Below w.heap.size w w'))
  case atStart => exact ⟨(0), (0), (by first | rfl | (simp; done) | (simp [*]; done)), (by first | rfl | (simp; done) | (simp [*]; done)), H', ⟨Nat.le_refl _⟩, ⟨by (with_reducible repeat (first | apply Kd.R_alloc | apply Kd.R_drewN | apply Kd.R_drew)); exact HO207.out⟩, ⟨by repeat (first | (with_reducible first | exact HB.out | apply below_alloc | apply pw_below_drewN | apply below_drew1) | exact HB.out)⟩⟩
  case round =>
    clear H'
    try clear c2
    try clear p2
    try clear c3
    obtain ⟨x3_1, x9_1, rfl, rfl, HA, HK1, HO_7, HB⟩ := hrel
    cases gk with
    | zero => exact absurd HA.out (by simp [xCount.l0])
    | succ k1 =>
      have H := HA.out
      clear HA
      simp only [xCount.l0] at H
      by_cases c5 : x9_1 < (t205.length : Int)
      · rw [if_pos c5] at H
        have c5b0 : decide (x9_1 < (t205.length : Int)) = true := decide_eq_true c5
        clear c5
        by_cases c6 : 0 ≤ x9_1
        · rw [if_pos c6] at H
          have c6b0 : decide (0 ≤ x9_1) = true := decide_eq_true c6
          clear c6
          by_cases c7 : x9_1 < (t205.length : Int)
          · rw [if_pos c7] at H
            have c7b0 : decide (x9_1 < (t205.length : Int)) = true := decide_eq_true c7
            clear c7
            have H' := Aside0.mk H
            clear H
            have p208 : 0 ≤ (x9_1 : Int) := of_decide_eq_true (by first | (with_reducible assumption) | assumption)
            have q208 : x9_1 < (t205.length : Int) := of_decide_eq_true (by first | (with_reducible assumption) | assumption)
            obtain ⟨ad208, e208, hx208_0, hx208_1⟩ := at_T40 (Kd.R_reads' HO_7.out).2.2 x9_1 p208 q208
            cases e208
            replace p208 := eq_true p208
            replace q208 := eq_true q208
            go_wp2_with (first | ((with_reducible refine gate_dst (N := 5) rfl ?_); refine box_event ?hg (N := 5) ?hd (cs := #[.int .i64 0, .int .i64 0]) (t := 40) ?hr ?_; (case hd => rfl); (case hg => rfl); (case hr => first | (go_simp; done) | (go_simp; rfl)); intro gb209 hg w8 hbox hb; have n0_ := Aside0.mk (Kd.R_below (Kd.R_elderB (by (with_reducible repeat (first | apply Kd.R_alloc | apply Kd.R_drewN | apply Kd.R_drew)); exact HO_7.out) gb209 (Nat.le_of_eq hg.symm)) hb); have n1_ := Aside0.mk (below_step (by repeat (first | (with_reducible first | exact HB.out | apply below_alloc | apply pw_below_drewN | apply below_drew1) | exact HB.out)) hb); have n2_ := Aside0.mk (hbox); have n3_ := Aside0.mk ((by rw [hg]; exact (below_size (by repeat (first | (with_reducible first | exact HB.out | apply below_alloc | apply pw_below_drewN | apply below_drew1) | exact HB.out))) : w.heap.size ≤ gb209)); have n4_ := Aside0.mk ((by rw [hg]; exact (below_size (by repeat (first | (with_reducible first | exact HB.out | apply below_alloc | apply pw_below_drewN | apply below_drew1) | exact HB.out))) : w.heap.size ≤ gb209)); clear HO_7; clear HB; have HO_7 := n0_; have HB := n1_; have BK209 := n2_; have GW209 := n3_; have GE209 := n4_; clear n0_ n1_ n2_ n3_ n4_; clear hb hbox hg; have hcz9_0 : w8.cell? ⟨gb209, 0, none⟩ = some (.int .i64 0) := (blk_cell BK209.out 0).trans rfl; have hcz9_1 : w8.cell? ⟨gb209, 1, none⟩ = some (.int .i64 0) := (blk_cell BK209.out 1).trans rfl; have hfz9_0 := blk_frozen BK209.out 0; have hfz9_1 := blk_frozen BK209.out 1))
            go_roundg k1
            case measure => have := HK1.out; omega
            case rel => exact ⟨(wrap64 (x3_1 + ((rd_T40 t205 x9_1).f1))), (wrap64 (x9_1 + 1)), (by first | rfl | (simp; done) | (simp [*]; done)), (by first | rfl | (simp; done) | (simp [*]; done)), H', ⟨by have := HK1.out; omega⟩, ⟨by (with_reducible repeat (first | apply Kd.R_alloc | apply Kd.R_drewN | apply Kd.R_drew)); exact Kd.R_mono (Kd.R_far (p := ⟨gb209, 1, none⟩) (Kd.R_far (p := ⟨gb209, 0, none⟩) (Kd.R_mono HO_7.out (fun k_ hk => (⟨hk, hk.2⟩ : _ ∧ k_ ≠ gb209))) (fun _ hk => hk.2) (.int .i64 ((rd_T40 t205 x9_1).f0))) (fun _ hk => hk.2) (.int .i64 ((rd_T40 t205 x9_1).f1))) (fun _ hk => trivial)⟩, ⟨by repeat (first | (with_reducible first | exact HB.out | apply below_alloc | apply pw_below_drewN | apply below_drew1 | refine below_set ?_ GE209.out) | exact HB.out)⟩⟩
          · rw [if_neg c7] at H
            exact absurd H (by simp)
        · rw [if_neg c6] at H
          exact absurd H (by simp)
      · rw [if_neg c5] at H
        have c5b0 : decide (x9_1 < (t205.length : Int)) = false := decide_eq_false c5
        clear c5
        obtain rfl := Option.some.inj H
        go_wp2
        go_ret
        exact ⟨by first | rfl | (simp [errW_none, errW_some] <;> rfl) | (simp [*, errW_none, errW_some] <;> rfl), by repeat (first | (with_reducible first | exact HB.out | apply below_alloc | apply pw_below_drewN | apply below_drew1) | exact HB.out)⟩
def l01e.f (a0 : Int) (a1 : Int) : Option (Int × Int) := some (a0, a1)
set_option maxHeartbeats 8000000 in
set_option maxRecDepth 100000 in
theorem l01e.calls (a0 : Int) (a1 : Int) (r1 : Int) (r2 : Int) (w : World) (h : l01e.f a0 a1 = some (r1, r2)) :
    Calls Try.prog 33 #[.int .i64 a0, .int .i64 a1] w fun e w' => e = .returned (.agg #[.int .i64 r1, .int .i64 r2]) ∧ Below w.heap.size w w' := by
  have hu40 := Try.underlying40
  have HB := Aside0.mk (Below.refl w.heap.size w)
  have H : (some (a0, a1)) = some (r1, r2) := h
  clear h
  simp only [Option.some.injEq, Prod.mk.injEq] at H
  obtain ⟨rfl, rfl⟩ := H
  go_enter Try.func33, Try.ntmps33
  go_wp2_with (first | ((with_reducible refine gate_dst (N := 4) rfl ?_); refine box_event ?hg (N := 4) ?hd (cs := #[.int .i64 0, .int .i64 0]) (t := 40) ?hr ?_; (case hd => rfl); (case hg => rfl); (case hr => first | (go_simp; done) | (go_simp; rfl)); intro gb210 hg w3 hbox hb; have n0_ := Aside0.mk (below_step (by repeat (first | (with_reducible first | exact HB.out | apply below_alloc | apply pw_below_drewN | apply below_drew1) | exact HB.out)) hb); have n1_ := Aside0.mk (hbox); have n2_ := Aside0.mk ((by rw [hg]; exact (below_size (by repeat (first | (with_reducible first | exact HB.out | apply below_alloc | apply pw_below_drewN | apply below_drew1) | exact HB.out))) : w.heap.size ≤ gb210)); have n3_ := Aside0.mk ((by rw [hg]; exact (below_size (by repeat (first | (with_reducible first | exact HB.out | apply below_alloc | apply pw_below_drewN | apply below_drew1) | exact HB.out))) : w.heap.size ≤ gb210)); clear HB; have HB := n0_; have BK210 := n1_; have GW210 := n2_; have GE210 := n3_; clear n0_ n1_ n2_ n3_; clear hb hbox hg; have hcz4_0 : w3.cell? ⟨gb210, 0, none⟩ = some (.int .i64 0) := (blk_cell BK210.out 0).trans rfl; have hcz4_1 : w3.cell? ⟨gb210, 1, none⟩ = some (.int .i64 0) := (blk_cell BK210.out 1).trans rfl; have hfz4_0 := blk_frozen BK210.out 0; have hfz4_1 := blk_frozen BK210.out 1))
  refine bodyPost_ret (results_cell_row rfl _ _ gb210 40 #[.int .i64 a0, .int .i64 a1] (0, 0) _ rfl (by (with_reducible repeat (first | refine blk_drewN ?_ _ | refine blk_drew ?_ | refine blk_alloc ?_ _)); refine blk_put (cs := #[.int .i64 a0, .int .i64 0]) ?_ 1 _ rfl; (with_reducible repeat (first | refine blk_drewN ?_ _ | refine blk_drew ?_ | refine blk_alloc ?_ _)); refine blk_put (cs := #[.int .i64 0, .int .i64 0]) ?_ 0 _ rfl; (with_reducible repeat (first | refine blk_drewN ?_ _ | refine blk_drew ?_ | refine blk_alloc ?_ _)); exact BK210.out) Try.underlying40 rfl (by kernel_rfl)) rfl ?_
  exact ⟨by first | rfl | (simp [errW_none, errW_some] <;> rfl) | (simp [*, errW_none, errW_some] <;> rfl), by repeat (first | (with_reducible first | exact HB.out | apply below_alloc | apply pw_below_drewN | apply below_drew1 | refine below_set ?_ GE210.out) | exact HB.out)⟩
end Go.Proofs.Yteeedheklnelkaa.P

namespace Go.Proofs.Yteeedheklnelkaa.P
open Go.RowKit Go.Proofs.YteeedheklnelkaaW.PrintWords Go.Proofs.YteeedheklnelkaaW.PrintLast Go.Proofs.YteeedheklnelkaaW.PrintMore
attribute [local go_sem] max2_int min2_int max_two min_two max_three min_three max_four min_four   -- for this text's walks alone
set_option linter.unusedVariables false
set_option linter.unusedSimpArgs false
def xComplement.f (l0 : List (S40)) (a1 : Int) : Option ((List (S40))) := (xSubtract.f (([(⟨0, mn (mx a1 0) 4096⟩ : S40)] : List (S40))) l0).bind fun t183 => (some t183)
set_option maxHeartbeats 8000000 in
set_option maxRecDepth 100000 in
theorem xComplement.calls (A0 : Option Addr) (c0 : Nat) (l0 : List (S40)) (a1 : Int) (r : List (S40)) (w : World) (hr0 : Kd.C k40 w A0 l0.length l0) (hc0 : l0.length ≤ c0) (h : xComplement.f l0 a1 = some r) :
    Calls Try.prog 19 #[.slice A0 l0.length c0, .int .i64 a1] w fun e w' => ∃ v0_ : Value, e = .returned (v0_) ∧ Kd.R k40 40 w' w.heap.size (fun _ => True) v0_ r ∧ Below w.heap.size w w' := by
  have hu40 := Try.underlying40
  have HR0 := Aside0.mk hr0
  have HC0 := Aside0.mk hc0
  clear hr0 hc0
  have HB := Aside0.mk (Below.refl w.heap.size w)
  have H : ((xSubtract.f (([(⟨0, mn (mx a1 0) 4096⟩ : S40)] : List (S40))) l0).bind fun t183 => (some t183)) = some r := h
  clear h
  obtain ⟨ji3, hji3⟩ : ∃ j_ : Int, (mx a1 0) = j_ := ⟨_, rfl⟩
  replace H : ((xSubtract.f (([(⟨0, mn (ji3) 4096⟩ : S40)] : List (S40))) l0).bind fun t183 => (some t183)) = some r := by first | (rw [hji3] at H; exact H) | (simp only [hji3] at H ⊢; exact H)
  (try (have hji3l : 0 ≤ ji3 := by (rw [← hji3]; unfold mx; (repeat' split) <;> omega)))
  (try (have hji3m : 0 ≤ ji3 := by omega))
  have hji3_ : (if a1 < 0 then 0 else a1) = ji3 := hji3
  obtain ⟨ji4, hji4⟩ : ∃ j_ : Int, (mn (ji3) 4096) = j_ := ⟨_, rfl⟩
  replace H : ((xSubtract.f (([(⟨0, ji4⟩ : S40)] : List (S40))) l0).bind fun t183 => (some t183)) = some r := by first | (rw [hji4] at H; exact H) | (simp only [hji4] at H ⊢; exact H)
  have hji4_ : (if 4096 < (ji3) then 4096 else (ji3)) = ji4 := hji4
  obtain ⟨y180, hy180⟩ : ∃ y_ : List (S40), y_ = (([(⟨0, ji4⟩ : S40)] : List (S40))) := ⟨_, rfl⟩
  replace H : ((xSubtract.f y180 l0).bind fun t183 => (some t183)) = some r := by first | (rw [hy180]; with_reducible exact H) | (have H2_ := (Option.bind_some _ _).symm.trans H; rw [hy180]; with_reducible exact H2_) | (have H2_ := (Option.bind_some _ _).symm.trans H; with_reducible exact H2_) | with_reducible exact H | (rw [hy180]; exact H) | exact H
  have Ny180 := Aside0.mk hy180
  clear hy180
  replace H := Option.bind_eq_some_iff.mp H
  obtain ⟨t183, A50, H⟩ := H
  replace H : (some t183) = some r := H
  have A5 := Aside0.mk A50
  clear A50
  obtain rfl := Option.some.inj H
  go_enter Try.func19, Try.ntmps19
  go_wp2_with (first | ((with_reducible refine gate_dst (N := 9) rfl ?_); refine Kd.R_lit k40 _ 40 ?hg (N := 9) ?hd (xs := ([(⟨0, ji4⟩ : S40)] : List (S40))) (inner := [.int .i64 0, .int .i64 ji4]) (ok := fun _ => True) (okp := fun _ => True) ?hr ?hp (fun _ hk => hk) trivial (Below.refl _ _) (Nat.le_refl _) (by simp) ?_; (case hd => rfl); (case hg => rfl); (case hr => first | (go_simp; done) | (go_simp; rfl)); (case hp => exact (Reps.c2 (show Kd.M k40 _ _ _ (⟨0, ji4⟩ : S40) [.int .i64 0, .int .i64 ji4] from (k40_mkM _ _ _ (⟨0, ji4⟩ : S40) )) (Reps.none _ _))); intro v181 w6 ho7 hb hg_ hnew_; clear hg_ hnew_; (first | rw [← Ny180.out] at ho7 | (simp only [Int.reduceToNat] at ho7; rw [← Ny180.out] at ho7)); have n0_ := Aside0.mk (Kd.R_lower ho7 (below_size (by repeat (first | (with_reducible first | exact HB.out | apply below_alloc | apply pw_below_drewN | apply below_drew1) | exact HB.out)))); have n1_ := Aside0.mk (below_step (by repeat (first | (with_reducible first | exact HB.out | apply below_alloc | apply pw_below_drewN | apply below_drew1) | exact HB.out)) hb); clear HB; have HO182 := n0_; have HB := n1_; clear n0_ n1_; clear hb ho7; obtain ⟨Ao8, co8, eo8⟩ := Kd.R_slice HO182.out; subst eo8) | ((with_reducible refine gate_callee (f := 29) rfl ?_); refine goesL_ (some 11) rfl rfl Try.func29 (by kernel_rfl) rfl #[.slice Ao8 y180.length co8, .slice A0 l0.length c0] rfl (by (try simp only [List.map_toArray, List.map_cons, List.map_nil]); first | done | rfl | (simp only [List.length_drop, List.length_take]; rfl)) ?_; (with_reducible refine (xSubtract.calls _ _ y180 _ _ l0 t183 _ ?side1 ?side2 ?side3 ?side4 A5.out).mono ?_); (case side1 => repeat (first | exact (Kd.R_reads' HO182.out).2.2 | (with_reducible refine Kd.C_alloc ?_ _) | (with_reducible refine Kd.C_drewN ?_ _) | (with_reducible refine Kd.C_drew ?_))); (case side2 => exact (Kd.R_reads' HO182.out).2.1); (case side3 => repeat (first | exact (Kd.C_below HR0.out HB.out) | (with_reducible refine Kd.C_alloc ?_ _) | (with_reducible refine Kd.C_drewN ?_ _) | (with_reducible refine Kd.C_drew ?_))); (case side4 => exact HC0.out); rintro e w9 ⟨v184, rfl, ho0, hb⟩; refine ⟨_, rfl, ?_⟩; have n0_ := Aside0.mk (Kd.R_elder' (by (with_reducible repeat (first | apply Kd.R_alloc | apply Kd.R_drewN | apply Kd.R_drew)); exact HO182.out) (Kd.R_base ho0) hb); have n1_ := Aside0.mk (Kd.R_lower (Kd.R_new' ho0 (Kd.R_lt (by (with_reducible repeat (first | apply Kd.R_alloc | apply Kd.R_drewN | apply Kd.R_drew)); exact HO182.out))) (below_size (by repeat (first | (with_reducible first | exact HB.out | apply below_alloc | apply pw_below_drewN | apply below_drew1) | exact HB.out)))); have n2_ := Aside0.mk (below_step (by repeat (first | (with_reducible first | exact HB.out | apply below_alloc | apply pw_below_drewN | apply below_drew1) | exact HB.out)) hb); clear HO182; clear HB; have HO182 := n0_; have HO185 := n1_; have HB := n2_; clear n0_ n1_ n2_; (try clear hb); (try clear hb2); (try clear hk); (try clear hi); (try clear ho0)))
  go_ret
  exact ⟨_, by first | rfl | (simp [errW_none, errW_some] <;> rfl) | (simp only [← hji3, ← hji4]; first | rfl | (simp [errW_none, errW_some] <;> rfl)) | (simp [*, errW_none, errW_some] <;> rfl), by (with_reducible repeat (first | apply Kd.R_alloc | apply Kd.R_drewN | apply Kd.R_drew)); exact Kd.R_mono HO185.out (fun _ hk => trivial), by repeat (first | (with_reducible first | exact HB.out | apply below_alloc | apply pw_below_drewN | apply below_drew1) | exact HB.out)⟩
end Go.Proofs.Yteeedheklnelkaa.P

namespace Go.Proofs.Yteeedheklnelkaa.P
open Go.RowKit Go.Proofs.YteeedheklnelkaaW.PrintWords Go.Proofs.YteeedheklnelkaaW.PrintLast Go.Proofs.YteeedheklnelkaaW.PrintMore
attribute [local go_sem] max2_int min2_int max_two min_two max_three min_three max_four min_four
set_option maxHeartbeats 2000000 in
theorem cont_one (B : Nat) (x : Int) (e : S40) (W : World) (hB : W.cell? ⟨B, 0, none⟩ = some (.int .i64 x)) :
    Calls Try.prog 38 #[.agg #[.int .i64 e.f0, .int .i64 e.f1], .pointer (some ⟨B, 0, none⟩)] W fun e' w' => e' = .returned (.bool (inE e x)) ∧ Below W.heap.size W w' := by
  obtain ⟨p, q, ok, hwi⟩ : ∃ p q ok, wI e = (p, q, ok) := ⟨_, _, _, rfl⟩
  have hcall : xwithin.f e.f0 e.f1 = some (p, q, ok) := (wI_eq _ _).trans (congrArg some hwi)
  have HCALL := Aside0.mk hcall
  have HI : Aside0 (inE e x = (ok && decide (p ≤ x ∧ x < q))) := ⟨by unfold inE; rw [hwi]⟩
  have HB := Aside0.mk hB
  have HL := Aside0.mk (World.block_lt_of_cell? W _ hB)
  clear hwi hcall hB
  go_enter Try.func38, Try.ntmps38
  go_wp2_with fail
  refine (xwithin.calls e.f0 e.f1 p q ok _ HCALL.out).mono ?_
  rintro e2 w2 ⟨rfl, hd⟩
  have HB2 := Aside0.mk (below_step (below_alloc (Below.refl W.heap.size W) (.cells #[.int .i64 e.f0, .int .i64 e.f1] 40)) hd)
  have c2 : w2.cell? ⟨B, 0, none⟩ = some (.int .i64 x) := pw_cell_below HB2.out HB.out
  clear hd
  cases ok
  · go_wp2
    go_ret
    exact ⟨by rw [HI.out]; rfl, HB2.out⟩
  · by_cases h1 : p ≤ x
    · by_cases h2 : x < q
      · have d1 : decide (p ≤ x) = true := decide_eq_true h1
        have d2 : decide (x < q) = true := decide_eq_true h2
        go_wp2
        go_ret
        exact ⟨by rw [HI.out, decide_eq_true (show p ≤ x ∧ x < q from ⟨h1, h2⟩)]; rfl, HB2.out⟩
      · have d1 : decide (p ≤ x) = true := decide_eq_true h1
        have d2 : decide (x < q) = false := decide_eq_false h2
        go_wp2
        go_ret
        exact ⟨by rw [HI.out, decide_eq_false (show ¬ (p ≤ x ∧ x < q) by omega)]; rfl, HB2.out⟩
    · have d1 : decide (p ≤ x) = false := decide_eq_false h1
      go_wp2
      go_ret
      exact ⟨by rw [HI.out, decide_eq_false (show ¬ (p ≤ x ∧ x < q) by omega)]; rfl, HB2.out⟩
set_option maxHeartbeats 4000000 in
set_option maxRecDepth 100000 in
/-- slices.IndexFunc of the closure: the first extent that holds the sector, or -1: below 0 where there is none. -/
theorem index_any (B : Nat) (x : Int) (A : Option Addr) (c : Nat) (l : List S40) (w : World) (hB : w.cell? ⟨B, 0, none⟩ = some (.int .i64 x)) (hr : Kd.C k40 w A l.length l) (hc : l.length ≤ c) (hN : l.length ≤ 1000000) :
    Calls Try.prog 46 #[.slice A l.length c, .func (.func 38) #[] #[.pointer (some ⟨B, 0, none⟩)]] w fun e w' => ∃ n : Int, e = .returned (.int .i64 n) ∧ decide (n ≥ 0) = inL l x ∧ Below w.heap.size w w' := by
  have HB := Aside0.mk hB
  have HR := Aside0.mk hr
  have HC := Aside0.mk hc
  have HN := Aside0.mk hN
  clear hB hr hc hN
  go_enter Try.func46, Try.ntmps46
  go_wp2_with fail
  go_loopw [8] (fun i wr => ∃ k : Nat, k ≤ l.length ∧ i = .int .i64 k ∧ Aside0 (∀ e ∈ l.take k, inE e x = false) ∧ Aside0 (Below w.heap.size w wr))
    (fun i _ => l.length - (intOf i).toNat)
  case atStart => exact ⟨0, Nat.zero_le _, rfl, ⟨fun e he => by simp at he⟩, ⟨Below.refl _ _⟩⟩
  case round =>
    obtain ⟨k, hk, rfl, HF, HBw⟩ := hrel
    by_cases hlt : k < l.length
    · obtain ⟨ad, hA, q0, q1⟩ := read_ext (Kd.C_below HR.out HBw.out) hlt
      subst hA
      obtain ⟨e, he⟩ : ∃ e, e = l[k] := ⟨_, rfl⟩
      rw [← he] at q0 q1
      have HE := Aside0.mk he
      have hk5 : k < 1000000 := by have := HN.out; omega
      have hkd : decide (k < l.length) = true := decide_eq_true hlt
      clear he
      go_wp2_with fail
      refine (cont_one B x e wr (pw_cell_below HBw.out HB.out)).mono ?_
      rintro e2 w2 ⟨rfl, hb2⟩
      have HB2 := Aside0.mk (below_step HBw.out hb2)
      clear hb2 q0 q1
      cases hin : inE e x
      · have HIN := Aside0.mk hin
        clear hin
        go_wp2
        go_roundw
        case rel =>
          refine ⟨k + 1, by omega, by go_num, ⟨fun y hy => ?_⟩, HB2⟩
          rw [List.take_succ_eq_append_getElem hlt] at hy
          rcases List.mem_append.1 hy with hy | hy
          · exact HF.out y hy
          · rw [List.mem_singleton] at hy
            rw [hy, ← HE.out]; exact HIN.out
        case measure => simp [intOf]; omega
      · have HIN := Aside0.mk hin
        clear hin
        go_wp2
        go_ret
        refine ⟨k, rfl, ?_, HB2.out⟩
        have h1 : inL l x = true := by
          unfold inL
          rw [List.any_eq_true]
          exact ⟨e, by rw [HE.out]; exact List.getElem_mem hlt, HIN.out⟩
        rw [h1, decide_eq_true_iff]; omega
    · obtain rfl : k = l.length := by omega
      go_wp2
      go_ret
      refine ⟨-1, rfl, ?_, HBw.out⟩
      have h1 : inL l x = false := by
        unfold inL
        rw [List.any_eq_false]
        intro e he
        have := HF.out e (by rw [List.take_length]; exact he)
        rw [this]; decide
      rw [h1]; rfl
theorem containsFunc_any (B : Nat) (x : Int) (A : Option Addr) (c : Nat) (l : List S40) (w : World) (hB : w.cell? ⟨B, 0, none⟩ = some (.int .i64 x)) (hr : Kd.C k40 w A l.length l) (hc : l.length ≤ c) (hN : l.length ≤ 1000000) :
    Calls Try.prog 37 #[.slice A l.length c, .func (.func 38) #[] #[.pointer (some ⟨B, 0, none⟩)]] w fun e w' => e = .returned (.bool (inL l x)) ∧ Below w.heap.size w w' := by
  have HI := Aside0.mk (index_any B x A c l w hB hr hc hN)
  clear hB hr hc hN
  go_enter Try.func37, Try.ntmps37
  go_wp2_with fail
  refine HI.out.mono ?_
  rintro e w1 ⟨n, rfl, hn, hb⟩
  have HN := Aside0.mk hn
  have HB := Aside0.mk hb
  clear hn hb
  go_wp2
  go_ret
  exact ⟨by rw [← HN.out]; rfl, HB.out⟩
theorem xContains.calls (A0 : Option Addr) (c0 : Nat) (l0 : List (S40)) (a1 : Int) (r : Bool) (w : World) (hr0 : Kd.C k40 w A0 l0.length l0) (hc0 : l0.length ≤ c0) (h : xContains.f l0 a1 = some r) :
    Calls Try.prog 21 #[.slice A0 l0.length c0, .int .i64 a1] w fun e w' => e = .returned (.bool r) ∧ Below w.heap.size w w' := by
  have hh : l0.length ≤ 1000000 ∧ r = inL l0 a1 := by
    unfold xContains.f at h
    split at h
    · rename_i hn
      exact ⟨hn, (Option.some.inj h).symm⟩
    · cases h
  obtain ⟨hN, rfl⟩ := hh
  have hb : Below w.heap.size w (w.alloc (.cells #[.int .i64 a1] 3)) := below_alloc (Below.refl _ _) _
  have hcon := containsFunc_any w.heap.size a1 A0 c0 l0 (w.alloc (.cells #[.int .i64 a1] 3)) ((blk_cell (heap_alloc_new w _) 0).trans rfl) (Kd.C_below hr0 hb) hc0 hN
  have HC := Aside0.mk hcon
  have HB := Aside0.mk hb
  clear hcon hb hr0 hc0 h hN
  go_enter Try.func21, Try.ntmps21
  go_wp2_with fail
  refine HC.out.mono ?_
  rintro e w1 ⟨rfl, hb1⟩
  have HB1 := Aside0.mk (below_step HB.out hb1)
  clear hb1
  go_wp2
  go_ret
  exact ⟨rfl, HB1.out⟩
end Go.Proofs.Yteeedheklnelkaa.P
