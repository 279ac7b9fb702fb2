/-
  Parts of the proof of the law BitmapExtents (part 1): what the functions it reaches come to, and the plain law. Conditions: those that each theorem names.
-/
import Derived.Test.YthpldfjjdmjcoaaDoorProg
import Derived.Below
import Derived.Deep.Draws
import Derived.Deep.AppendLies
import Derived.Maps.AppendAt
import Derived.OwnWalk
import Derived.Laws.BytesArg
import Derived.Laws.MakeOwn
import Derived.Laws.OwnMore
import Derived.Deep.OwnRows
import Derived.Tactics
import Derived.Lib.ConvBytes
import Derived.Laws.Slices
import Derived.WalkKit
import Derived.KernelRfl
import Derived.RowKit3
import Derived.Deep.LoopGhost
import Derived.Deep.QuietTactic
import Derived.BigQuiet
import Derived.WideLaws
import Derived.Deep.DeepCutAuto
import Derived.Deep.CutBlock
import Derived.Deep.RegionHeld3
import Derived.Laws.Rows
import Derived.Lib.AppendStr
import Derived.ArgAppend
import Derived.Laws.IdiomCopy
import Derived.OrdersHeld
import Derived.Laws.BitsLemmas
import Derived.RowKit
import Derived.Lib.TrailingZeros
import Derived.Test.YthpldfjjdmjcoaaDoorWWords
import Derived.Test.YthpldfjjdmjcoaaDoorWLast
import Derived.Test.YthpldfjjdmjcoaaDoorWTab
import Derived.Test.YthpldfjjdmjcoaaDoorWFour
import Derived.Test.YthpldfjjdmjcoaaDoorWQPut
import Derived.Test.YthpldfjjdmjcoaaDoorWApart
import Derived.Test.YthpldfjjdmjcoaaDoorWArr
import Derived.Test.YthpldfjjdmjcoaaDoorWZeros
import Derived.Test.YthpldfjjdmjcoaaDoorWFoot
import Derived.Test.YthpldfjjdmjcoaaDoorWKept
import Derived.Test.YthpldfjjdmjcoaaDoorWShare
import Derived.Test.YthpldfjjdmjcoaaDoorWN
import Derived.Test.YthpldfjjdmjcoaaDoorWFootNe
import Derived.Test.YthpldfjjdmjcoaaDoorWAt
import Derived.Test.YthpldfjjdmjcoaaDoorWEqStruct
import Derived.Test.YthpldfjjdmjcoaaDoorWRepsOne
import Derived.Test.YthpldfjjdmjcoaaDoorWInv
import Derived.Test.YthpldfjjdmjcoaaDoorWInvWords
import Derived.Test.YthpldfjjdmjcoaaDoorWGuard
import Derived.Test.YthpldfjjdmjcoaaDoorWNEv
import Derived.Test.YthpldfjjdmjcoaaDoorWMore
import Derived.Test.YthpldfjjdmjcoaaDoorRows
import Derived.ProofKit
import Derived.OpenShut
import Derived.Deep.DeepHandedRow
import Derived.Deep.SlicePairs
import Derived.Lib.LaidTab
import Derived.Lib.SmallJoins
import Derived.Laws.Bits64
namespace Go.Proofs.YthpldfjjdmjcoaaDoor.P
open Go.RowKit Go.Proofs.YthpldfjjdmjcoaaDoorW.PrintWords Go.Proofs.YthpldfjjdmjcoaaDoorW.PrintLast Go.Proofs.YthpldfjjdmjcoaaDoorW.PrintMore
attribute [local go_sem] max2_int min2_int max_two min_two max_three min_three max_four min_four   -- for this text's walks alone
set_option linter.unusedVariables false
set_option linter.unusedSimpArgs false
def errW : Option Int → Value
  | none => .nilIface
  | some c => .iface 0 (.int .i64 c)
theorem errW_none : errW none = .nilIface := rfl
theorem errW_some (c : Int) : errW (some c) = .iface 0 (.int .i64 c) := rfl
/-- The library's table of 64 numbers, as its initialiser lays it. -/
structure TabOK (w : World) : Prop where
  lt : 0 < w.heap.size
  out : ∀ j, j < Lib.deBruijn64tab.length → w.cell? ⟨0, j, none⟩ = some (.int .u8 (Lib.deBruijn64tab.getD j 0))
theorem TabOK.below {w w1 : World} (h : TabOK w) (hb : Below w.heap.size w w1) : TabOK w1 := ⟨Nat.lt_of_lt_of_le h.lt hb.size, fun j hj => pw_cell_below hb (h.out j hj)⟩
theorem info26 : (Tryd.prog.info? 26).map (fun i => (i.zero, i.size, i.bytes)) = some (some (.agg #[(.int .i64 0), (.int .i64 0)]), 2, 16) := by kernel_rfl
theorem info55 : (Tryd.prog.info? 55).map (fun i => (i.zero, i.size, i.bytes)) = some (some (.int .u64 0), 1, 8) := by kernel_rfl
structure S24 where
  f0 : Int
  f1 : (List Int)
def z24 : S24 := ⟨(0 : Int), ([] : List Int)⟩
def k24 : Kd S24 := Kd.iso (Kd.pair (Kd.int .i64) (Kd.slice 55 (Kd.int .u64))) (fun x : S24 => (x.f0, x.f1))
theorem k24_open {w : World} {x : S24} {cs : List Value} (h : k24.K w x cs) : ∃ A1 c1, cs = [.int .i64 x.f0, .slice A1 x.f1.length c1] ∧ x.f1.length ≤ c1 ∧ (Kd.int .u64).C w A1 x.f1.length x.f1 := by
  obtain ⟨_, _, rfl, rfl, ⟨A1, c1, rfl, l1, g1⟩⟩ := h
  exact ⟨A1, c1, rfl, l1, g1⟩
theorem k24_mk (w : World) (x : S24) {A1 : Option Addr} {c1 : Nat} (l1 : x.f1.length ≤ c1) (g1 : (Kd.int .u64).C w A1 x.f1.length x.f1) : k24.K w x [.int .i64 x.f0, .slice A1 x.f1.length c1] := ⟨[.int .i64 x.f0], [.slice A1 x.f1.length c1], rfl, rfl, ⟨A1, c1, rfl, l1, g1⟩⟩
theorem k24_mkF (W : World) (ok : Nat → Prop) (x : S24) {A1 : Option Addr} {c1 : Nat} (l1 : x.f1.length ≤ c1) (g1 : Kd.F (Kd.int .u64) W ok A1 x.f1.length x.f1) : Kd.FK k24 W ok x [.int .i64 x.f0, .slice A1 x.f1.length c1] := fun W2 hW => k24_mk W2 x l1 (g1 W2 hW)
def rd_T24 (xs : List S24) (i : Int) : S24 := xs.getD i.toNat z24
theorem at_T24 {w : World} {A : Option Addr} {n : Nat} {xs : List S24} (h : Kd.C k24 w A n xs) (i : Int) (h0 : 0 ≤ i) (h1 : i < n) : ∃ ad A1 c1, A = some ad ∧ w.cell? (ad.add (i.toNat * 2)) = some (.int .i64 (rd_T24 xs i).f0) ∧ w.cell? ⟨(ad.add (i.toNat * 2)).block, (ad.add (i.toNat * 2)).off + 1, none⟩ = some (.slice A1 (rd_T24 xs i).f1.length c1) ∧ (rd_T24 xs i).f1.length ≤ c1 ∧ (Kd.int .u64).C w A1 (rd_T24 xs i).f1.length (rd_T24 xs i).f1 := by
  obtain ⟨ad, c, e, _, hK, hc0⟩ := Kd.C_get h z24 i h0 h1
  have hc : ∀ j u, c[j]? = some u → w.cell? (ad.add (i.toNat * 2 + j)) = some u := hc0
  obtain ⟨A1, c1, rfl, l1, g1⟩ := k24_open hK
  exact ⟨ad, A1, c1, e, hc 0 _ rfl, by rw [← add_field _ _ 1 (by omega)]; exact hc 1 _ rfl, l1, g1⟩
structure S26 where
  f0 : Int
  f1 : Int
def z26 : S26 := ⟨(0 : Int), (0 : Int)⟩
def k26 : Kd S26 := Kd.iso (Kd.pair (Kd.int .i64) (Kd.int .i64)) (fun x : S26 => (x.f0, x.f1))
theorem k26_open {w : World} {x : S26} {cs : List Value} (h : k26.K w x cs) : cs = [.int .i64 x.f0, .int .i64 x.f1] := by
  obtain ⟨_, _, rfl, rfl, rfl⟩ := h
  exact rfl
theorem k26_openM {w : World} {base : Nat} {ok : Nat → Prop} {x : S26} {cs : List Value} (h : k26.M w base ok x cs) : cs = [.int .i64 x.f0, .int .i64 x.f1] := by
  obtain ⟨_, _, rfl, rfl, rfl⟩ := h
  exact rfl
theorem k26_mk (w : World) (x : S26)  : k26.K w x [.int .i64 x.f0, .int .i64 x.f1] := ⟨[.int .i64 x.f0], [.int .i64 x.f1], rfl, rfl, rfl⟩
theorem k26_mkM (w : World) (base : Nat) (ok : Nat → Prop) (x : S26)  : k26.M w base ok x [.int .i64 x.f0, .int .i64 x.f1] := ⟨[.int .i64 x.f0], [.int .i64 x.f1], rfl, rfl, rfl⟩
def rd_T26 (xs : List S26) (i : Int) : S26 := xs.getD i.toNat z26
theorem at_T26 {w : World} {A : Option Addr} {n : Nat} {xs : List S26} (h : Kd.C k26 w A n xs) (i : Int) (h0 : 0 ≤ i) (h1 : i < n) : ∃ ad , A = some ad ∧ w.cell? (ad.add (i.toNat * 2)) = some (.int .i64 (rd_T26 xs i).f0) ∧ w.cell? ⟨(ad.add (i.toNat * 2)).block, (ad.add (i.toNat * 2)).off + 1, none⟩ = some (.int .i64 (rd_T26 xs i).f1) := by
  obtain ⟨ad, c, e, _, hK, hc0⟩ := Kd.C_get h z26 i h0 h1
  have hc : ∀ j u, c[j]? = some u → w.cell? (ad.add (i.toNat * 2 + j)) = some u := hc0
  obtain rfl := k26_open hK
  exact ⟨ad, e, hc 0 _ rfl, by rw [← add_field _ _ 1 (by omega)]; exact hc 1 _ rfl⟩
end Go.Proofs.YthpldfjjdmjcoaaDoor.P

namespace Go.Proofs.YthpldfjjdmjcoaaDoor.P
open Go.ChangeShapes Go.WideShapes Go.ChangeAt Go.RowKit Go.Deep Go.Joins Go.Proofs.YthpldfjjdmjcoaaDoorW.PrintWords Go.Proofs.YthpldfjjdmjcoaaDoorW.PrintLast Go.Proofs.YthpldfjjdmjcoaaDoorW.PrintMore
theorem laidOut : laidOutB Tryd.prog = true := by kernel_rfl
theorem wf_u64_out {n : Int} (h : (Lit.int .u64 n).wf = true) : 0 ≤ n ∧ n < 18446744073709551616 := by
  have := h
  simp [Lit.wf, IntKind.min, IntKind.max, IntKind.bits, IntKind.signed] at this
  omega
theorem F_of_C {k : IntKind} {W : World} {A : Option Addr} {n : Nat} {xs : List Int} (h : Kd.C (Kd.int k) W A n xs) : Kd.F (Kd.int k) W (fun _ => True) A n xs := fun W' hW =>
  ⟨h.1, h.2.1, fun h0 => by
    obtain ⟨ad, e, hc⟩ := h.2.2 h0
    refine ⟨ad, e, fun j p hj => ?_⟩
    obtain ⟨c, hl, hr, hcell⟩ := hc j p hj
    refine ⟨c, hl, hr, fun i u hu => ?_⟩
    have hw := hcell i u hu
    exact (World.cell?_of_block (hW _ trivial (World.block_lt_of_cell? W _ hw))).trans hw⟩
section
variable {H : Type} {enc : TypeId × Value → H} {W : World}
theorem ints_of {fuel : Nat} {v : Value} {x : DataW H × List MemPlace} {A : Option Addr} {len cap : Nat} (hv : v = .slice A len cap) (h : DataW.trod enc Tryd.prog W 0 (fun _ => true) true fuel 22 [v] = some x) :
    ∃ l : List Int, len = l.length ∧ l.length ≤ cap ∧ Kd.C (Kd.int .u64) W A l.length l ∧ ∀ n ∈ l, (Lit.int .u64 n).wf = true := by
  subst hv
  have key : (A = none ∧ len = 0 ∧ cap = 0 ∧ ([] : List Int) = []) ∨ ∃ (zs : List Int) (x : Addr), A = some x ∧ len ≤ cap ∧ cap ≤ maxLen ∧ zs.length = cap ∧ (∀ i, i < zs.length → W.cell? (x.add i) = some (.int .u64 (zs.getD i 0))) ∧ ∀ n ∈ zs, (Lit.int .u64 n).wf = true := by
    rcases open_ints Tryd.underlying22 Tryd.underlying55 (by kernel_rfl) h with ⟨hcs, _⟩ | ⟨x, l, c, zs, hcs, _, hl, hm, hz, _, hcell, hwz⟩
    · simp at hcs
      obtain ⟨rfl, rfl, rfl⟩ := hcs
      exact .inl ⟨rfl, rfl, rfl, rfl⟩
    · simp at hcs
      obtain ⟨rfl, rfl, rfl⟩ := hcs
      exact .inr ⟨zs, _, rfl, hl, hm, by simpa using hz, hcell, hwz⟩
  have key2 : ∃ zs : List Int, (A = none ∧ len = 0 ∧ cap = 0 ∧ zs = []) ∨ ∃ x, A = some x ∧ len ≤ cap ∧ cap ≤ maxLen ∧ zs.length = cap ∧ (∀ i, i < zs.length → W.cell? (x.add i) = some (.int .u64 (zs.getD i 0))) ∧ ∀ n ∈ zs, (Lit.int .u64 n).wf = true := by
    rcases key with h1 | ⟨zs, h1⟩
    · exact ⟨[], .inl h1⟩
    · exact ⟨zs, .inr h1⟩
  obtain ⟨zs, hz⟩ := key2
  obtain ⟨l, e, h1, _, h3, h4⟩ := ReadsInt.ofRowC hz
  exact ⟨l, e, h4, Kd.C_of_reads (d := (0 : Int)) (h1 := fun _ => rfl) h1, h3⟩
/-- A bitmap. -/
theorem open_bitmap {v : Value} {d : DataW H} {p : List MemPlace} (hv : Value.okWide Tryd.prog W .any 0 24 v ∨ ∃ b, Value.okWide Tryd.prog W .any b 24 v) (h : DataW.Trod enc Tryd.prog W 0 (fun _ => true) true 24 v d p) :
    ∃ (s : Int) (A : Option Addr) (c : Nat) (l : List Int), v = .agg #[.int .i64 s, .slice A l.length c] ∧ (Lit.int .i64 s).wf = true ∧ (∀ n ∈ l, 0 ≤ n ∧ n < 18446744073709551616) ∧ l.length ≤ c ∧ Kd.C (Kd.int .u64) W A l.length l ∧ Kd.V (Kd.int .u64) 55 W W.heap.size (fun _ => True) (.slice A l.length c) l := by
  obtain ⟨b, hv⟩ : ∃ b, Value.okWide Tryd.prog W .any b 24 v := by
    rcases hv with h | h
    · exact ⟨_, h⟩
    · exact h
  obtain ⟨v0, v1, y0, y1, n, rfl, rfl, rfl, h0, h1⟩ := open_agg2 Tryd.underlying24 (by kernel_rfl) (by kernel_rfl) hv h
  obtain ⟨s, hs, hy, hw⟩ := DataW.trod_int Tryd.underlying3 h0
  obtain rfl : v0 = .int .i64 s := by simpa using hs
  obtain ⟨A, len, cap, hcs⟩ : ∃ A len cap, v1 = .slice A len cap := by
    rcases open_ints Tryd.underlying22 Tryd.underlying55 (by kernel_rfl) h1 with ⟨hcs, _⟩ | ⟨x, l, c, zs, hcs, _⟩
    · exact ⟨_, _, _, by simpa using hcs⟩
    · exact ⟨_, _, _, by simpa using hcs⟩
  obtain ⟨l, rfl, hlc, hC, hwf⟩ := ints_of hcs h1
  exact ⟨s, A, cap, l, by rw [hcs], hw, fun n hn => wf_u64_out (hwf n hn), hlc, hC, Kd.V_mk hlc (F_of_C hC)⟩
theorem choose_two {P : Nat → Int → Int → Prop} {n : Nat} (h : ∀ i, i < n → ∃ a b, P i a b) : ∃ f g : Nat → Int, ∀ i, i < n → P i (f i) (g i) := by
  induction n with
  | zero => exact ⟨fun _ => 0, fun _ => 0, fun i hi => by omega⟩
  | succ n ih =>
    obtain ⟨f, g, hf⟩ := ih (fun i hi => h i (by omega))
    obtain ⟨a, b, hab⟩ := h n (by omega)
    refine ⟨fun i => if i = n then a else f i, fun i => if i = n then b else g i, fun i hi => ?_⟩
    by_cases e : i = n
    · subst e; simpa using hab
    · simpa [e] using hf i (by omega)
/-- A slice of extents. -/
theorem open_extents {v : Value} {d : DataW H} {p : List MemPlace} {b : Nat} (hv : Value.okWide Tryd.prog W .any b 44 v) (h : DataW.Trod enc Tryd.prog W 0 (fun _ => true) true 44 v d p) :
    ∃ (A : Option Addr) (c : Nat) (l : List S26), v = .slice A l.length c ∧ l.length ≤ c ∧ Kd.C k26 W A l.length l ∧ ∀ e ∈ l, (Lit.int .i64 e.f0).wf = true ∧ (Lit.int .i64 e.f1).wf = true := by
  obtain ⟨A, len, cap, rfl⟩ := okWide_slice Tryd.underlying44 hv
  obtain ⟨fuel, hf⟩ := h
  rcases open_slice_pairs Tryd.underlying44 Tryd.underlying26 (by kernel_rfl) rfl rfl (by kernel_rfl) (by kernel_rfl) hf with ⟨hcs, _⟩ | ⟨a, l, c, m, n, V0, V1, D0, D1, P0, P1, hcs, _, hl, hm, hmm, _, hx⟩
  · simp [Value.cells] at hcs
    obtain ⟨rfl, rfl, rfl⟩ := hcs
    exact ⟨none, 0, [], rfl, Nat.le_refl _, Kd.C_nil _ _, fun _ h => by cases h⟩
  · simp [Value.cells] at hcs
    obtain ⟨rfl, rfl, rfl⟩ := hcs
    have hmc : m = cap := by simpa using hmm
    obtain ⟨f, g, hfg⟩ := choose_two (P := fun i x y => W.cell? (a.add (i * 2)) = some (.int .i64 x) ∧ W.cell? (a.add (i * 2 + 1)) = some (.int .i64 y) ∧ (Lit.int .i64 x).wf = true ∧ (Lit.int .i64 y).wf = true) (n := len) (fun i hi => by
      obtain ⟨c0, c1, t0, t1⟩ := hx i (by omega)
      obtain ⟨x, e0, _, w0⟩ := DataW.trod_int Tryd.underlying3 t0
      obtain ⟨y, e1, _, w1⟩ := DataW.trod_int Tryd.underlying3 t1
      have e0' : V0 i = .int .i64 x := by simpa using e0
      have e1' : V1 i = .int .i64 y := by simpa using e1
      exact ⟨x, y, by rw [c0, e0'], by rw [c1, e1'], w0, w1⟩)
    refine ⟨some a, cap, (List.range len).map fun i => ⟨f i, g i⟩, by simp, by simpa using hl, ⟨rfl, by simp only [List.length_map, List.length_range]; unfold maxLen at hm; omega, fun _ => ⟨a, rfl, fun j p hj => ?_⟩⟩, fun e he => ?_⟩
    · have hjl : j < len := by
        have := (List.getElem?_eq_some_iff.1 hj).1
        simpa using this
      have hp : p = ⟨f j, g j⟩ := by
        rw [List.getElem?_map, List.getElem?_range hjl] at hj
        simpa using hj.symm
      subst hp
      refine ⟨[.int .i64 (f j), .int .i64 (g j)], rfl, k26_mk W _, fun i u hu => ?_⟩
      obtain ⟨c0, c1, -, -⟩ := hfg j hjl
      match i, hu with
      | 0, hu => obtain rfl : Value.int .i64 (f j) = u := by simpa using hu
                 exact c0
      | 1, hu => obtain rfl : Value.int .i64 (g j) = u := by simpa using hu
                 exact c1
      | i + 2, hu => simp at hu
    · rw [List.mem_map] at he
      obtain ⟨i, hi, rfl⟩ := he
      obtain ⟨-, -, w0, w1⟩ := hfg i (List.mem_range.1 hi)
      exact ⟨w0, w1⟩
theorem open_small {k : IntKind} {t : Nat} {v : Value} {d : DataW H} {p : List MemPlace} {b : Nat} (ht : Tryd.prog.underlying t = some (.int k)) (hv : Value.okWide Tryd.prog W .any b t v) (h : DataW.Trod enc Tryd.prog W 0 (fun _ => true) true t v d p) :
    ∃ s : Int, v = .int k s ∧ (Lit.int k s).wf = true := by
  obtain ⟨a, e, -, -, w⟩ := open_int ht hv h
  exact ⟨a, e, w⟩
/-- An argument reads behind the call as it read before. -/
theorem back {t : TypeId} (hr : Tryd.prog.readableRec t = true) (hrow : t < Tryd.prog.types.size) {W' : World} {v : Value} {d : DataW H} {ps : List MemPlace} (h : DataW.Trod enc Tryd.prog W 0 (fun _ => true) true t v d ps) (hb : Below W.heap.size W W') :
    DataW.Trod enc Tryd.prog W' 0 (fun b => decide (b < W.heap.size)) true t v d ps :=
  Below.trod laidOut hr hrow h hb (by obtain ⟨m, hm⟩ := h; exact DataW.trod_lt m _ _ _ hm)
end
end Go.Proofs.YthpldfjjdmjcoaaDoor.P

namespace Go.Proofs.YthpldfjjdmjcoaaDoor.P
open Go.RowKit Go.Proofs.YthpldfjjdmjcoaaDoorW.PrintWords Go.Proofs.YthpldfjjdmjcoaaDoorW.PrintLast Go.Proofs.YthpldfjjdmjcoaaDoorW.PrintMore
attribute [local go_sem] max2_int min2_int max_two min_two max_three min_three max_four min_four   -- for this text's walks alone
set_option linter.unusedVariables false
set_option linter.unusedSimpArgs false
def l02few.l0 : Nat → List (S24) → Int → Option (Bool)
  | 0, _, _ => none
  | k + 1, x0, x3 => if x3 < (x0.length : Int) then (if 0 ≤ x3 then (if (((rd_T24 x0 x3).f1).length : Int) > 20 then (some false) else (l02few.l0 k x0 (wrap64 (x3 + 1)))) else (none)) else (some true)
def l02few.f (k : Nat) (l0 : List (S24)) : Option (Bool) := l02few.l0 k l0 0
set_option maxHeartbeats 8000000 in
set_option maxRecDepth 100000 in
theorem l02few.calls (k : Nat) (A0 : Option Addr) (c0 : Nat) (l0 : List (S24)) (r : Bool) (w : World) (hr0 : Kd.C k24 w A0 l0.length l0) (hc0 : l0.length ≤ c0) (h : l02few.f k l0 = some r) :
    Calls Tryd.prog 11 #[.slice A0 l0.length c0] w fun e w' => e = .returned (.bool r) ∧ Drawn0 w w' := by
  have HR0 := Aside0.mk hr0
  have HC0 := Aside0.mk hc0
  clear hr0 hc0
  have H : (l02few.l0 k l0 0) = some r := h
  clear h
  have H' := Aside0.mk H
  clear H
  go_enter Tryd.func11, Tryd.ntmps11
  go_wp2
  go_loopg [3] k (fun kq v3 w' => ∃ (x3_1 : Int), v3 = .int .i64 x3_1 ∧ Aside0 (l02few.l0 kq l0 x3_1 = some r) ∧ Aside0 (kq ≤ k) ∧ Drawn0 w w')
  case atStart => exact ⟨(0), (by first | rfl | (simp; done) | (simp [*]; done)), H', ⟨Nat.le_refl _⟩, by repeat (first | exact Drawn0.refl _ | apply Drawn0.step)⟩
  case round =>
    clear H'
    try clear c1
    obtain ⟨x3_1, rfl, HA, HK1, ⟨m1, rfl⟩⟩ := hrel
    cases gk with
    | zero => exact absurd HA.out (by simp [l02few.l0])
    | succ k1 =>
      have H := HA.out
      clear HA
      simp only [l02few.l0] at H
      by_cases c2 : x3_1 < (l0.length : Int)
      · rw [if_pos c2] at H
        have c2b0 : decide (x3_1 < (l0.length : Int)) = true := decide_eq_true c2
        clear c2
        by_cases c3 : 0 ≤ x3_1
        · rw [if_pos c3] at H
          have c3b0 : decide (0 ≤ x3_1) = true := decide_eq_true c3
          clear c3
          by_cases c4 : (((rd_T24 l0 x3_1).f1).length : Int) > 20
          · rw [if_pos c4] at H
            have c4b0 : decide (20 < (((rd_T24 l0 x3_1).f1).length : Int)) = true := decide_eq_true c4
            have c4b1 : decide (20 < ((rd_T24 l0 x3_1).f1).length) = true := decide_eq_true (by omega)
            clear c4
            obtain rfl := Option.some.inj H
            have p101 : 0 ≤ (x3_1 : Int) := of_decide_eq_true (by first | (with_reducible assumption) | assumption)
            have q101 : x3_1 < (l0.length : Int) := of_decide_eq_true (by first | (with_reducible assumption) | assumption)
            obtain ⟨ad101, A101_1, c101_1, e101, hx101_0, hx101_1, hl101_1, hi101_1⟩ := at_T24 HR0.out x3_1 p101 q101
            cases e101
            have HR101_1 := Aside0.mk hi101_1
            have HC101_1 := Aside0.mk hl101_1
            clear hi101_1 hl101_1
            replace p101 := eq_true p101
            replace q101 := eq_true q101
            go_wp2
            go_ret
            exact ⟨by first | rfl | (simp; done) | (simp [*]; done), by repeat (first | exact Drawn0.refl _ | apply Drawn0.step)⟩
          · rw [if_neg c4] at H
            have c4b0 : decide (20 < (((rd_T24 l0 x3_1).f1).length : Int)) = false := decide_eq_false c4
            have c4b1 : decide (20 < ((rd_T24 l0 x3_1).f1).length) = false := decide_eq_false (by omega)
            clear c4
            have H' := Aside0.mk H
            clear H
            have p101 : 0 ≤ (x3_1 : Int) := of_decide_eq_true (by first | (with_reducible assumption) | assumption)
            have q101 : x3_1 < (l0.length : Int) := of_decide_eq_true (by first | (with_reducible assumption) | assumption)
            obtain ⟨ad101, A101_1, c101_1, e101, hx101_0, hx101_1, hl101_1, hi101_1⟩ := at_T24 HR0.out x3_1 p101 q101
            cases e101
            have HR101_1 := Aside0.mk hi101_1
            have HC101_1 := Aside0.mk hl101_1
            clear hi101_1 hl101_1
            replace p101 := eq_true p101
            replace q101 := eq_true q101
            go_wp2
            go_roundg k1
            case measure => have := HK1.out; omega
            case rel => exact ⟨(wrap64 (x3_1 + 1)), (by first | rfl | (simp; done) | (simp [*]; done)), H', ⟨by have := HK1.out; omega⟩, by repeat (first | exact Drawn0.refl _ | apply Drawn0.step)⟩
        · rw [if_neg c3] at H
          exact absurd H (by simp)
      · rw [if_neg c2] at H
        have c2b0 : decide (x3_1 < (l0.length : Int)) = false := decide_eq_false c2
        clear c2
        obtain rfl := Option.some.inj H
        go_wp2
        go_ret
        exact ⟨by first | rfl | (simp; done) | (simp [*]; done), by repeat (first | exact Drawn0.refl _ | apply Drawn0.step)⟩
def r02bit.f (a0_0 : Int) (l0_1 : List Int) (a1 : Int) : Option (Bool) := if 0 ≤ (wrap64 (Int.tdiv a1 64)) then (if (wrap64 (Int.tdiv a1 64)) < (l0_1.length : Int) then (if 0 ≤ (IntKind.u64.wrap (Int.tmod a1 64)) then (some ((Go.bits .and .u64 (shr .u64 (rd l0_1 (wrap64 (Int.tdiv a1 64))) (IntKind.u64.wrap (Int.tmod a1 64))) 1) == 1)) else (none)) else (none)) else (none)
set_option maxHeartbeats 8000000 in
set_option maxRecDepth 100000 in
theorem r02bit.calls (a0_0 : Int) (A0_1 : Option Addr) (c0_1 : Nat) (l0_1 : List Int) (a1 : Int) (r : Bool) (w : World) (hr0_1 : Kd.C (Kd.int .u64) w A0_1 l0_1.length l0_1) (hc0_1 : l0_1.length ≤ c0_1) (h : r02bit.f a0_0 l0_1 a1 = some r) :
    Calls Tryd.prog 44 #[.agg #[.int .i64 a0_0, .slice A0_1 l0_1.length c0_1], .int .i64 a1] w fun e w' => e = .returned (.bool r) ∧ Below w.heap.size w w' := by
  have hu24 := Tryd.underlying24
  have HR0_1 := Aside0.mk hr0_1
  have HC0_1 := Aside0.mk hc0_1
  clear hr0_1 hc0_1
  have HB := Aside0.mk (Below.refl w.heap.size w)
  have H : (if 0 ≤ (wrap64 (Int.tdiv a1 64)) then (if (wrap64 (Int.tdiv a1 64)) < (l0_1.length : Int) then (if 0 ≤ (IntKind.u64.wrap (Int.tmod a1 64)) then (some ((Go.bits .and .u64 (shr .u64 (rd l0_1 (wrap64 (Int.tdiv a1 64))) (IntKind.u64.wrap (Int.tmod a1 64))) 1) == 1)) else (none)) else (none)) else (none)) = some r := h
  clear h
  obtain ⟨ji3, hji3⟩ : ∃ j_ : Int, (wrap64 (Int.tdiv a1 64)) = j_ := ⟨_, rfl⟩
  replace H : (if 0 ≤ (ji3) then (if (ji3) < (l0_1.length : Int) then (if 0 ≤ (IntKind.u64.wrap (Int.tmod a1 64)) then (some ((Go.bits .and .u64 (shr .u64 (rd l0_1 (ji3)) (IntKind.u64.wrap (Int.tmod a1 64))) 1) == 1)) else (none)) else (none)) else (none)) = some r := by first | (rw [hji3] at H; exact H) | (simp only [hji3] at H ⊢; exact H)
  have hji3w : (IntKind.i64.wrap (Int.tdiv a1 64)) = ji3 := (i64_w _).trans hji3
  by_cases c4 : 0 ≤ (ji3)
  · rw [if_pos c4] at H
    have c4b0 : decide (0 ≤ (ji3)) = true := decide_eq_true c4
    clear c4
    by_cases c5 : (ji3) < (l0_1.length : Int)
    · rw [if_pos c5] at H
      have c5b0 : decide ((ji3) < (l0_1.length : Int)) = true := decide_eq_true c5
      clear c5
      obtain ⟨ji6, hji6⟩ : ∃ j_ : Int, (IntKind.u64.wrap (Int.tmod a1 64)) = j_ := ⟨_, rfl⟩
      replace H : (if 0 ≤ (ji6) then (some ((Go.bits .and .u64 (shr .u64 (rd l0_1 (ji3)) (ji6)) 1) == 1)) else (none)) = some r := by first | (rw [hji6] at H; exact H) | (simp only [hji6] at H ⊢; exact H)
      by_cases c7 : 0 ≤ (ji6)
      · rw [if_pos c7] at H
        have c7b0 := eq_true c7
        have c7b1 : decide (0 ≤ (ji6)) = true := decide_eq_true c7
        clear c7
        obtain ⟨ji8, hji8⟩ : ∃ j_ : Int, (shr .u64 (rd l0_1 (ji3)) (ji6)) = j_ := ⟨_, rfl⟩
        replace H : (some ((Go.bits .and .u64 (ji8) 1) == 1)) = some r := by first | (rw [hji8] at H; exact H) | (simp only [hji8] at H ⊢; exact H)
        have hji8_ : ((rd l0_1 (ji3)) / 2 ^ min (ji6).toNat 64) = ji8 := hji8
        have hji8z : (ji6) ≤ 64 → ((rd l0_1 (ji3)) / 2 ^ (ji6).toNat) = ji8 := shr_small hji8
        obtain rfl := Option.some.inj H
        go_enter Tryd.func44, Tryd.ntmps44
        go_wp2_with (first | ((with_reducible refine gate_dst (N := 2) rfl ?_); refine box_event ?hg (N := 2) ?hd (cs := #[.int .i64 a0_0, .slice A0_1 l0_1.length c0_1]) (t := 24) ?hr ?_; (case hd => rfl); (case hg => rfl); (case hr => first | (go_simp; done) | (go_simp; rfl)); intro gb102 hg w9 hbox hb; have n0_ := Aside0.mk (below_step (by repeat (first | (with_reducible first | exact HB.out | apply below_alloc | apply pw_below_drewN | apply below_drew1) | exact HB.out)) hb); have n1_ := Aside0.mk (hbox); have n2_ := Aside0.mk ((by rw [hg]; exact (below_size (by repeat (first | (with_reducible first | exact HB.out | apply below_alloc | apply pw_below_drewN | apply below_drew1) | exact HB.out))) : w.heap.size ≤ gb102)); have n3_ := Aside0.mk ((by rw [hg]; exact (below_size (by repeat (first | (with_reducible first | exact HB.out | apply below_alloc | apply pw_below_drewN | apply below_drew1) | exact HB.out))) : w.heap.size ≤ gb102)); clear HB; have HB := n0_; have BK102 := n1_; have GW102 := n2_; have GE102 := n3_; clear n0_ n1_ n2_ n3_; clear hb hbox hg; have hcz10_0 : w9.cell? ⟨gb102, 0, none⟩ = some (.int .i64 a0_0) := (blk_cell BK102.out 0).trans rfl; have hcz10_1 : w9.cell? ⟨gb102, 1, none⟩ = some (.slice A0_1 l0_1.length c0_1) := (blk_cell BK102.out 1).trans rfl; have hfz10_0 := blk_frozen BK102.out 0; have hfz10_1 := blk_frozen BK102.out 1; have p103 : 0 ≤ ((ji3) : Int) := of_decide_eq_true (by first | (with_reducible assumption) | assumption); have q103 : (ji3) < (l0_1.length : Int) := of_decide_eq_true (by first | (with_reducible assumption) | assumption); obtain ⟨ad103, e103, hx103_0⟩ := Kd.at_int HR0_1.out (ji3) p103 q103; cases e103; replace hx103_0 := (HB.out.cell (World.block_lt_of_cell? w _ hx103_0)).trans hx103_0; replace p103 := eq_true p103; replace q103 := eq_true q103))
        go_ret
        exact ⟨by first | rfl | (simp [errW_none, errW_some] <;> rfl) | (simp only [← hji3, ← hji6, ← hji8]; first | rfl | (simp [errW_none, errW_some] <;> rfl)) | (simp [*, errW_none, errW_some] <;> rfl), by repeat (first | (with_reducible first | exact HB.out | apply below_alloc | apply pw_below_drewN | apply below_drew1 | refine below_set ?_ GE102.out) | exact HB.out)⟩
      · rw [if_neg c7] at H
        exact absurd H (by simp)
    · rw [if_neg c5] at H
      exact absurd H (by simp)
  · rw [if_neg c4] at H
    exact absurd H (by simp)
mutual
def r02Check.j0 : Nat → Bool → Int → List Int → Option (Int)
  | 0, _, _, _ => none
  | k + 1, x21, x105000, x105001 => if x21 = true then (some 3) else (r02Check.l0 k x105000 x105000 x105001)
def r02Check.l0 : Nat → Int → Int → List Int → Option (Int)
  | 0, _, _, _ => none
  | k + 1, x3, x105000, x105001 => if x3 < (wrap64 (64 * (x105001.length : Int))) then ((r02bit.f x105000 x105001 x3).bind fun t105 => (if t105 = true then (some 3) else (r02Check.l0 k (wrap64 (x3 + 1)) x105000 x105001))) else (some 0)
end
def r02Check.f (k : Nat) (a0_0 : Int) (l0_1 : List Int) : Option (Int) := if a0_0 < 0 then (r02Check.j0 k true a0_0 l0_1) else (if a0_0 > 4096 then (r02Check.j0 k true a0_0 l0_1) else (r02Check.j0 k ((l0_1.length : Int) != (wrap64 (Int.tdiv (wrap64 (a0_0 + 63)) 64))) a0_0 l0_1))
set_option maxHeartbeats 8000000 in
set_option maxRecDepth 100000 in
theorem r02Check.calls (k : Nat) (a0_0 : Int) (A0_1 : Option Addr) (c0_1 : Nat) (l0_1 : List Int) (r : Int) (w : World) (hr0_1 : Kd.C (Kd.int .u64) w A0_1 l0_1.length l0_1) (hc0_1 : l0_1.length ≤ c0_1) (h : r02Check.f k a0_0 l0_1 = some r) :
    Calls Tryd.prog 21 #[.agg #[.int .i64 a0_0, .slice A0_1 l0_1.length c0_1]] w fun e w' => e = .returned (.int .i64 r) ∧ Below w.heap.size w w' := by
  have hu24 := Tryd.underlying24
  have HR0_1 := Aside0.mk hr0_1
  have HC0_1 := Aside0.mk hc0_1
  clear hr0_1 hc0_1
  have HB := Aside0.mk (Below.refl w.heap.size w)
  have H : (if a0_0 < 0 then (r02Check.j0 k true a0_0 l0_1) else (if a0_0 > 4096 then (r02Check.j0 k true a0_0 l0_1) else (r02Check.j0 k ((l0_1.length : Int) != (wrap64 (Int.tdiv (wrap64 (a0_0 + 63)) 64))) a0_0 l0_1))) = some r := h
  clear h
  have HC2 := Aside0.mk H
  clear H
  go_enter Tryd.func21, Tryd.ntmps21
  go_upto_region 1 with (first | ((with_reducible refine gate_dst (N := 1) rfl ?_); (try (refine gate_guard (by rfl) ?_; dsimp only)); refine box_event ?hg (N := 1) ?hd (cs := #[.int .i64 a0_0, .slice A0_1 l0_1.length c0_1]) (t := 24) ?hr ?_; (case hd => rfl); (case hg => rfl); (case hr => first | (go_simp; done) | (go_simp; rfl)); intro gb104 hg w3 hbox hb; have n0_ := Aside0.mk (below_step (by repeat (first | (with_reducible first | exact HB.out | apply below_alloc | apply pw_below_drewN | apply below_drew1) | exact HB.out)) hb); have n1_ := Aside0.mk (hbox); have n2_ := Aside0.mk ((by rw [hg]; exact (below_size (by repeat (first | (with_reducible first | exact HB.out | apply below_alloc | apply pw_below_drewN | apply below_drew1) | exact HB.out))) : w.heap.size ≤ gb104)); have n3_ := Aside0.mk ((by rw [hg]; exact (below_size (by repeat (first | (with_reducible first | exact HB.out | apply below_alloc | apply pw_below_drewN | apply below_drew1) | exact HB.out))) : w.heap.size ≤ gb104)); clear HB; have HB := n0_; have BK104 := n1_; have GW104 := n2_; have GE104 := n3_; clear n0_ n1_ n2_ n3_; clear hb hbox hg))
  (try simp only [Act.put, List.setIfInBounds_toArray, List.set_cons_zero, List.set_cons_succ])
  go_cut [21] (fun v21 wc => ∃ (kq : Nat) (x21_1 : Bool), v21 = .bool x21_1 ∧ Aside0 (r02Check.j0 kq x21_1 a0_0 l0_1 = some r) ∧ Aside0 (kq ≤ k) ∧ Aside0 (wc.heap[gb104]? = some (.cells #[.int .i64 a0_0, (.slice A0_1 l0_1.length c0_1)] 24 (0, 0))) ∧ Aside0 (Below w.heap.size w wc))
  case first =>
    have H := HC2.out
    clear HC2
    by_cases c4 : a0_0 < 0
    · rw [if_pos c4] at H
      have c4b0 : decide (a0_0 < 0) = true := decide_eq_true c4
      clear c4
      (first | rw [c4b0] | (simp only [i64_w, i32_w]; rw [c4b0]) | skip)
      have H' := Aside0.mk H
      clear H
      have hcz5_0 : w3.cell? ⟨gb104, 0, none⟩ = some (.int .i64 a0_0) := (blk_cell BK104.out 0).trans rfl
      have hcz5_1 : w3.cell? ⟨gb104, 1, none⟩ = some (.slice A0_1 l0_1.length c0_1) := (blk_cell BK104.out 1).trans rfl
      have hfz5_0 := blk_frozen BK104.out 0
      have hfz5_1 := blk_frozen BK104.out 1
      go_wp2
      go_meet
      case rel => exact ⟨_, (true), (by first | rfl | (simp; done) | (simp [*]; done)), H', ⟨by first | omega | exact Nat.le_refl _⟩, ⟨by (with_reducible repeat (first | refine blk_drewN ?_ _ | refine blk_drew ?_ | refine blk_alloc ?_ _)); exact BK104.out⟩, ⟨by repeat (first | (with_reducible first | exact HB.out | apply below_alloc | apply pw_below_drewN | apply below_drew1 | refine below_set ?_ GE104.out) | exact HB.out)⟩⟩
    · rw [if_neg c4] at H
      have c4b0 : decide (a0_0 < 0) = false := decide_eq_false c4
      clear c4
      (first | rw [c4b0] | (simp only [i64_w, i32_w]; rw [c4b0]) | skip)
      by_cases c6 : a0_0 > 4096
      · rw [if_pos c6] at H
        have c6b0 : decide (4096 < a0_0) = true := decide_eq_true c6
        clear c6
        have H' := Aside0.mk H
        clear H
        have hcz7_0 : w3.cell? ⟨gb104, 0, none⟩ = some (.int .i64 a0_0) := (blk_cell BK104.out 0).trans rfl
        have hcz7_1 : w3.cell? ⟨gb104, 1, none⟩ = some (.slice A0_1 l0_1.length c0_1) := (blk_cell BK104.out 1).trans rfl
        have hfz7_0 := blk_frozen BK104.out 0
        have hfz7_1 := blk_frozen BK104.out 1
        go_wp2
        go_meet
        case rel => exact ⟨_, (true), (by first | rfl | (simp; done) | (simp [*]; done)), H', ⟨by first | omega | exact Nat.le_refl _⟩, ⟨by (with_reducible repeat (first | refine blk_drewN ?_ _ | refine blk_drew ?_ | refine blk_alloc ?_ _)); exact BK104.out⟩, ⟨by repeat (first | (with_reducible first | exact HB.out | apply below_alloc | apply pw_below_drewN | apply below_drew1 | refine below_set ?_ GE104.out) | exact HB.out)⟩⟩
      · rw [if_neg c6] at H
        have c6b0 : decide (4096 < a0_0) = false := decide_eq_false c6
        clear c6
        have H' := Aside0.mk H
        clear H
        have hcz8_0 : w3.cell? ⟨gb104, 0, none⟩ = some (.int .i64 a0_0) := (blk_cell BK104.out 0).trans rfl
        have hcz8_1 : w3.cell? ⟨gb104, 1, none⟩ = some (.slice A0_1 l0_1.length c0_1) := (blk_cell BK104.out 1).trans rfl
        have hfz8_0 := blk_frozen BK104.out 0
        have hfz8_1 := blk_frozen BK104.out 1
        go_wp2
        go_meet
        case rel => exact ⟨_, (((l0_1.length : Int) != (wrap64 (Int.tdiv (wrap64 (a0_0 + 63)) 64)))), (by first | rfl | (simp; done) | (simp [*]; done)), H', ⟨by first | omega | exact Nat.le_refl _⟩, ⟨by (with_reducible repeat (first | refine blk_drewN ?_ _ | refine blk_drew ?_ | refine blk_alloc ?_ _)); exact BK104.out⟩, ⟨by repeat (first | (with_reducible first | exact HB.out | apply below_alloc | apply pw_below_drewN | apply below_drew1 | refine below_set ?_ GE104.out) | exact HB.out)⟩⟩
  case rest =>
    clear HC2
    try clear c2
    try clear p2
    try clear c4
    try clear c4b0
    try clear c6
    try clear c6b0
    try clear p6
    try clear hcz5_0
    try clear hcz5_1
    try clear hcz7_0
    try clear hcz7_1
    try clear hcz8_0
    try clear hcz8_1
    try clear hfz5_0
    try clear hfz5_1
    try clear hfz7_0
    try clear hfz7_1
    try clear hfz8_0
    try clear hfz8_1
    obtain ⟨kq, x21_1, rfl, HA, HJ1, BK104, HB⟩ := hcut
    cases kq with
    | zero => exact absurd HA.out (by simp [r02Check.j0])
    | succ kj1 =>
      have H := HA.out
      clear HA
      simp only [r02Check.j0] at H
      by_cases c9 : x21_1 = true
      · subst c9
        have H1 : (some 3) = some r := by rw [if_pos rfl] at H; exact H
        clear H
        have H := H1
        clear H1
        obtain rfl := Option.some.inj H
        go_wp2
        go_ret
        exact ⟨by first | rfl | (simp [errW_none, errW_some] <;> rfl) | (simp [*, errW_none, errW_some] <;> rfl), by repeat (first | (with_reducible first | exact HB.out | apply below_alloc | apply pw_below_drewN | apply below_drew1 | refine below_set ?_ GE104.out) | exact HB.out)⟩
      · replace c9 := Bool.eq_false_iff.mpr c9
        subst c9
        have H1 : (r02Check.l0 kj1 a0_0 a0_0 l0_1) = some r := by rw [if_neg (show ¬ (false = true) by decide)] at H; exact H
        clear H
        have H := H1
        clear H1
        have H' := Aside0.mk H
        clear H
        have hcz10_0 : wc.cell? ⟨gb104, 0, none⟩ = some (.int .i64 a0_0) := (blk_cell BK104.out 0).trans rfl
        have hcz10_1 : wc.cell? ⟨gb104, 1, none⟩ = some (.slice A0_1 l0_1.length c0_1) := (blk_cell BK104.out 1).trans rfl
        have hfz10_0 := blk_frozen BK104.out 0
        have hfz10_1 := blk_frozen BK104.out 1
        go_wp2
        go_loopg [3] kj1 (fun kq v3 w' => ∃ (x3_2 : Int), v3 = .int .i64 x3_2 ∧ Aside0 (r02Check.l0 kq x3_2 a0_0 l0_1 = some r) ∧ Aside0 (kq ≤ kj1) ∧ Aside0 (w'.heap[gb104]? = some (.cells #[.int .i64 a0_0, (.slice A0_1 l0_1.length c0_1)] 24 (0, 0))) ∧ Aside0 (Below w.heap.size w w'))
        case atStart => exact ⟨(a0_0), (by first | rfl | (simp; done) | (simp [*]; done)), H', ⟨Nat.le_refl _⟩, ⟨by (with_reducible repeat (first | refine blk_drewN ?_ _ | refine blk_drew ?_ | refine blk_alloc ?_ _)); exact BK104.out⟩, ⟨by repeat (first | (with_reducible first | exact HB.out | apply below_alloc | apply pw_below_drewN | apply below_drew1 | refine below_set ?_ GE104.out) | exact HB.out)⟩⟩
        case round =>
          clear H'
          try clear c2
          try clear p2
          try clear c4
          try clear c4b0
          try clear c6
          try clear c6b0
          try clear p6
          try clear c9
          try clear hcz10_0
          try clear hcz10_1
          try clear hcz5_0
          try clear hcz5_1
          try clear hcz7_0
          try clear hcz7_1
          try clear hcz8_0
          try clear hcz8_1
          try clear hfz10_0
          try clear hfz10_1
          try clear hfz5_0
          try clear hfz5_1
          try clear hfz7_0
          try clear hfz7_1
          try clear hfz8_0
          try clear hfz8_1
          try clear p2
          try clear p6
          obtain ⟨x3_2, rfl, HA, HK2, BK104, HB⟩ := hrel
          cases gk with
          | zero => exact absurd HA.out (by simp [r02Check.l0])
          | succ k2 =>
            have H := HA.out
            clear HA
            simp only [r02Check.l0] at H
            by_cases c11 : x3_2 < (wrap64 (64 * (l0_1.length : Int)))
            · rw [if_pos c11] at H
              have c11b0 : decide (x3_2 < (wrap64 (64 * (l0_1.length : Int)))) = true := decide_eq_true c11
              clear c11
              replace H := Option.bind_eq_some_iff.mp H
              obtain ⟨t105, A120, H⟩ := H
              replace H : (if t105 = true then (some 3) else (r02Check.l0 k2 (wrap64 (x3_2 + 1)) a0_0 l0_1)) = some r := H
              have A12 := Aside0.mk A120
              clear A120
              by_cases c13 : t105 = true
              · subst c13
                have H1 : (some 3) = some r := by rw [if_pos rfl] at H; exact H
                clear H
                have H := H1
                clear H1
                obtain rfl := Option.some.inj H
                have hcz14_0 : wr.cell? ⟨gb104, 0, none⟩ = some (.int .i64 a0_0) := (blk_cell BK104.out 0).trans rfl
                have hcz14_1 : wr.cell? ⟨gb104, 1, none⟩ = some (.slice A0_1 l0_1.length c0_1) := (blk_cell BK104.out 1).trans rfl
                have hfz14_0 := blk_frozen BK104.out 0
                have hfz14_1 := blk_frozen BK104.out 1
                go_wp2_with (first | ((with_reducible refine gate_callee (f := 44) rfl ?_); refine goesL_ (some 34) rfl rfl Tryd.func44 (by kernel_rfl) rfl #[.agg #[.int .i64 a0_0, .slice A0_1 l0_1.length c0_1], .int .i64 x3_2] rfl (by (try simp only [List.map_toArray, List.map_cons, List.map_nil]); first | done | rfl | (simp only [List.length_drop, List.length_take]; rfl)) ?_; (with_reducible refine (r02bit.calls a0_0 _ _ l0_1 x3_2 true _ ?side1 ?side2 A12.out).mono ?_); (case side1 => repeat (first | exact (Kd.C_below HR0_1.out HB.out) | (with_reducible refine Kd.C_alloc ?_ _) | (with_reducible refine Kd.C_drewN ?_ _) | (with_reducible refine Kd.C_drew ?_))); (case side2 => exact HC0_1.out); rintro e w15 ⟨rfl, hb⟩; refine ⟨_, rfl, ?_⟩; have n0_ := Aside0.mk (blk_below (g := gb104) (o := .cells #[.int .i64 a0_0, .slice A0_1 l0_1.length c0_1] 24 (0, 0)) (by (with_reducible repeat (first | refine blk_drewN ?_ _ | refine blk_drew ?_ | refine blk_alloc ?_ _)); exact BK104.out) hb); have n1_ := Aside0.mk (below_step (by repeat (first | (with_reducible first | exact HB.out | apply below_alloc | apply pw_below_drewN | apply below_drew1 | refine below_set ?_ GE104.out) | exact HB.out)) hb); clear BK104; clear HB; have BK104 := n0_; have HB := n1_; clear n0_ n1_; (try clear hb); (try clear hb2); (try clear hk); (try clear hi)))
                go_ret
                exact ⟨by first | rfl | (simp [errW_none, errW_some] <;> rfl) | (simp [*, errW_none, errW_some] <;> rfl), by repeat (first | (with_reducible first | exact HB.out | apply below_alloc | apply pw_below_drewN | apply below_drew1 | refine below_set ?_ GE104.out) | exact HB.out)⟩
              · replace c13 := Bool.eq_false_iff.mpr c13
                subst c13
                have H1 : (r02Check.l0 k2 (wrap64 (x3_2 + 1)) a0_0 l0_1) = some r := by rw [if_neg (show ¬ (false = true) by decide)] at H; exact H
                clear H
                have H := H1
                clear H1
                have H' := Aside0.mk H
                clear H
                have hcz16_0 : wr.cell? ⟨gb104, 0, none⟩ = some (.int .i64 a0_0) := (blk_cell BK104.out 0).trans rfl
                have hcz16_1 : wr.cell? ⟨gb104, 1, none⟩ = some (.slice A0_1 l0_1.length c0_1) := (blk_cell BK104.out 1).trans rfl
                have hfz16_0 := blk_frozen BK104.out 0
                have hfz16_1 := blk_frozen BK104.out 1
                go_wp2_with (first | ((with_reducible refine gate_callee (f := 44) rfl ?_); refine goesL_ (some 34) rfl rfl Tryd.func44 (by kernel_rfl) rfl #[.agg #[.int .i64 a0_0, .slice A0_1 l0_1.length c0_1], .int .i64 x3_2] rfl (by (try simp only [List.map_toArray, List.map_cons, List.map_nil]); first | done | rfl | (simp only [List.length_drop, List.length_take]; rfl)) ?_; (with_reducible refine (r02bit.calls a0_0 _ _ l0_1 x3_2 false _ ?side1 ?side2 A12.out).mono ?_); (case side1 => repeat (first | exact (Kd.C_below HR0_1.out HB.out) | (with_reducible refine Kd.C_alloc ?_ _) | (with_reducible refine Kd.C_drewN ?_ _) | (with_reducible refine Kd.C_drew ?_))); (case side2 => exact HC0_1.out); rintro e w17 ⟨rfl, hb⟩; refine ⟨_, rfl, ?_⟩; have n0_ := Aside0.mk (blk_below (g := gb104) (o := .cells #[.int .i64 a0_0, .slice A0_1 l0_1.length c0_1] 24 (0, 0)) (by (with_reducible repeat (first | refine blk_drewN ?_ _ | refine blk_drew ?_ | refine blk_alloc ?_ _)); exact BK104.out) hb); have n1_ := Aside0.mk (below_step (by repeat (first | (with_reducible first | exact HB.out | apply below_alloc | apply pw_below_drewN | apply below_drew1 | refine below_set ?_ GE104.out) | exact HB.out)) hb); clear BK104; clear HB; have BK104 := n0_; have HB := n1_; clear n0_ n1_; (try clear hb); (try clear hb2); (try clear hk); (try clear hi)))
                go_roundg k2
                case measure => have := HJ1.out; have := HK2.out; omega
                case rel => exact ⟨(wrap64 (x3_2 + 1)), (by first | rfl | (simp; done) | (simp [*]; done)), H', ⟨by have := HJ1.out; have := HK2.out; omega⟩, ⟨by (with_reducible repeat (first | refine blk_drewN ?_ _ | refine blk_drew ?_ | refine blk_alloc ?_ _)); exact BK104.out⟩, ⟨by repeat (first | (with_reducible first | exact HB.out | apply below_alloc | apply pw_below_drewN | apply below_drew1 | refine below_set ?_ GE104.out) | exact HB.out)⟩⟩
            · rw [if_neg c11] at H
              have c11b0 : decide (x3_2 < (wrap64 (64 * (l0_1.length : Int)))) = false := decide_eq_false c11
              clear c11
              obtain rfl := Option.some.inj H
              have hcz18_0 : wr.cell? ⟨gb104, 0, none⟩ = some (.int .i64 a0_0) := (blk_cell BK104.out 0).trans rfl
              have hcz18_1 : wr.cell? ⟨gb104, 1, none⟩ = some (.slice A0_1 l0_1.length c0_1) := (blk_cell BK104.out 1).trans rfl
              have hfz18_0 := blk_frozen BK104.out 0
              have hfz18_1 := blk_frozen BK104.out 1
              go_wp2
              go_ret
              exact ⟨by first | rfl | (simp [errW_none, errW_some] <;> rfl) | (simp [*, errW_none, errW_some] <;> rfl), by repeat (first | (with_reducible first | exact HB.out | apply below_alloc | apply pw_below_drewN | apply below_drew1 | refine below_set ?_ GE104.out) | exact HB.out)⟩
def r02Copy.f (a0_0 : Int) (l0_1 : List Int) : Option (Int × List Int) := (some (([] : List Int) : List Int)).bind fun y108 => (if y108.length + l0_1.length < 17592186044416 then (some (a0_0, (y108 ++ l0_1))) else (none))
def r02Copy.T1 : Bool × List (List Nat × List Nat) := (true, [([], []), ([0], [0]), ([], []), ([], []), ([3], [3]), ([2, 4], [2, 4]), ([1, 5], [1, 5]), ([6, 5, 0, 1, 2, 3, 4, 5, 6], [6])])
def r02Copy.B1 : List Nat := [0, 1, 0, 0, 8, 28, 63, 127]
theorem r02Copy.tab1 : rtab .any (opsOf Tryd.f50 1) = r02Copy.T1 := by kernel_rfl
theorem r02Copy.bits1 : waitsOk r02Copy.T1.2 r02Copy.B1 = true := by kernel_rfl
set_option maxHeartbeats 8000000 in
set_option maxRecDepth 100000 in
theorem r02Copy.calls (a0_0 : Int) (A0_1 : Option Addr) (c0_1 : Nat) (l0_1 : List Int) (r1 : Int) (r2 : List Int) (w : World) (hr0_1 : Kd.C (Kd.int .u64) w A0_1 l0_1.length l0_1) (hc0_1 : l0_1.length ≤ c0_1) (h : r02Copy.f a0_0 l0_1 = some (r1, r2)) :
    Calls Tryd.prog 50 #[.agg #[.int .i64 a0_0, .slice A0_1 l0_1.length c0_1]] w fun e w' => ∃ v1_ : Value, e = .returned (.agg #[.int .i64 r1, v1_]) ∧ Kd.R (Kd.int .u64) 55 w' w.heap.size (fun _ => True) v1_ r2 ∧ Below w.heap.size w w' := by
  have hu24 := Tryd.underlying24
  have HR0_1 := Aside0.mk hr0_1
  have HC0_1 := Aside0.mk hc0_1
  clear hr0_1 hc0_1
  have HB := Aside0.mk (Below.refl w.heap.size w)
  have H : ((some (([] : List Int) : List Int)).bind fun y108 => (if y108.length + l0_1.length < 17592186044416 then (some (a0_0, (y108 ++ l0_1))) else (none))) = some (r1, r2) := h
  clear h
  obtain ⟨y108, hy108⟩ : ∃ y_ : List Int, y_ = (([] : List Int)) := ⟨_, rfl⟩
  replace H : (if y108.length + l0_1.length < 17592186044416 then (some (a0_0, (y108 ++ l0_1))) else (none)) = some (r1, r2) := by first | (rw [hy108]; with_reducible exact H) | (have H2_ := (Option.bind_some _ _).symm.trans H; rw [hy108]; with_reducible exact H2_) | (have H2_ := (Option.bind_some _ _).symm.trans H; with_reducible exact H2_) | with_reducible exact H | (rw [hy108]; exact H) | exact H
  have Ny108 := Aside0.mk hy108
  clear hy108
  by_cases c2 : y108.length + l0_1.length < 17592186044416
  · rw [if_pos c2] at H
    have LMc2 := Aside0.mk c2
    clear c2
    obtain ⟨y111, hy111⟩ : ∃ y_ : List Int, y_ = (y108 ++ l0_1) := ⟨_, rfl⟩
    replace H : (some (a0_0, y111)) = some (r1, r2) := by first | (rw [hy111]; with_reducible exact H) | (have H2_ := (Option.bind_some _ _).symm.trans H; rw [hy111]; with_reducible exact H2_) | (have H2_ := (Option.bind_some _ _).symm.trans H; with_reducible exact H2_) | with_reducible exact H | (rw [hy111]; exact H) | exact H
    have Ny111 := Aside0.mk hy111
    clear hy111
    simp only [Option.some.injEq, Prod.mk.injEq] at H
    obtain ⟨rfl, rfl⟩ := H
    go_enter Tryd.func50, Tryd.ntmps50
    try go_wp2_with (first | ((with_reducible refine gate_dst (N := 1) rfl ?_); refine box_event ?hg (N := 1) ?hd (cs := #[.int .i64 a0_0, .slice A0_1 l0_1.length c0_1]) (t := 24) ?hr ?_; (case hd => rfl); (case hg => rfl); (case hr => first | (go_simp; done) | (go_simp; rfl)); intro gb106 hg w3 hbox hb; have n0_ := Aside0.mk (below_step (by repeat (first | (with_reducible first | exact HB.out | apply below_alloc | apply pw_below_drewN | apply below_drew1) | exact HB.out)) hb); have n1_ := Aside0.mk (hbox); have n2_ := Aside0.mk ((by rw [hg]; exact (below_size (by repeat (first | (with_reducible first | exact HB.out | apply below_alloc | apply pw_below_drewN | apply below_drew1) | exact HB.out))) : w.heap.size ≤ gb106)); have n3_ := Aside0.mk ((by rw [hg]; exact (below_size (by repeat (first | (with_reducible first | exact HB.out | apply below_alloc | apply pw_below_drewN | apply below_drew1) | exact HB.out))) : w.heap.size ≤ gb106)); clear HB; have HB := n0_; have BK106 := n1_; have GW106 := n2_; have GE106 := n3_; clear n0_ n1_ n2_ n3_; clear hb hbox hg) | ((with_reducible refine gate_dst (N := 2) rfl ?_); refine box_event ?hg (N := 2) ?hd (cs := #[.int .i64 0, .slice none 0 0]) (t := 24) ?hr ?_; (case hd => rfl); (case hg => rfl); (case hr => first | (go_simp; done) | (go_simp; rfl)); intro gb107 hg w4 hbox hb; have n0_ := Aside0.mk (blk_below (g := gb106) (o := .cells #[.int .i64 a0_0, .slice A0_1 l0_1.length c0_1] 24 (0, 0)) (by (with_reducible repeat (first | refine blk_drewN ?_ _ | refine blk_drew ?_ | refine blk_alloc ?_ _)); exact BK106.out) hb); have n1_ := Aside0.mk (below_step (by repeat (first | (with_reducible first | exact HB.out | apply below_alloc | apply pw_below_drewN | apply below_drew1 | refine below_set ?_ GE106.out) | exact HB.out)) hb); have n2_ := Aside0.mk (hbox); have n3_ := Aside0.mk ((by rw [hg]; exact (below_size (by repeat (first | (with_reducible first | exact HB.out | apply below_alloc | apply pw_below_drewN | apply below_drew1 | refine below_set ?_ GE106.out) | exact HB.out))) : w.heap.size ≤ gb107)); have n4_ := Aside0.mk ((by rw [hg]; exact (below_size (by repeat (first | (with_reducible first | exact HB.out | apply below_alloc | apply pw_below_drewN | apply below_drew1 | refine below_set ?_ GE106.out) | exact HB.out))) : w.heap.size ≤ gb107)); have n5_ := Aside0.mk ((by rw [hg]; exact Nat.ne_of_lt (blk_lt (g := gb106) (o := .cells #[.int .i64 a0_0, .slice A0_1 l0_1.length c0_1] 24 (0, 0)) (by (with_reducible repeat (first | refine blk_drewN ?_ _ | refine blk_drew ?_ | refine blk_alloc ?_ _)); exact BK106.out)) : gb106 ≠ gb107)); have n6_ := Aside0.mk ((by rw [hg]; exact Nat.ne_of_gt (blk_lt (g := gb106) (o := .cells #[.int .i64 a0_0, .slice A0_1 l0_1.length c0_1] 24 (0, 0)) (by (with_reducible repeat (first | refine blk_drewN ?_ _ | refine blk_drew ?_ | refine blk_alloc ?_ _)); exact BK106.out)) : gb107 ≠ gb106)); clear BK106; clear HB; have BK106 := n0_; have HB := n1_; have BK107 := n2_; have GW107 := n3_; have GE107 := n4_; have NB106_107 := n5_; have NB107_106 := n6_; clear n0_ n1_ n2_ n3_ n4_ n5_ n6_; clear hb hbox hg))
    have n0_ := Aside0.mk (blk_drew BK106.out)
    have n1_ := Aside0.mk (blk_drew BK107.out)
    have n2_ := Aside0.mk (below_drew1 HB.out)
    clear BK106
    clear BK107
    clear HB
    have BK106 := n0_
    have BK107 := n1_
    have HB := n2_
    clear n0_ n1_ n2_
    refine start_ (n := 8) (S := fun w' => w'.cell? ⟨gb106, 0, none⟩ = some (.int .i64 a0_0) ∧ w'.cell? ⟨gb106, 1, none⟩ = some (.slice A0_1 l0_1.length c0_1)) (ds := []) #[false, false, false, false, false, false, false, false] (by kernel_rfl) rfl rfl ⟨(blk_cell BK106.out 0).trans rfl, (blk_cell BK106.out 1).trans rfl⟩ (fun hHeld => ?_); refine with_tabW r02Copy.tab1 r02Copy.bits1 (fun HT_ HW_ => ?_)
    generalize w4.drew = w5 at BK106 BK107 HB hHeld ⊢
    refine pure_ (i := 0) (N := some 3) (v := ?_) (a' := ?_) #[true, false, false, false, false, false, false, false] rfl rfl (any_of HT_.out (by kernel_rfl)) (fun _ _ _ h => h) (Or.inl ⟨by rfl, ?_⟩) ?_ ?_
    rotate_left
    · intro w'
      go_simp
      with_reducible rfl
    rotate_left
    · simp only [Act.put, List.setIfInBounds_toArray, List.set_cons_zero, List.set_cons_succ, i64_w, i32_w]
      rfl
    refine pure_ (i := 3) (N := some 6) (v := ?_) (a' := ?_) #[true, false, false, true, false, false, false, false] rfl rfl (any_of HT_.out (by kernel_rfl)) (fun _ _ _ h => h) (Or.inl ⟨by rfl, ?_⟩) ?_ ?_
    rotate_left
    · intro w'
      go_simp
      with_reducible rfl
    rotate_left
    · simp only [Act.put, List.setIfInBounds_toArray, List.set_cons_zero, List.set_cons_succ, i64_w, i32_w]
      rfl
    refine take_ (i := 1) (N := some 4) (v := ?_) (a' := ?_) #[true, true, false, true, false, false, false, false] rfl rfl (take_ofW HT_.out HW_.out (by kernel_rfl)) (fun _ _ _ h => h) (Or.inl ⟨by rfl, ?_⟩) hHeld ?_ ?_
    rotate_left
    · rintro w' ⟨s0, s1⟩
      go_simp
      with_reducible rfl
    rotate_left
    · simp only [Act.put, List.setIfInBounds_toArray, List.set_cons_zero, List.set_cons_succ, i64_w, i32_w]
      rfl
    refine take_ (i := 4) (N := some 7) (v := ?_) (a' := ?_) #[true, true, false, true, true, false, false, false] rfl rfl (take_ofW HT_.out HW_.out (by kernel_rfl)) (fun _ _ _ h => h) (Or.inl ⟨by rfl, ?_⟩) hHeld ?_ ?_
    rotate_left
    · rintro w' ⟨s0, s1⟩
      go_simp
      with_reducible rfl
    rotate_left
    · simp only [Act.put, List.setIfInBounds_toArray, List.set_cons_zero, List.set_cons_succ, i64_w, i32_w]
      rfl
    refine one_ (i := 2) (N := some 5) #[true, true, true, true, true, false, false, false] rfl rfl (one_of HT_.out (by kernel_rfl)) (by decide) (fun K hK => ?_)
    refine Kd.R_lit_step (Kd.int .u64) _ 55 ?hg (N := 5) ?hd (xs := ([] : List Int)) (inner := []) (ok := fun _ => True) (okp := fun _ => True) ?hr ?hp (fun _ hk => hk) trivial (Below.refl _ _) (Nat.le_refl _) (by simp) ?_; (case hd => rfl); (case hg => rfl); (case hr => first | (go_simp; done) | (go_simp; rfl)); (case hp => exact (Reps.none _ _))
    intro v109 w6 ho7 hb hg_ hnew_
    clear hg_ hnew_
    (first | rw [← Ny108.out] at ho7 | (simp only [Int.reduceToNat] at ho7; rw [← Ny108.out] at ho7))
    have n0_ := Aside0.mk (Kd.R_lower ho7 (below_size (by repeat (first | (with_reducible first | exact HB.out | apply below_alloc | apply pw_below_drewN | apply below_drew1 | refine below_set ?_ GE106.out | refine below_set ?_ GE107.out) | exact HB.out))))
    have n1_ := Aside0.mk (blk_below (g := gb106) (o := .cells #[.int .i64 a0_0, .slice A0_1 l0_1.length c0_1] 24 (0, 0)) (by (with_reducible repeat (first | refine blk_drewN ?_ _ | refine blk_drew ?_ | refine blk_alloc ?_ _)); exact BK106.out) hb)
    have n2_ := Aside0.mk (blk_below (g := gb107) (o := .cells #[.int .i64 0, .slice none 0 0] 24 (0, 0)) (by (with_reducible repeat (first | refine blk_drewN ?_ _ | refine blk_drew ?_ | refine blk_alloc ?_ _)); exact BK107.out) hb)
    have n3_ := Aside0.mk (below_step (by repeat (first | (with_reducible first | exact HB.out | apply below_alloc | apply pw_below_drewN | apply below_drew1 | refine below_set ?_ GE106.out | refine below_set ?_ GE107.out) | exact HB.out)) hb)
    clear BK106
    clear BK107
    clear HB
    have HO110 := n0_
    have BK106 := n1_
    have BK107 := n2_
    have HB := n3_
    clear n0_ n1_ n2_ n3_
    clear hb ho7
    refine hK.out _ _ ⟨(blk_cell BK106.out 0).trans rfl, (blk_cell BK106.out 1).trans rfl⟩ (fun hHeld => ?_)
    clear hK K
    refine norm_ (a' := ?_) ?_ ?_
    rotate_left
    · show Act.put _ (some 5) _ = _
      simp only [Act.put, List.setIfInBounds_toArray, List.set_cons_zero, List.set_cons_succ, i64_w, i32_w]
      rfl
    refine one_ (i := 5) (N := some 8) #[true, true, true, true, true, true, false, false] rfl rfl (one_of HT_.out (by kernel_rfl)) (by decide) (fun K hK => ?_)
    refine Kd.R_append_rows_step (Kd.int .u64) (w0 := w) w.heap.size (by rfl) (.tmp 5) (.tmp 7) 22 55 (.int .u64 0) 8 rfl Tryd.underlying22 info55 rfl (by decide) (by omega) v109 y108 l0_1 _ _ _ (fun _ => True) (fun _ => False) rfl rfl ?aO ?aR (fun _ _ h => h) (fun _ h => h.elim) ?aF ?aB ?aS ?aL ?_
    (case aR => repeat (first | exact (Kd.C_below HR0_1.out HB.out) | (with_reducible refine Kd.C_alloc ?_ _) | (with_reducible refine Kd.C_drewN ?_ _) | (with_reducible refine Kd.C_drew ?_)))
    (case aB => exact (by repeat (first | (with_reducible first | exact HB.out | apply below_alloc | apply pw_below_drewN | apply below_drew1 | refine below_set ?_ GE106.out | refine below_set ?_ GE107.out) | exact HB.out)))
    (case aF => exact (fun _ _ => trivial))
    (case aO => exact (by (with_reducible repeat (first | apply Kd.R_alloc | apply Kd.R_drewN | apply Kd.R_drew)); exact HO110.out))
    (case aS => exact (below_size (by repeat (first | (with_reducible first | exact HB.out | apply below_alloc | apply pw_below_drewN | apply below_drew1 | refine below_set ?_ GE106.out | refine below_set ?_ GE107.out) | exact HB.out))))
    (case aL => have := LMc2.out; omega)
    intro v112 w8 ho hb hg hat
    rw [← Ny111.out] at ho
    have n0_ := Aside0.mk (blk_grown (g := gb106) (o := .cells #[.int .i64 a0_0, .slice A0_1 l0_1.length c0_1] 24 (0, 0)) (by (with_reducible repeat (first | refine blk_drewN ?_ _ | refine blk_drew ?_ | refine blk_alloc ?_ _)); exact BK106.out) hg (Kd.R_ne HO110.out BK106.out (by decide)))
    have n1_ := Aside0.mk (blk_grown (g := gb107) (o := .cells #[.int .i64 0, .slice none 0 0] 24 (0, 0)) (by (with_reducible repeat (first | refine blk_drewN ?_ _ | refine blk_drew ?_ | refine blk_alloc ?_ _)); exact BK107.out) hg (Kd.R_ne HO110.out BK107.out (by decide)))
    have n2_ := Aside0.mk (hb)
    have n3_ := Aside0.mk (ho)
    clear BK106
    clear BK107
    clear HB
    clear HO110
    have BK106 := n0_
    have BK107 := n1_
    have HB := n2_
    have HO113 := n3_
    clear n0_ n1_ n2_ n3_
    clear ho hb hg hat
    obtain ⟨Ao9, co9, eo9⟩ := Kd.R_slice HO113.out
    (first | subst eo9 | (injection eo9 with f1_ f2_ f3_; have f4_ := f1_.symm; have f5_ := f3_.symm; clear f1_ f2_ f3_; subst f4_; subst f5_))
    refine hK.out _ _ ⟨(blk_cell BK106.out 0).trans rfl, (blk_cell BK106.out 1).trans rfl⟩ (fun hHeld => ?_)
    clear hK K
    refine norm_ (a' := ?_) ?_ ?_
    rotate_left
    · show Act.put _ (some 8) _ = _
      simp only [Act.put, List.setIfInBounds_toArray, List.set_cons_zero, List.set_cons_succ, i64_w, i32_w]
      rfl
    refine pure_ (i := 6) (N := some 9) (v := ?_) (a' := ?_) #[true, true, true, true, true, true, true, false] rfl rfl (any_of HT_.out (by kernel_rfl)) (fun _ _ _ h => h) (Or.inl ⟨by rfl, ?_⟩) ?_ ?_
    rotate_left
    · intro w'
      go_simp
      with_reducible rfl
    rotate_left
    · simp only [Act.put, List.setIfInBounds_toArray, List.set_cons_zero, List.set_cons_succ, i64_w, i32_w]
      rfl
    refine one_ (i := 7) (N := none) #[true, true, true, true, true, true, true, true] rfl rfl (one_of HT_.out (by kernel_rfl)) (by decide) (fun K hK => ?_)
    have hs10 : w8.cell? ⟨gb107, 0, none⟩ = some (.int .i64 0) := (blk_cell BK107.out 0).trans rfl
    have hfs10 := blk_frozen BK107.out 0
    have hns10_0 := NB106_107.out
    have hms10_0 := NB107_106.out
    have hs11 : w8.cell? ⟨gb107, 1, none⟩ = some (.slice none 0 0) := (blk_cell BK107.out 1).trans rfl
    have hfs11 := blk_frozen BK107.out 1
    have hns11_0 := NB106_107.out
    have hms11_0 := NB107_106.out
    refine skip_ (w1 := ?_) (by rfl) rfl ?_ ?_
    rotate_left
    · go_simp
      rfl
    refine hK.out _ _ ⟨((cell_far (p := ⟨gb107, _, none⟩) NB106_107.out _).trans (((cell_far (p := ⟨gb107, _, none⟩) NB106_107.out _).trans (hHeld.1)))), ((cell_far (p := ⟨gb107, _, none⟩) NB106_107.out _).trans (((cell_far (p := ⟨gb107, _, none⟩) NB106_107.out _).trans (hHeld.2))))⟩ (fun hHeld => ?_)
    clear hK K
    refine done_ (done_of HT_.out (by kernel_rfl)) ?_
    try go_wp2
    refine bodyPost_ret (results_cell_row rfl _ _ gb107 24 #[.int .i64 a0_0, .slice Ao9 y111.length co9] (0, 0) _ rfl (by (with_reducible repeat (first | refine blk_drewN ?_ _ | refine blk_drew ?_ | refine blk_alloc ?_ _)); refine blk_put (cs := #[.int .i64 a0_0, .slice none 0 0]) ?_ 1 _ rfl; (with_reducible repeat (first | refine blk_drewN ?_ _ | refine blk_drew ?_ | refine blk_alloc ?_ _)); refine blk_put (cs := #[.int .i64 0, .slice none 0 0]) ?_ 0 _ rfl; (with_reducible repeat (first | refine blk_drewN ?_ _ | refine blk_drew ?_ | refine blk_alloc ?_ _)); exact BK107.out) Tryd.underlying24 rfl (by kernel_rfl)) rfl ?_
    exact ⟨_, by first | rfl | (simp [errW_none, errW_some] <;> rfl) | (simp [*, errW_none, errW_some] <;> rfl), by (with_reducible repeat (first | apply Kd.R_alloc | apply Kd.R_drewN | apply Kd.R_drew)); exact Kd.R_mono (Kd.R_far (p := ⟨gb107, 1, none⟩) (Kd.R_far (p := ⟨gb107, 0, none⟩) (Kd.R_types HO113.out BK107.out (by decide)) (fun _ hk => hk.2) (.int .i64 a0_0)) (fun _ hk => hk.2) (.slice Ao9 y111.length co9)) (fun _ hk => trivial), by repeat (first | (with_reducible first | exact HB.out | apply below_alloc | apply pw_below_drewN | apply below_drew1 | refine below_set ?_ GE106.out | refine below_set ?_ GE107.out) | exact HB.out)⟩
  · rw [if_neg c2] at H
    exact absurd H (by simp)
def r02Fits.f (a0_0 : Int) (a0_1 : Int) (a1 : Int) : Option (Bool) := if a0_0 ≥ 0 then (if a0_1 ≥ 0 then (if a0_0 ≤ a1 then (some (decide (a0_1 ≤ (wrap64 (a1 - a0_0))))) else (some false)) else (some false)) else (some false)
set_option maxHeartbeats 8000000 in
set_option maxRecDepth 100000 in
theorem r02Fits.calls (a0_0 : Int) (a0_1 : Int) (a1 : Int) (r : Bool) (w : World) (h : r02Fits.f a0_0 a0_1 a1 = some r) :
    Calls Tryd.prog 56 #[.agg #[.int .i64 a0_0, .int .i64 a0_1], .int .i64 a1] w fun e w' => e = .returned (.bool r) ∧ Below w.heap.size w w' := by
  have hu26 := Tryd.underlying26
  have HB := Aside0.mk (Below.refl w.heap.size w)
  have H : (if a0_0 ≥ 0 then (if a0_1 ≥ 0 then (if a0_0 ≤ a1 then (some (decide (a0_1 ≤ (wrap64 (a1 - a0_0))))) else (some false)) else (some false)) else (some false)) = some r := h
  clear h
  by_cases c3 : a0_0 ≥ 0
  · rw [if_pos c3] at H
    have c3b0 : decide (0 ≤ a0_0) = true := decide_eq_true c3
    clear c3
    by_cases c4 : a0_1 ≥ 0
    · rw [if_pos c4] at H
      have c4b0 : decide (0 ≤ a0_1) = true := decide_eq_true c4
      clear c4
      by_cases c5 : a0_0 ≤ a1
      · rw [if_pos c5] at H
        have c5b0 : decide (a0_0 ≤ a1) = true := decide_eq_true c5
        clear c5
        obtain rfl := Option.some.inj H
        go_enter Tryd.func56, Tryd.ntmps56
        go_wp2_with (first | ((with_reducible refine gate_dst (N := 2) rfl ?_); refine box_event ?hg (N := 2) ?hd (cs := #[.int .i64 a0_0, .int .i64 a0_1]) (t := 26) ?hr ?_; (case hd => rfl); (case hg => rfl); (case hr => first | (go_simp; done) | (go_simp; rfl)); intro gb114 hg w6 hbox hb; have n0_ := Aside0.mk (below_step (by repeat (first | (with_reducible first | exact HB.out | apply below_alloc | apply pw_below_drewN | apply below_drew1) | exact HB.out)) hb); have n1_ := Aside0.mk (hbox); have n2_ := Aside0.mk ((by rw [hg]; exact (below_size (by repeat (first | (with_reducible first | exact HB.out | apply below_alloc | apply pw_below_drewN | apply below_drew1) | exact HB.out))) : w.heap.size ≤ gb114)); have n3_ := Aside0.mk ((by rw [hg]; exact (below_size (by repeat (first | (with_reducible first | exact HB.out | apply below_alloc | apply pw_below_drewN | apply below_drew1) | exact HB.out))) : w.heap.size ≤ gb114)); clear HB; have HB := n0_; have BK114 := n1_; have GW114 := n2_; have GE114 := n3_; clear n0_ n1_ n2_ n3_; clear hb hbox hg; have hcz7_0 : w6.cell? ⟨gb114, 0, none⟩ = some (.int .i64 a0_0) := (blk_cell BK114.out 0).trans rfl; have hcz7_1 : w6.cell? ⟨gb114, 1, none⟩ = some (.int .i64 a0_1) := (blk_cell BK114.out 1).trans rfl; have hfz7_0 := blk_frozen BK114.out 0; have hfz7_1 := blk_frozen BK114.out 1))
        go_ret
        exact ⟨by first | rfl | (simp [errW_none, errW_some] <;> rfl) | (simp [*, errW_none, errW_some] <;> rfl), by repeat (first | (with_reducible first | exact HB.out | apply below_alloc | apply pw_below_drewN | apply below_drew1 | refine below_set ?_ GE114.out) | exact HB.out)⟩
      · rw [if_neg c5] at H
        have c5b0 : decide (a0_0 ≤ a1) = false := decide_eq_false c5
        clear c5
        obtain rfl := Option.some.inj H
        go_enter Tryd.func56, Tryd.ntmps56
        go_wp2_with (first | ((with_reducible refine gate_dst (N := 2) rfl ?_); refine box_event ?hg (N := 2) ?hd (cs := #[.int .i64 a0_0, .int .i64 a0_1]) (t := 26) ?hr ?_; (case hd => rfl); (case hg => rfl); (case hr => first | (go_simp; done) | (go_simp; rfl)); intro gb114 hg w8 hbox hb; have n0_ := Aside0.mk (below_step (by repeat (first | (with_reducible first | exact HB.out | apply below_alloc | apply pw_below_drewN | apply below_drew1) | exact HB.out)) hb); have n1_ := Aside0.mk (hbox); have n2_ := Aside0.mk ((by rw [hg]; exact (below_size (by repeat (first | (with_reducible first | exact HB.out | apply below_alloc | apply pw_below_drewN | apply below_drew1) | exact HB.out))) : w.heap.size ≤ gb114)); have n3_ := Aside0.mk ((by rw [hg]; exact (below_size (by repeat (first | (with_reducible first | exact HB.out | apply below_alloc | apply pw_below_drewN | apply below_drew1) | exact HB.out))) : w.heap.size ≤ gb114)); clear HB; have HB := n0_; have BK114 := n1_; have GW114 := n2_; have GE114 := n3_; clear n0_ n1_ n2_ n3_; clear hb hbox hg; have hcz9_0 : w8.cell? ⟨gb114, 0, none⟩ = some (.int .i64 a0_0) := (blk_cell BK114.out 0).trans rfl; have hcz9_1 : w8.cell? ⟨gb114, 1, none⟩ = some (.int .i64 a0_1) := (blk_cell BK114.out 1).trans rfl; have hfz9_0 := blk_frozen BK114.out 0; have hfz9_1 := blk_frozen BK114.out 1))
        go_ret
        exact ⟨by first | rfl | (simp [errW_none, errW_some] <;> rfl) | (simp [*, errW_none, errW_some] <;> rfl), by repeat (first | (with_reducible first | exact HB.out | apply below_alloc | apply pw_below_drewN | apply below_drew1 | refine below_set ?_ GE114.out) | exact HB.out)⟩
    · rw [if_neg c4] at H
      have c4b0 : decide (0 ≤ a0_1) = false := decide_eq_false c4
      clear c4
      obtain rfl := Option.some.inj H
      go_enter Tryd.func56, Tryd.ntmps56
      go_wp2_with (first | ((with_reducible refine gate_dst (N := 2) rfl ?_); refine box_event ?hg (N := 2) ?hd (cs := #[.int .i64 a0_0, .int .i64 a0_1]) (t := 26) ?hr ?_; (case hd => rfl); (case hg => rfl); (case hr => first | (go_simp; done) | (go_simp; rfl)); intro gb114 hg w10 hbox hb; have n0_ := Aside0.mk (below_step (by repeat (first | (with_reducible first | exact HB.out | apply below_alloc | apply pw_below_drewN | apply below_drew1) | exact HB.out)) hb); have n1_ := Aside0.mk (hbox); have n2_ := Aside0.mk ((by rw [hg]; exact (below_size (by repeat (first | (with_reducible first | exact HB.out | apply below_alloc | apply pw_below_drewN | apply below_drew1) | exact HB.out))) : w.heap.size ≤ gb114)); have n3_ := Aside0.mk ((by rw [hg]; exact (below_size (by repeat (first | (with_reducible first | exact HB.out | apply below_alloc | apply pw_below_drewN | apply below_drew1) | exact HB.out))) : w.heap.size ≤ gb114)); clear HB; have HB := n0_; have BK114 := n1_; have GW114 := n2_; have GE114 := n3_; clear n0_ n1_ n2_ n3_; clear hb hbox hg; have hcz11_0 : w10.cell? ⟨gb114, 0, none⟩ = some (.int .i64 a0_0) := (blk_cell BK114.out 0).trans rfl; have hcz11_1 : w10.cell? ⟨gb114, 1, none⟩ = some (.int .i64 a0_1) := (blk_cell BK114.out 1).trans rfl; have hfz11_0 := blk_frozen BK114.out 0; have hfz11_1 := blk_frozen BK114.out 1))
      go_ret
      exact ⟨by first | rfl | (simp [errW_none, errW_some] <;> rfl) | (simp [*, errW_none, errW_some] <;> rfl), by repeat (first | (with_reducible first | exact HB.out | apply below_alloc | apply pw_below_drewN | apply below_drew1 | refine below_set ?_ GE114.out) | exact HB.out)⟩
  · rw [if_neg c3] at H
    have c3b0 : decide (0 ≤ a0_0) = false := decide_eq_false c3
    clear c3
    obtain rfl := Option.some.inj H
    go_enter Tryd.func56, Tryd.ntmps56
    go_wp2_with (first | ((with_reducible refine gate_dst (N := 2) rfl ?_); refine box_event ?hg (N := 2) ?hd (cs := #[.int .i64 a0_0, .int .i64 a0_1]) (t := 26) ?hr ?_; (case hd => rfl); (case hg => rfl); (case hr => first | (go_simp; done) | (go_simp; rfl)); intro gb114 hg w12 hbox hb; have n0_ := Aside0.mk (below_step (by repeat (first | (with_reducible first | exact HB.out | apply below_alloc | apply pw_below_drewN | apply below_drew1) | exact HB.out)) hb); have n1_ := Aside0.mk (hbox); have n2_ := Aside0.mk ((by rw [hg]; exact (below_size (by repeat (first | (with_reducible first | exact HB.out | apply below_alloc | apply pw_below_drewN | apply below_drew1) | exact HB.out))) : w.heap.size ≤ gb114)); have n3_ := Aside0.mk ((by rw [hg]; exact (below_size (by repeat (first | (with_reducible first | exact HB.out | apply below_alloc | apply pw_below_drewN | apply below_drew1) | exact HB.out))) : w.heap.size ≤ gb114)); clear HB; have HB := n0_; have BK114 := n1_; have GW114 := n2_; have GE114 := n3_; clear n0_ n1_ n2_ n3_; clear hb hbox hg; have hcz13_0 : w12.cell? ⟨gb114, 0, none⟩ = some (.int .i64 a0_0) := (blk_cell BK114.out 0).trans rfl; have hcz13_1 : w12.cell? ⟨gb114, 1, none⟩ = some (.int .i64 a0_1) := (blk_cell BK114.out 1).trans rfl; have hfz13_0 := blk_frozen BK114.out 0; have hfz13_1 := blk_frozen BK114.out 1))
    go_ret
    exact ⟨by first | rfl | (simp [errW_none, errW_some] <;> rfl) | (simp [*, errW_none, errW_some] <;> rfl), by repeat (first | (with_reducible first | exact HB.out | apply below_alloc | apply pw_below_drewN | apply below_drew1 | refine below_set ?_ GE114.out) | exact HB.out)⟩
end Go.Proofs.YthpldfjjdmjcoaaDoor.P

namespace Go.Proofs.YthpldfjjdmjcoaaDoor.P
open Go.RowKit Go.Proofs.YthpldfjjdmjcoaaDoorW.PrintWords Go.Proofs.YthpldfjjdmjcoaaDoorW.PrintLast Go.Proofs.YthpldfjjdmjcoaaDoorW.PrintMore
attribute [local go_sem] max2_int min2_int max_two min_two max_three min_three max_four min_four   -- for this text's walks alone
set_option linter.unusedVariables false
set_option linter.unusedSimpArgs false
def r02change.l0 : Nat → Bool → Int → Int → Int → Int → List Int → Option (Int × List Int × Int)
  | 0, _, _, _, _, _, _ => none
  | k + 1, x2, x9, x117000, x117001, x125000, x125001 => if x9 < (wrap64 (x117000 + x117001)) then (if x2 = true then (if 0 ≤ (wrap64 (Int.tdiv x9 64)) then (if (wrap64 (Int.tdiv x9 64)) < (x125001.length : Int) then (if 0 ≤ (IntKind.u64.wrap (Int.tmod x9 64)) then (r02change.l0 k x2 (wrap64 (x9 + 1)) x117000 x117001 x125000 (x125001.set ((wrap64 (Int.tdiv x9 64)) : Int).toNat (Go.bits .or .u64 (rd x125001 (wrap64 (Int.tdiv x9 64))) (shl .u64 1 (IntKind.u64.wrap (Int.tmod x9 64)))))) else (none)) else (none)) else (none)) else (if 0 ≤ (wrap64 (Int.tdiv x9 64)) then (if (wrap64 (Int.tdiv x9 64)) < (x125001.length : Int) then (if 0 ≤ (IntKind.u64.wrap (Int.tmod x9 64)) then (r02change.l0 k x2 (wrap64 (x9 + 1)) x117000 x117001 x125000 (x125001.set ((wrap64 (Int.tdiv x9 64)) : Int).toNat (Go.bits .andNot .u64 (rd x125001 (wrap64 (Int.tdiv x9 64))) (shl .u64 1 (IntKind.u64.wrap (Int.tmod x9 64)))))) else (none)) else (none)) else (none))) else (some (x125000, x125001, 0))
def r02change.f (k : Nat) (a0_0 : Int) (l0_1 : List Int) (a1_0 : Int) (a1_1 : Int) (a2 : Bool) : Option (Int × List Int × Int) := (r02Check.f k a0_0 l0_1).bind fun t118 => (if t118 = 0 then ((r02Fits.f a1_0 a1_1 a0_0).bind fun t119 => (if t119 = true then ((r02Copy.f a0_0 l0_1).bind fun bt120 => (r02change.l0 k a2 a1_0 a1_0 a1_1 bt120.1 bt120.2)) else (some (0, ([] : List Int), 2)))) else (some (0, ([] : List Int), 3)))
def r02change.T10 : Bool × List (List Nat × List Nat) := (true, [([], []), ([0], [0]), ([], []), ([2], [2]), ([], []), ([4], [4]), ([], []), ([6], [6]), ([5, 7], [5, 7]), ([8], [8]), ([], []), ([10], [10]), ([11], [11]), ([12], [12]), ([9, 13], [9, 13]), ([1, 3, 0, 1, 2, 3, 4, 5, 6, 7, 8, 9, 10, 11, 12, 13, 14], [1, 3]), ([15, 14, 0, 1, 2, 3, 4, 5, 6, 7, 8, 9, 10, 11, 12, 13, 14], [14, 15])])
def r02change.B10 : List Nat := [0, 1, 0, 4, 0, 16, 0, 64, 240, 496, 0, 1024, 3072, 7168, 16368, 32767, 65535]
theorem r02change.tab10 : rtab .any (opsOf Tryd.f41 10) = r02change.T10 := by kernel_rfl
theorem r02change.bits10 : waitsOk r02change.T10.2 r02change.B10 = true := by kernel_rfl
def r02change.T11 : Bool × List (List Nat × List Nat) := (true, [([], []), ([0], [0]), ([], []), ([2], [2]), ([], []), ([4], [4]), ([], []), ([6], [6]), ([5, 7], [5, 7]), ([8], [8]), ([], []), ([10], [10]), ([11], [11]), ([12], [12]), ([9, 13], [9, 13]), ([1, 3, 0, 1, 2, 3, 4, 5, 6, 7, 8, 9, 10, 11, 12, 13, 14], [1, 3]), ([15, 14, 0, 1, 2, 3, 4, 5, 6, 7, 8, 9, 10, 11, 12, 13, 14], [14, 15])])
def r02change.B11 : List Nat := [0, 1, 0, 4, 0, 16, 0, 64, 240, 496, 0, 1024, 3072, 7168, 16368, 32767, 65535]
theorem r02change.tab11 : rtab .any (opsOf Tryd.f41 11) = r02change.T11 := by kernel_rfl
theorem r02change.bits11 : waitsOk r02change.T11.2 r02change.B11 = true := by kernel_rfl
set_option maxHeartbeats 8000000 in
set_option maxRecDepth 100000 in
theorem r02change.calls (k : Nat) (a0_0 : Int) (A0_1 : Option Addr) (c0_1 : Nat) (l0_1 : List Int) (a1_0 : Int) (a1_1 : Int) (a2 : Bool) (r1 : Int) (r2 : List Int) (r3 : Int) (w : World) (hr0_1 : Kd.C (Kd.int .u64) w A0_1 l0_1.length l0_1) (hc0_1 : l0_1.length ≤ c0_1) (h : r02change.f k a0_0 l0_1 a1_0 a1_1 a2 = some (r1, r2, r3)) :
    Calls Tryd.prog 41 #[.agg #[.int .i64 a0_0, .slice A0_1 l0_1.length c0_1], .agg #[.int .i64 a1_0, .int .i64 a1_1], .bool a2] w fun e w' => ∃ v1_ : Value, e = .returned (.tuple #[.agg #[.int .i64 r1, v1_], .int .i64 r3]) ∧ Kd.R (Kd.int .u64) 55 w' w.heap.size (fun _ => True) v1_ r2 ∧ Below w.heap.size w w' := by
  have hu24 := Tryd.underlying24
  have hu26 := Tryd.underlying26
  have HR0_1 := Aside0.mk hr0_1
  have HC0_1 := Aside0.mk hc0_1
  clear hr0_1 hc0_1
  have HB := Aside0.mk (Below.refl w.heap.size w)
  have H : ((r02Check.f k a0_0 l0_1).bind fun t118 => (if t118 = 0 then ((r02Fits.f a1_0 a1_1 a0_0).bind fun t119 => (if t119 = true then ((r02Copy.f a0_0 l0_1).bind fun bt120 => (r02change.l0 k a2 a1_0 a1_0 a1_1 bt120.1 bt120.2)) else (some (0, ([] : List Int), 2)))) else (some (0, ([] : List Int), 3)))) = some (r1, r2, r3) := h
  clear h
  replace H := Option.bind_eq_some_iff.mp H
  obtain ⟨t118, A40, H⟩ := H
  replace H : (if t118 = 0 then ((r02Fits.f a1_0 a1_1 a0_0).bind fun t119 => (if t119 = true then ((r02Copy.f a0_0 l0_1).bind fun bt120 => (r02change.l0 k a2 a1_0 a1_0 a1_1 bt120.1 bt120.2)) else (some (0, ([] : List Int), 2)))) else (some (0, ([] : List Int), 3))) = some (r1, r2, r3) := H
  have A4 := Aside0.mk A40
  clear A40
  by_cases c5 : t118 = 0
  · rw [if_pos c5] at H
    have c5b0 : (t118 == 0) = true := beq_iff_eq.mpr c5
    have c5b1 : (t118 != 0) = false := bne_eq_false_iff_eq.mpr c5
    clear c5
    replace H := Option.bind_eq_some_iff.mp H
    obtain ⟨t119, A60, H⟩ := H
    replace H : (if t119 = true then ((r02Copy.f a0_0 l0_1).bind fun bt120 => (r02change.l0 k a2 a1_0 a1_0 a1_1 bt120.1 bt120.2)) else (some (0, ([] : List Int), 2))) = some (r1, r2, r3) := H
    have A6 := Aside0.mk A60
    clear A60
    by_cases c7 : t119 = true
    · subst c7
      have H1 : ((r02Copy.f a0_0 l0_1).bind fun bt120 => (r02change.l0 k a2 a1_0 a1_0 a1_1 bt120.1 bt120.2)) = some (r1, r2, r3) := by rw [if_pos rfl] at H; exact H
      clear H
      have H := H1
      clear H1
      replace H := Option.bind_eq_some_iff.mp H
      obtain ⟨⟨t120, t121⟩, A80, H⟩ := H
      replace H : (r02change.l0 k a2 a1_0 a1_0 a1_1 t120 t121) = some (r1, r2, r3) := H
      have A8 := Aside0.mk A80
      clear A80
      have H' := Aside0.mk H
      clear H
      go_enter Tryd.func41, Tryd.ntmps41
      go_wp2_with (first | ((with_reducible refine gate_dst (N := 3) rfl ?_); refine box_event ?hg (N := 3) ?hd (cs := #[.int .i64 a0_0, .slice A0_1 l0_1.length c0_1]) (t := 24) ?hr ?_; (case hd => rfl); (case hg => rfl); (case hr => first | (go_simp; done) | (go_simp; rfl)); intro gb115 hg w9 hbox hb; have n0_ := Aside0.mk (below_step (by repeat (first | (with_reducible first | exact HB.out | apply below_alloc | apply pw_below_drewN | apply below_drew1) | exact HB.out)) hb); have n1_ := Aside0.mk (hbox); have n2_ := Aside0.mk ((by rw [hg]; exact (below_size (by repeat (first | (with_reducible first | exact HB.out | apply below_alloc | apply pw_below_drewN | apply below_drew1) | exact HB.out))) : w.heap.size ≤ gb115)); have n3_ := Aside0.mk ((by rw [hg]; exact (below_size (by repeat (first | (with_reducible first | exact HB.out | apply below_alloc | apply pw_below_drewN | apply below_drew1) | exact HB.out))) : w.heap.size ≤ gb115)); clear HB; have HB := n0_; have BK115 := n1_; have GW115 := n2_; have GE115 := n3_; clear n0_ n1_ n2_ n3_; clear hb hbox hg) | ((with_reducible refine gate_dst (N := 4) rfl ?_); refine box_event ?hg (N := 4) ?hd (cs := #[.int .i64 a1_0, .int .i64 a1_1]) (t := 26) ?hr ?_; (case hd => rfl); (case hg => rfl); (case hr => first | (go_simp; done) | (go_simp; rfl)); intro gb116 hg w10 hbox hb; have n0_ := Aside0.mk (blk_below (g := gb115) (o := .cells #[.int .i64 a0_0, .slice A0_1 l0_1.length c0_1] 24 (0, 0)) (by (with_reducible repeat (first | refine blk_drewN ?_ _ | refine blk_drew ?_ | refine blk_alloc ?_ _)); exact BK115.out) hb); have n1_ := Aside0.mk (below_step (by repeat (first | (with_reducible first | exact HB.out | apply below_alloc | apply pw_below_drewN | apply below_drew1 | refine below_set ?_ GE115.out) | exact HB.out)) hb); have n2_ := Aside0.mk (hbox); have n3_ := Aside0.mk ((by rw [hg]; exact (below_size (by repeat (first | (with_reducible first | exact HB.out | apply below_alloc | apply pw_below_drewN | apply below_drew1 | refine below_set ?_ GE115.out) | exact HB.out))) : w.heap.size ≤ gb116)); have n4_ := Aside0.mk ((by rw [hg]; exact (below_size (by repeat (first | (with_reducible first | exact HB.out | apply below_alloc | apply pw_below_drewN | apply below_drew1 | refine below_set ?_ GE115.out) | exact HB.out))) : w.heap.size ≤ gb116)); have n5_ := Aside0.mk ((by rw [hg]; exact Nat.ne_of_lt (blk_lt (g := gb115) (o := .cells #[.int .i64 a0_0, .slice A0_1 l0_1.length c0_1] 24 (0, 0)) (by (with_reducible repeat (first | refine blk_drewN ?_ _ | refine blk_drew ?_ | refine blk_alloc ?_ _)); exact BK115.out)) : gb115 ≠ gb116)); have n6_ := Aside0.mk ((by rw [hg]; exact Nat.ne_of_gt (blk_lt (g := gb115) (o := .cells #[.int .i64 a0_0, .slice A0_1 l0_1.length c0_1] 24 (0, 0)) (by (with_reducible repeat (first | refine blk_drewN ?_ _ | refine blk_drew ?_ | refine blk_alloc ?_ _)); exact BK115.out)) : gb116 ≠ gb115)); clear BK115; clear HB; have BK115 := n0_; have HB := n1_; have BK116 := n2_; have GW116 := n3_; have GE116 := n4_; have NB115_116 := n5_; have NB116_115 := n6_; clear n0_ n1_ n2_ n3_ n4_ n5_ n6_; clear hb hbox hg) | ((with_reducible refine gate_dst (N := 6) rfl ?_); refine box_event ?hg (N := 6) ?hd (cs := #[.int .i64 0, .slice none 0 0]) (t := 24) ?hr ?_; (case hd => rfl); (case hg => rfl); (case hr => first | (go_simp; done) | (go_simp; rfl)); intro gb117 hg w11 hbox hb; have n0_ := Aside0.mk (blk_below (g := gb115) (o := .cells #[.int .i64 a0_0, .slice A0_1 l0_1.length c0_1] 24 (0, 0)) (by (with_reducible repeat (first | refine blk_drewN ?_ _ | refine blk_drew ?_ | refine blk_alloc ?_ _)); exact BK115.out) hb); have n1_ := Aside0.mk (blk_below (g := gb116) (o := .cells #[.int .i64 a1_0, .int .i64 a1_1] 26 (0, 0)) (by (with_reducible repeat (first | refine blk_drewN ?_ _ | refine blk_drew ?_ | refine blk_alloc ?_ _)); exact BK116.out) hb); have n2_ := Aside0.mk (below_step (by repeat (first | (with_reducible first | exact HB.out | apply below_alloc | apply pw_below_drewN | apply below_drew1 | refine below_set ?_ GE115.out | refine below_set ?_ GE116.out) | exact HB.out)) hb); have n3_ := Aside0.mk (hbox); have n4_ := Aside0.mk ((by rw [hg]; exact (below_size (by repeat (first | (with_reducible first | exact HB.out | apply below_alloc | apply pw_below_drewN | apply below_drew1 | refine below_set ?_ GE115.out | refine below_set ?_ GE116.out) | exact HB.out))) : w.heap.size ≤ gb117)); have n5_ := Aside0.mk ((by rw [hg]; exact (below_size (by repeat (first | (with_reducible first | exact HB.out | apply below_alloc | apply pw_below_drewN | apply below_drew1 | refine below_set ?_ GE115.out | refine below_set ?_ GE116.out) | exact HB.out))) : w.heap.size ≤ gb117)); have n6_ := Aside0.mk ((by rw [hg]; exact Nat.ne_of_lt (blk_lt (g := gb115) (o := .cells #[.int .i64 a0_0, .slice A0_1 l0_1.length c0_1] 24 (0, 0)) (by (with_reducible repeat (first | refine blk_drewN ?_ _ | refine blk_drew ?_ | refine blk_alloc ?_ _)); exact BK115.out)) : gb115 ≠ gb117)); have n7_ := Aside0.mk ((by rw [hg]; exact Nat.ne_of_gt (blk_lt (g := gb115) (o := .cells #[.int .i64 a0_0, .slice A0_1 l0_1.length c0_1] 24 (0, 0)) (by (with_reducible repeat (first | refine blk_drewN ?_ _ | refine blk_drew ?_ | refine blk_alloc ?_ _)); exact BK115.out)) : gb117 ≠ gb115)); have n8_ := Aside0.mk ((by rw [hg]; exact Nat.ne_of_lt (blk_lt (g := gb116) (o := .cells #[.int .i64 a1_0, .int .i64 a1_1] 26 (0, 0)) (by (with_reducible repeat (first | refine blk_drewN ?_ _ | refine blk_drew ?_ | refine blk_alloc ?_ _)); exact BK116.out)) : gb116 ≠ gb117)); have n9_ := Aside0.mk ((by rw [hg]; exact Nat.ne_of_gt (blk_lt (g := gb116) (o := .cells #[.int .i64 a1_0, .int .i64 a1_1] 26 (0, 0)) (by (with_reducible repeat (first | refine blk_drewN ?_ _ | refine blk_drew ?_ | refine blk_alloc ?_ _)); exact BK116.out)) : gb117 ≠ gb116)); clear BK115; clear BK116; clear HB; have BK115 := n0_; have BK116 := n1_; have HB := n2_; have BK117 := n3_; have GW117 := n4_; have GE117 := n5_; have NB115_117 := n6_; have NB117_115 := n7_; have NB116_117 := n8_; have NB117_116 := n9_; clear n0_ n1_ n2_ n3_ n4_ n5_ n6_ n7_ n8_ n9_; clear hb hbox hg; have hnb12 := NB115_116.out; have hnc12 := NB116_115.out; have hnb13 := NB115_117.out; have hnc13 := NB117_115.out; have hcz14_0 : w11.cell? ⟨gb115, 0, none⟩ = some (.int .i64 a0_0) := (blk_cell BK115.out 0).trans rfl; have hcz14_1 : w11.cell? ⟨gb115, 1, none⟩ = some (.slice A0_1 l0_1.length c0_1) := (blk_cell BK115.out 1).trans rfl; have hfz14_0 := blk_frozen BK115.out 0; have hfz14_1 := blk_frozen BK115.out 1) | ((with_reducible refine gate_callee (f := 21) rfl ?_); refine goesL_ (some 11) rfl rfl Tryd.func21 (by kernel_rfl) rfl #[.agg #[.int .i64 a0_0, .slice A0_1 l0_1.length c0_1]] rfl (by (try simp only [List.map_toArray, List.map_cons, List.map_nil]); first | done | rfl | (simp only [List.length_drop, List.length_take]; rfl)) ?_; (with_reducible refine (r02Check.calls k a0_0 _ _ l0_1 t118 _ ?side1 ?side2 A4.out).mono ?_); (case side1 => repeat (first | exact (Kd.C_below HR0_1.out HB.out) | (with_reducible refine Kd.C_alloc ?_ _) | (with_reducible refine Kd.C_drewN ?_ _) | (with_reducible refine Kd.C_drew ?_))); (case side2 => exact HC0_1.out); rintro e w15 ⟨rfl, hb⟩; refine ⟨_, rfl, ?_⟩; have n0_ := Aside0.mk (blk_below (g := gb115) (o := .cells #[.int .i64 a0_0, .slice A0_1 l0_1.length c0_1] 24 (0, 0)) (by (with_reducible repeat (first | refine blk_drewN ?_ _ | refine blk_drew ?_ | refine blk_alloc ?_ _)); exact BK115.out) hb); have n1_ := Aside0.mk (blk_below (g := gb116) (o := .cells #[.int .i64 a1_0, .int .i64 a1_1] 26 (0, 0)) (by (with_reducible repeat (first | refine blk_drewN ?_ _ | refine blk_drew ?_ | refine blk_alloc ?_ _)); exact BK116.out) hb); have n2_ := Aside0.mk (blk_below (g := gb117) (o := .cells #[.int .i64 0, .slice none 0 0] 24 (0, 0)) (by (with_reducible repeat (first | refine blk_drewN ?_ _ | refine blk_drew ?_ | refine blk_alloc ?_ _)); exact BK117.out) hb); have n3_ := Aside0.mk (below_step (by repeat (first | (with_reducible first | exact HB.out | apply below_alloc | apply pw_below_drewN | apply below_drew1 | refine below_set ?_ GE115.out | refine below_set ?_ GE116.out | refine below_set ?_ GE117.out) | exact HB.out)) hb); clear BK115; clear BK116; clear BK117; clear HB; have BK115 := n0_; have BK116 := n1_; have BK117 := n2_; have HB := n3_; clear n0_ n1_ n2_ n3_; (try clear hb); (try clear hb2); (try clear hk); (try clear hi); have hnb16 := NB116_117.out; have hnc16 := NB117_116.out; have hcz17_0 : w15.cell? ⟨gb116, 0, none⟩ = some (.int .i64 a1_0) := (blk_cell BK116.out 0).trans rfl; have hcz17_1 : w15.cell? ⟨gb116, 1, none⟩ = some (.int .i64 a1_1) := (blk_cell BK116.out 1).trans rfl; have hfz17_0 := blk_frozen BK116.out 0; have hfz17_1 := blk_frozen BK116.out 1; have hcz18_0 : w15.cell? ⟨gb115, 0, none⟩ = some (.int .i64 a0_0) := (blk_cell BK115.out 0).trans rfl; have hcz18_1 : w15.cell? ⟨gb115, 1, none⟩ = some (.slice A0_1 l0_1.length c0_1) := (blk_cell BK115.out 1).trans rfl; have hfz18_0 := blk_frozen BK115.out 0; have hfz18_1 := blk_frozen BK115.out 1) | ((with_reducible refine gate_callee (f := 56) rfl ?_); refine goesL_ (some 17) rfl rfl Tryd.func56 (by kernel_rfl) rfl #[.agg #[.int .i64 a1_0, .int .i64 a1_1], .int .i64 a0_0] rfl (by (try simp only [List.map_toArray, List.map_cons, List.map_nil]); first | done | rfl | (simp only [List.length_drop, List.length_take]; rfl)) ?_; (with_reducible refine (r02Fits.calls a1_0 a1_1 a0_0 true _ A6.out).mono ?_); rintro e w19 ⟨rfl, hb⟩; refine ⟨_, rfl, ?_⟩; have n0_ := Aside0.mk (blk_below (g := gb115) (o := .cells #[.int .i64 a0_0, .slice A0_1 l0_1.length c0_1] 24 (0, 0)) (by (with_reducible repeat (first | refine blk_drewN ?_ _ | refine blk_drew ?_ | refine blk_alloc ?_ _)); exact BK115.out) hb); have n1_ := Aside0.mk (blk_below (g := gb116) (o := .cells #[.int .i64 a1_0, .int .i64 a1_1] 26 (0, 0)) (by (with_reducible repeat (first | refine blk_drewN ?_ _ | refine blk_drew ?_ | refine blk_alloc ?_ _)); exact BK116.out) hb); have n2_ := Aside0.mk (blk_below (g := gb117) (o := .cells #[.int .i64 0, .slice none 0 0] 24 (0, 0)) (by (with_reducible repeat (first | refine blk_drewN ?_ _ | refine blk_drew ?_ | refine blk_alloc ?_ _)); exact BK117.out) hb); have n3_ := Aside0.mk (below_step (by repeat (first | (with_reducible first | exact HB.out | apply below_alloc | apply pw_below_drewN | apply below_drew1 | refine below_set ?_ GE115.out | refine below_set ?_ GE116.out | refine below_set ?_ GE117.out) | exact HB.out)) hb); clear BK115; clear BK116; clear BK117; clear HB; have BK115 := n0_; have BK116 := n1_; have BK117 := n2_; have HB := n3_; clear n0_ n1_ n2_ n3_; (try clear hb); (try clear hb2); (try clear hk); (try clear hi); have hcz20_0 : w19.cell? ⟨gb115, 0, none⟩ = some (.int .i64 a0_0) := (blk_cell BK115.out 0).trans rfl; have hcz20_1 : w19.cell? ⟨gb115, 1, none⟩ = some (.slice A0_1 l0_1.length c0_1) := (blk_cell BK115.out 1).trans rfl; have hfz20_0 := blk_frozen BK115.out 0; have hfz20_1 := blk_frozen BK115.out 1) | ((with_reducible refine gate_callee (f := 50) rfl ?_); refine goesL_ (some 21) rfl rfl Tryd.func50 (by kernel_rfl) rfl #[.agg #[.int .i64 a0_0, .slice A0_1 l0_1.length c0_1]] rfl (by (try simp only [List.map_toArray, List.map_cons, List.map_nil]); first | done | rfl | (simp only [List.length_drop, List.length_take]; rfl)) ?_; (with_reducible refine (r02Copy.calls a0_0 _ _ l0_1 t120 t121 _ ?side1 ?side2 A8.out).mono ?_); (case side1 => repeat (first | exact (Kd.C_below HR0_1.out HB.out) | (with_reducible refine Kd.C_alloc ?_ _) | (with_reducible refine Kd.C_drewN ?_ _) | (with_reducible refine Kd.C_drew ?_))); (case side2 => exact HC0_1.out); rintro e w21 ⟨v122, rfl, ho0, hb⟩; refine ⟨_, rfl, ?_⟩; have n0_ := Aside0.mk (Kd.R_lower ho0 (below_size (by repeat (first | (with_reducible first | exact HB.out | apply below_alloc | apply pw_below_drewN | apply below_drew1 | refine below_set ?_ GE115.out | refine below_set ?_ GE116.out | refine below_set ?_ GE117.out) | exact HB.out)))); have n1_ := Aside0.mk (blk_below (g := gb115) (o := .cells #[.int .i64 a0_0, .slice A0_1 l0_1.length c0_1] 24 (0, 0)) (by (with_reducible repeat (first | refine blk_drewN ?_ _ | refine blk_drew ?_ | refine blk_alloc ?_ _)); exact BK115.out) hb); have n2_ := Aside0.mk (blk_below (g := gb116) (o := .cells #[.int .i64 a1_0, .int .i64 a1_1] 26 (0, 0)) (by (with_reducible repeat (first | refine blk_drewN ?_ _ | refine blk_drew ?_ | refine blk_alloc ?_ _)); exact BK116.out) hb); have n3_ := Aside0.mk (blk_below (g := gb117) (o := .cells #[.int .i64 0, .slice none 0 0] 24 (0, 0)) (by (with_reducible repeat (first | refine blk_drewN ?_ _ | refine blk_drew ?_ | refine blk_alloc ?_ _)); exact BK117.out) hb); have n4_ := Aside0.mk (below_step (by repeat (first | (with_reducible first | exact HB.out | apply below_alloc | apply pw_below_drewN | apply below_drew1 | refine below_set ?_ GE115.out | refine below_set ?_ GE116.out | refine below_set ?_ GE117.out) | exact HB.out)) hb); clear BK115; clear BK116; clear BK117; clear HB; have HO123 := n0_; have BK115 := n1_; have BK116 := n2_; have BK117 := n3_; have HB := n4_; clear n0_ n1_ n2_ n3_ n4_; (try clear hb); (try clear hb2); (try clear hk); (try clear hi); (try clear ho0)) | ((with_reducible refine gate_dst (N := 8) rfl ?_); refine box_event ?hg (N := 8) ?hd (cs := #[.int .i64 0, .slice none 0 0]) (t := 24) ?hr ?_; (case hd => rfl); (case hg => rfl); (case hr => first | (go_simp; done) | (go_simp; rfl)); intro gb124 hg w22 hbox hb; have n0_ := Aside0.mk (Kd.R_below (by (with_reducible repeat (first | apply Kd.R_alloc | apply Kd.R_drewN | apply Kd.R_drew)); exact HO123.out) hb); have n1_ := Aside0.mk (blk_below (g := gb115) (o := .cells #[.int .i64 a0_0, .slice A0_1 l0_1.length c0_1] 24 (0, 0)) (by (with_reducible repeat (first | refine blk_drewN ?_ _ | refine blk_drew ?_ | refine blk_alloc ?_ _)); exact BK115.out) hb); have n2_ := Aside0.mk (blk_below (g := gb116) (o := .cells #[.int .i64 a1_0, .int .i64 a1_1] 26 (0, 0)) (by (with_reducible repeat (first | refine blk_drewN ?_ _ | refine blk_drew ?_ | refine blk_alloc ?_ _)); exact BK116.out) hb); have n3_ := Aside0.mk (blk_below (g := gb117) (o := .cells #[.int .i64 0, .slice none 0 0] 24 (0, 0)) (by (with_reducible repeat (first | refine blk_drewN ?_ _ | refine blk_drew ?_ | refine blk_alloc ?_ _)); exact BK117.out) hb); have n4_ := Aside0.mk (below_step (by repeat (first | (with_reducible first | exact HB.out | apply below_alloc | apply pw_below_drewN | apply below_drew1 | refine below_set ?_ GE115.out | refine below_set ?_ GE116.out | refine below_set ?_ GE117.out) | exact HB.out)) hb); have n5_ := Aside0.mk (hbox); have n6_ := Aside0.mk ((by rw [hg]; exact (below_size (by repeat (first | (with_reducible first | exact HB.out | apply below_alloc | apply pw_below_drewN | apply below_drew1 | refine below_set ?_ GE115.out | refine below_set ?_ GE116.out | refine below_set ?_ GE117.out) | exact HB.out))) : w.heap.size ≤ gb124)); have n7_ := Aside0.mk ((by rw [hg]; exact (below_size (by repeat (first | (with_reducible first | exact HB.out | apply below_alloc | apply pw_below_drewN | apply below_drew1 | refine below_set ?_ GE115.out | refine below_set ?_ GE116.out | refine below_set ?_ GE117.out) | exact HB.out))) : w.heap.size ≤ gb124)); have n8_ := Aside0.mk ((by rw [hg]; exact Nat.ne_of_lt (blk_lt (g := gb115) (o := .cells #[.int .i64 a0_0, .slice A0_1 l0_1.length c0_1] 24 (0, 0)) (by (with_reducible repeat (first | refine blk_drewN ?_ _ | refine blk_drew ?_ | refine blk_alloc ?_ _)); exact BK115.out)) : gb115 ≠ gb124)); have n9_ := Aside0.mk ((by rw [hg]; exact Nat.ne_of_gt (blk_lt (g := gb115) (o := .cells #[.int .i64 a0_0, .slice A0_1 l0_1.length c0_1] 24 (0, 0)) (by (with_reducible repeat (first | refine blk_drewN ?_ _ | refine blk_drew ?_ | refine blk_alloc ?_ _)); exact BK115.out)) : gb124 ≠ gb115)); have n10_ := Aside0.mk ((by rw [hg]; exact Nat.ne_of_lt (blk_lt (g := gb116) (o := .cells #[.int .i64 a1_0, .int .i64 a1_1] 26 (0, 0)) (by (with_reducible repeat (first | refine blk_drewN ?_ _ | refine blk_drew ?_ | refine blk_alloc ?_ _)); exact BK116.out)) : gb116 ≠ gb124)); have n11_ := Aside0.mk ((by rw [hg]; exact Nat.ne_of_gt (blk_lt (g := gb116) (o := .cells #[.int .i64 a1_0, .int .i64 a1_1] 26 (0, 0)) (by (with_reducible repeat (first | refine blk_drewN ?_ _ | refine blk_drew ?_ | refine blk_alloc ?_ _)); exact BK116.out)) : gb124 ≠ gb116)); have n12_ := Aside0.mk ((by rw [hg]; exact Nat.ne_of_lt (blk_lt (g := gb117) (o := .cells #[.int .i64 0, .slice none 0 0] 24 (0, 0)) (by (with_reducible repeat (first | refine blk_drewN ?_ _ | refine blk_drew ?_ | refine blk_alloc ?_ _)); exact BK117.out)) : gb117 ≠ gb124)); have n13_ := Aside0.mk ((by rw [hg]; exact Nat.ne_of_gt (blk_lt (g := gb117) (o := .cells #[.int .i64 0, .slice none 0 0] 24 (0, 0)) (by (with_reducible repeat (first | refine blk_drewN ?_ _ | refine blk_drew ?_ | refine blk_alloc ?_ _)); exact BK117.out)) : gb124 ≠ gb117)); clear HO123; clear BK115; clear BK116; clear BK117; clear HB; have HO123 := n0_; have BK115 := n1_; have BK116 := n2_; have BK117 := n3_; have HB := n4_; have BK124 := n5_; have GW124 := n6_; have GE124 := n7_; have NB115_124 := n8_; have NB124_115 := n9_; have NB116_124 := n10_; have NB124_116 := n11_; have NB117_124 := n12_; have NB124_117 := n13_; clear n0_ n1_ n2_ n3_ n4_ n5_ n6_ n7_ n8_ n9_ n10_ n11_ n12_ n13_; clear hb hbox hg; have hnb23 := NB124_115.out; have hnc23 := NB115_124.out; have hnb24 := NB124_116.out; have hnc24 := NB116_124.out; have hnb25 := NB124_117.out; have hnc25 := NB117_124.out; have hcz26_0 : w22.cell? ⟨gb124, 0, none⟩ = some (.int .i64 0) := (blk_cell BK124.out 0).trans rfl; have hcz26_1 : w22.cell? ⟨gb124, 1, none⟩ = some (.slice none 0 0) := (blk_cell BK124.out 1).trans rfl; have hfz26_0 := blk_frozen BK124.out 0; have hfz26_1 := blk_frozen BK124.out 1; obtain ⟨Ao27, co27, eo27⟩ := Kd.R_slice HO123.out; subst eo27; have hcz28_0 : w22.cell? ⟨gb116, 0, none⟩ = some (.int .i64 a1_0) := (blk_cell BK116.out 0).trans rfl; have hcz28_1 : w22.cell? ⟨gb116, 1, none⟩ = some (.int .i64 a1_1) := (blk_cell BK116.out 1).trans rfl; have hfz28_0 := blk_frozen BK116.out 0; have hfz28_1 := blk_frozen BK116.out 1))
      go_loopg [9] k (fun kq v9 w' => ∃ (x9_1 : Int) (x125001_1 : List Int) (u125001 : Value), v9 = .int .i64 x9_1 ∧ Aside0 (r02change.l0 kq a2 x9_1 a1_0 a1_1 t120 x125001_1 = some (r1, r2, r3)) ∧ Aside0 (kq ≤ k) ∧ Aside0 (Kd.R (Kd.int .u64) 55 w' w.heap.size (fun _ => True) u125001 x125001_1) ∧ Aside0 (w'.heap[gb115]? = some (.cells #[.int .i64 a0_0, (.slice A0_1 l0_1.length c0_1)] 24 (0, 0))) ∧ Aside0 (w'.heap[gb116]? = some (.cells #[.int .i64 a1_0, .int .i64 a1_1] 26 (0, 0))) ∧ Aside0 (w'.heap[gb117]? = some (.cells #[.int .i64 0, (.slice none 0 0)] 24 (0, 0))) ∧ Aside0 (w'.heap[gb124]? = some (.cells #[.int .i64 t120, u125001] 24 (0, 0))) ∧ Aside0 (Below w.heap.size w w'))
      case atStart => exact ⟨(a1_0), (t121), (.slice Ao27 t121.length co27), (by first | rfl | (simp; done) | (simp [*]; done)), H', ⟨Nat.le_refl _⟩, ⟨by (with_reducible repeat (first | apply Kd.R_alloc | apply Kd.R_drewN | apply Kd.R_drew)); exact Kd.R_mono (Kd.R_far (p := ⟨gb124, 1, none⟩) (Kd.R_far (p := ⟨gb124, 0, none⟩) (Kd.R_types HO123.out BK124.out (by decide)) (fun _ hk => hk.2) (.int .i64 t120)) (fun _ hk => hk.2) (.slice Ao27 t121.length co27)) (fun _ hk => trivial)⟩, ⟨by (with_reducible repeat (first | refine blk_drewN ?_ _ | refine blk_drew ?_ | refine blk_alloc ?_ _)); refine blk_far ?_ NB115_124.out _; (with_reducible repeat (first | refine blk_drewN ?_ _ | refine blk_drew ?_ | refine blk_alloc ?_ _)); refine blk_far ?_ NB115_124.out _; (with_reducible repeat (first | refine blk_drewN ?_ _ | refine blk_drew ?_ | refine blk_alloc ?_ _)); exact BK115.out⟩, ⟨by (with_reducible repeat (first | refine blk_drewN ?_ _ | refine blk_drew ?_ | refine blk_alloc ?_ _)); refine blk_far ?_ NB116_124.out _; (with_reducible repeat (first | refine blk_drewN ?_ _ | refine blk_drew ?_ | refine blk_alloc ?_ _)); refine blk_far ?_ NB116_124.out _; (with_reducible repeat (first | refine blk_drewN ?_ _ | refine blk_drew ?_ | refine blk_alloc ?_ _)); exact BK116.out⟩, ⟨by (with_reducible repeat (first | refine blk_drewN ?_ _ | refine blk_drew ?_ | refine blk_alloc ?_ _)); refine blk_far ?_ NB117_124.out _; (with_reducible repeat (first | refine blk_drewN ?_ _ | refine blk_drew ?_ | refine blk_alloc ?_ _)); refine blk_far ?_ NB117_124.out _; (with_reducible repeat (first | refine blk_drewN ?_ _ | refine blk_drew ?_ | refine blk_alloc ?_ _)); exact BK117.out⟩, ⟨by (with_reducible repeat (first | refine blk_drewN ?_ _ | refine blk_drew ?_ | refine blk_alloc ?_ _)); refine blk_put (cs := #[.int .i64 t120, .slice none 0 0]) ?_ 1 _ rfl; (with_reducible repeat (first | refine blk_drewN ?_ _ | refine blk_drew ?_ | refine blk_alloc ?_ _)); refine blk_put (cs := #[.int .i64 0, .slice none 0 0]) ?_ 0 _ rfl; (with_reducible repeat (first | refine blk_drewN ?_ _ | refine blk_drew ?_ | refine blk_alloc ?_ _)); exact BK124.out⟩, ⟨by repeat (first | (with_reducible first | exact HB.out | apply below_alloc | apply pw_below_drewN | apply below_drew1 | refine below_set ?_ GE115.out | refine below_set ?_ GE116.out | refine below_set ?_ GE117.out | refine below_set ?_ GE124.out) | exact HB.out)⟩⟩
      case round =>
        clear H'
        try clear c1
        try clear c2
        try clear p2
        try clear c4
        try clear c5
        try clear c5b0
        try clear c5b1
        try clear c7
        try clear c12
        try clear c13
        try clear c16
        try clear c21
        try clear c23
        try clear c24
        try clear c25
        try clear hcz14_0
        try clear hcz14_1
        try clear hcz17_0
        try clear hcz17_1
        try clear hcz18_0
        try clear hcz18_1
        try clear hcz20_0
        try clear hcz20_1
        try clear hcz26_0
        try clear hcz26_1
        try clear hcz28_0
        try clear hcz28_1
        try clear hfz14_0
        try clear hfz14_1
        try clear hfz17_0
        try clear hfz17_1
        try clear hfz18_0
        try clear hfz18_1
        try clear hfz20_0
        try clear hfz20_1
        try clear hfz26_0
        try clear hfz26_1
        try clear hfz28_0
        try clear hfz28_1
        obtain ⟨x9_1, x125001_1, u125001, rfl, HA, HK1, HO_125001, BK115, BK116, BK117, BK124, HB⟩ := hrel
        cases gk with
        | zero => exact absurd HA.out (by simp [r02change.l0])
        | succ k1 =>
          have H := HA.out
          clear HA
          simp only [r02change.l0] at H
          by_cases c29 : x9_1 < (wrap64 (a1_0 + a1_1))
          · rw [if_pos c29] at H
            have c29b0 : decide (x9_1 < (wrap64 (a1_0 + a1_1))) = true := decide_eq_true c29
            clear c29
            by_cases c30 : a2 = true
            · subst c30
              have H1 : (if 0 ≤ (wrap64 (Int.tdiv x9_1 64)) then (if (wrap64 (Int.tdiv x9_1 64)) < (x125001_1.length : Int) then (if 0 ≤ (IntKind.u64.wrap (Int.tmod x9_1 64)) then (r02change.l0 k1 true (wrap64 (x9_1 + 1)) a1_0 a1_1 t120 (x125001_1.set ((wrap64 (Int.tdiv x9_1 64)) : Int).toNat (Go.bits .or .u64 (rd x125001_1 (wrap64 (Int.tdiv x9_1 64))) (shl .u64 1 (IntKind.u64.wrap (Int.tmod x9_1 64)))))) else (none)) else (none)) else (none)) = some (r1, r2, r3) := by rw [if_pos rfl] at H; exact H
              clear H
              have H := H1
              clear H1
              obtain ⟨ji31, hji31⟩ : ∃ j_ : Int, (wrap64 (Int.tdiv x9_1 64)) = j_ := ⟨_, rfl⟩
              replace H : (if 0 ≤ (ji31) then (if (ji31) < (x125001_1.length : Int) then (if 0 ≤ (IntKind.u64.wrap (Int.tmod x9_1 64)) then (r02change.l0 k1 true (wrap64 (x9_1 + 1)) a1_0 a1_1 t120 (x125001_1.set ((ji31) : Int).toNat (Go.bits .or .u64 (rd x125001_1 (ji31)) (shl .u64 1 (IntKind.u64.wrap (Int.tmod x9_1 64)))))) else (none)) else (none)) else (none)) = some (r1, r2, r3) := by first | (rw [hji31] at H; exact H) | (simp only [hji31] at H ⊢; exact H)
              have hji31w : (IntKind.i64.wrap (Int.tdiv x9_1 64)) = ji31 := (i64_w _).trans hji31
              by_cases c32 : 0 ≤ (ji31)
              · rw [if_pos c32] at H
                have c32b0 : decide (0 ≤ (ji31)) = true := decide_eq_true c32
                clear c32
                by_cases c33 : (ji31) < (x125001_1.length : Int)
                · rw [if_pos c33] at H
                  have c33b0 : decide ((ji31) < (x125001_1.length : Int)) = true := decide_eq_true c33
                  clear c33
                  obtain ⟨ji34, hji34⟩ : ∃ j_ : Int, (IntKind.u64.wrap (Int.tmod x9_1 64)) = j_ := ⟨_, rfl⟩
                  replace H : (if 0 ≤ (ji34) then (r02change.l0 k1 true (wrap64 (x9_1 + 1)) a1_0 a1_1 t120 (x125001_1.set ((ji31) : Int).toNat (Go.bits .or .u64 (rd x125001_1 (ji31)) (shl .u64 1 (ji34))))) else (none)) = some (r1, r2, r3) := by first | (rw [hji34] at H; exact H) | (simp only [hji34] at H ⊢; exact H)
                  by_cases c35 : 0 ≤ (ji34)
                  · rw [if_pos c35] at H
                    have c35b0 := eq_true c35
                    have c35b1 : decide (0 ≤ (ji34)) = true := decide_eq_true c35
                    clear c35
                    obtain ⟨ji36, hji36⟩ : ∃ j_ : Int, (shl .u64 1 (ji34)) = j_ := ⟨_, rfl⟩
                    replace H : (r02change.l0 k1 true (wrap64 (x9_1 + 1)) a1_0 a1_1 t120 (x125001_1.set ((ji31) : Int).toNat (Go.bits .or .u64 (rd x125001_1 (ji31)) (ji36)))) = some (r1, r2, r3) := by first | (rw [hji36] at H; exact H) | (simp only [hji36] at H ⊢; exact H)
                    have hji36_ : (IntKind.u64.wrap (1 * 2 ^ min (ji34).toNat 64)) = ji36 := hji36
                    have hji36z : (ji34) ≤ 64 → (IntKind.u64.wrap (1 * 2 ^ (ji34).toNat)) = ji36 := shl_small hji36
                    have hji36u : (IntKind.u64.wrap (2 ^ min (ji34).toNat 64)) = ji36 := by have h_ := hji36_; rw [Int.one_mul] at h_; exact h_
                    have hji36v : (ji34) ≤ 64 → (IntKind.u64.wrap (2 ^ (ji34).toNat)) = ji36 := fun hle_ => by have h_ := hji36z hle_; rw [Int.one_mul] at h_; exact h_
                    obtain ⟨y126, hy126⟩ : ∃ y_ : List Int, y_ = (x125001_1.set ((ji31) : Int).toNat (Go.bits .or .u64 (rd x125001_1 (ji31)) (ji36))) := ⟨_, rfl⟩
                    replace H : (r02change.l0 k1 true (wrap64 (x9_1 + 1)) a1_0 a1_1 t120 y126) = some (r1, r2, r3) := by first | (rw [hy126]; with_reducible exact H) | (have H2_ := (Option.bind_some _ _).symm.trans H; rw [hy126]; with_reducible exact H2_) | (have H2_ := (Option.bind_some _ _).symm.trans H; with_reducible exact H2_) | with_reducible exact H | (rw [hy126]; exact H) | exact H
                    have Ny126 := Aside0.mk hy126
                    clear hy126
                    have H' := Aside0.mk H
                    clear H
                    have hnb38 := NB116_115.out
                    have hnc38 := NB115_116.out
                    have hnb39 := NB116_117.out
                    have hnc39 := NB117_116.out
                    have hnb40 := NB116_124.out
                    have hnc40 := NB124_116.out
                    have hcz41_0 : wr.cell? ⟨gb116, 0, none⟩ = some (.int .i64 a1_0) := (blk_cell BK116.out 0).trans rfl
                    have hcz41_1 : wr.cell? ⟨gb116, 1, none⟩ = some (.int .i64 a1_1) := (blk_cell BK116.out 1).trans rfl
                    have hfz41_0 := blk_frozen BK116.out 0
                    have hfz41_1 := blk_frozen BK116.out 1
                    try go_wp2
                    have n0_ := Aside0.mk (Kd.R_drew HO_125001.out)
                    have n1_ := Aside0.mk (blk_drew BK115.out)
                    have n2_ := Aside0.mk (blk_drew BK116.out)
                    have n3_ := Aside0.mk (blk_drew BK117.out)
                    have n4_ := Aside0.mk (blk_drew BK124.out)
                    have n5_ := Aside0.mk (below_drew1 HB.out)
                    clear HO_125001
                    clear BK115
                    clear BK116
                    clear BK117
                    clear BK124
                    clear HB
                    have HO_125001 := n0_
                    have BK115 := n1_
                    have BK116 := n2_
                    have BK117 := n3_
                    have BK124 := n4_
                    have HB := n5_
                    clear n0_ n1_ n2_ n3_ n4_ n5_
                    obtain ⟨Ao43, co43, eo43⟩ := Kd.R_slice HO_125001.out
                    (first | subst eo43 | (injection eo43 with f1_ f2_ f3_; have f4_ := f1_.symm; have f5_ := f3_.symm; clear f1_ f2_ f3_; subst f4_; subst f5_))
                    have p125 : 0 ≤ ((ji31) : Int) := of_decide_eq_true (by first | (with_reducible assumption) | assumption)
                    have q125 : (ji31) < (x125001_1.length : Int) := of_decide_eq_true (by first | (with_reducible assumption) | assumption)
                    obtain ⟨ad125, e125, hx125_0⟩ := Kd.at_int (Kd.R_reads' HO_125001.out).2.2 (ji31) p125 q125
                    cases e125
                    replace p125 := eq_true p125
                    replace q125 := eq_true q125
                    have p37 : 0 ≤ ((ji31) : Int) := of_decide_eq_true (by first | (with_reducible assumption) | assumption)
                    have q37 : ((ji31) : Int) < ((x125001_1.length : Int) : Int) := of_decide_eq_true (by first | (with_reducible assumption) | assumption)
                    obtain ⟨go37, co37, eo37, gb37, gl37, cl37, HG37⟩ := Kd.R_form HO_125001.out (by omega)
                    (first | cases eo37 | (injection eo37 with ea_ en_ ec_; (first | subst ea_ | (injection ea_ with ea_; subst ea_)); subst ec_; clear en_))
                    have GB37 := Aside0.mk gb37
                    have GG37 := Aside0.mk HG37
                    clear gb37 gl37 HG37
                    (first | simp only [add_plain] at hx125_0 | skip)
                    obtain ⟨hx37_0, hf37_0⟩ := Kd.R_celln 0 HO_125001.out ((ji31) : Int) p37 q37
                    replace p37 := eq_true p37
                    replace q37 := eq_true q37
                    have HP44 := Kd.R_putn HO_125001.out ((ji31) : Int) (Go.bits .or .u64 (rd x125001_1 (ji31)) (ji36))
                    rw [← Ny126.out] at HP44
                    have HQ44 := Aside0.mk HP44
                    clear HP44
                    refine start_ (n := 17) (S := fun w' => w'.cell? ⟨gb124, 0, none⟩ = some (.int .i64 t120) ∧ w'.cell? ⟨gb124, 1, none⟩ = some (.slice (some ⟨go37, 0, none⟩) x125001_1.length co43) ∧ w'.cell? ⟨go37, ((ji31)).toNat, none⟩ = some (.int .u64 (rd x125001_1 (ji31)))) (ds := [16]) #[false, false, false, false, false, false, false, false, false, false, false, false, false, false, false, false, false] (by kernel_rfl) rfl rfl ⟨(blk_cell BK124.out 0).trans rfl, (blk_cell BK124.out 1).trans rfl, hx125_0⟩ (fun hHeld => ?_); refine with_tabW r02change.tab10 r02change.bits10 (fun HT_ HW_ => ?_)
                    generalize wr.drew = w42 at HO_125001 BK115 BK116 BK117 BK124 HB GG37 HQ44 hf37_0 hx125_0 hx37_0 hHeld ⊢
                    refine pure_ (i := 0) (N := some 34) (v := ?_) (a' := ?_) #[true, false, false, false, false, false, false, false, false, false, false, false, false, false, false, false, false] rfl rfl (any_of HT_.out (by kernel_rfl)) (fun _ _ _ h => h) (Or.inl ⟨by rfl, ?_⟩) ?_ ?_
                    rotate_left
                    · intro w'
                      go_simp
                      with_reducible rfl
                    rotate_left
                    · simp only [Act.put, List.setIfInBounds_toArray, List.set_cons_zero, List.set_cons_succ, i64_w, i32_w]
                      rfl
                    refine pure_ (i := 2) (N := some 36) (v := ?_) (a' := ?_) #[true, false, true, false, false, false, false, false, false, false, false, false, false, false, false, false, false] rfl rfl (any_of HT_.out (by kernel_rfl)) (fun _ _ _ h => h) (Or.inl ⟨by rfl, ?_⟩) ?_ ?_
                    rotate_left
                    · intro w'
                      go_simp
                      with_reducible rfl
                    rotate_left
                    · simp only [Act.put, List.setIfInBounds_toArray, List.set_cons_zero, List.set_cons_succ, i64_w, i32_w]
                      rfl
                    refine pure_ (i := 3) (N := some 37) (v := ?_) (a' := ?_) #[true, false, true, true, false, false, false, false, false, false, false, false, false, false, false, false, false] rfl rfl (any_of HT_.out (by kernel_rfl)) (fun _ _ _ h => h) (Or.inl ⟨by rfl, ?_⟩) ?_ ?_
                    rotate_left
                    · intro w'
                      go_simp
                      with_reducible rfl
                    rotate_left
                    · simp only [Act.put, List.setIfInBounds_toArray, List.set_cons_zero, List.set_cons_succ, i64_w, i32_w]
                      rfl
                    refine pure_ (i := 4) (N := some 38) (v := ?_) (a' := ?_) #[true, false, true, true, true, false, false, false, false, false, false, false, false, false, false, false, false] rfl rfl (any_of HT_.out (by kernel_rfl)) (fun _ _ _ h => h) (Or.inl ⟨by rfl, ?_⟩) ?_ ?_
                    rotate_left
                    · intro w'
                      go_simp
                      with_reducible rfl
                    rotate_left
                    · simp only [Act.put, List.setIfInBounds_toArray, List.set_cons_zero, List.set_cons_succ, i64_w, i32_w]
                      rfl
                    refine pure_ (i := 6) (N := some 40) (v := ?_) (a' := ?_) #[true, false, true, true, true, false, true, false, false, false, false, false, false, false, false, false, false] rfl rfl (any_of HT_.out (by kernel_rfl)) (fun _ _ _ h => h) (Or.inl ⟨by rfl, ?_⟩) ?_ ?_
                    rotate_left
                    · intro w'
                      go_simp
                      with_reducible rfl
                    rotate_left
                    · simp only [Act.put, List.setIfInBounds_toArray, List.set_cons_zero, List.set_cons_succ, i64_w, i32_w]
                      rfl
                    refine pure_ (i := 7) (N := some 41) (v := ?_) (a' := ?_) #[true, false, true, true, true, false, true, true, false, false, false, false, false, false, false, false, false] rfl rfl (any_of HT_.out (by kernel_rfl)) (fun _ _ _ h => h) (Or.inl ⟨by rfl, ?_⟩) ?_ ?_
                    rotate_left
                    · intro w'
                      go_simp
                      with_reducible rfl
                    rotate_left
                    · simp only [Act.put, List.setIfInBounds_toArray, List.set_cons_zero, List.set_cons_succ, i64_w, i32_w]
                      rfl
                    refine pure_ (i := 10) (N := some 44) (v := ?_) (a' := ?_) #[true, false, true, true, true, false, true, true, false, false, true, false, false, false, false, false, false] rfl rfl (any_of HT_.out (by kernel_rfl)) (fun _ _ _ h => h) (Or.inl ⟨by rfl, ?_⟩) ?_ ?_
                    rotate_left
                    · intro w'
                      go_simp
                      with_reducible rfl
                    rotate_left
                    · simp only [Act.put, List.setIfInBounds_toArray, List.set_cons_zero, List.set_cons_succ, i64_w, i32_w]
                      rfl
                    refine pure_ (i := 11) (N := some 45) (v := ?_) (a' := ?_) #[true, false, true, true, true, false, true, true, false, false, true, true, false, false, false, false, false] rfl rfl (any_of HT_.out (by kernel_rfl)) (fun _ _ _ h => h) (Or.inl ⟨by rfl, ?_⟩) ?_ ?_
                    rotate_left
                    · intro w'
                      go_simp
                      with_reducible rfl
                    rotate_left
                    · simp only [Act.put, List.setIfInBounds_toArray, List.set_cons_zero, List.set_cons_succ, i64_w, i32_w]
                      rfl
                    refine pure_ (i := 12) (N := some 46) (v := ?_) (a' := ?_) #[true, false, true, true, true, false, true, true, false, false, true, true, true, false, false, false, false] rfl rfl (any_of HT_.out (by kernel_rfl)) (fun _ _ _ h => h) (Or.inl ⟨by rfl, ?_⟩) ?_ ?_
                    rotate_left
                    · intro w'
                      go_simp
                      with_reducible rfl
                    rotate_left
                    · simp only [Act.put, List.setIfInBounds_toArray, List.set_cons_zero, List.set_cons_succ, i64_w, i32_w]
                      rfl
                    refine pure_ (i := 13) (N := some 47) (v := ?_) (a' := ?_) #[true, false, true, true, true, false, true, true, false, false, true, true, true, true, false, false, false] rfl rfl (any_of HT_.out (by kernel_rfl)) (fun _ _ _ h => h) (Or.inl ⟨by rfl, ?_⟩) ?_ ?_
                    rotate_left
                    · intro w'
                      go_simp
                      with_reducible rfl
                    rotate_left
                    · simp only [Act.put, List.setIfInBounds_toArray, List.set_cons_zero, List.set_cons_succ, i64_w, i32_w]
                      rfl
                    refine take_ (i := 1) (N := some 35) (v := ?_) (a' := ?_) #[true, true, true, true, true, false, true, true, false, false, true, true, true, true, false, false, false] rfl rfl (take_ofW HT_.out HW_.out (by kernel_rfl)) (fun _ _ _ h => h) (Or.inl ⟨by rfl, ?_⟩) hHeld ?_ ?_
                    rotate_left
                    · rintro w' ⟨s0, s1, s2⟩
                      go_simp
                      with_reducible rfl
                    rotate_left
                    · simp only [Act.put, List.setIfInBounds_toArray, List.set_cons_zero, List.set_cons_succ, i64_w, i32_w]
                      rfl
                    refine take_ (i := 5) (N := some 39) (v := ?_) (a' := ?_) #[true, true, true, true, true, true, true, true, false, false, true, true, true, true, false, false, false] rfl rfl (take_ofW HT_.out HW_.out (by kernel_rfl)) (fun _ _ _ h => h) (Or.inl ⟨by rfl, ?_⟩) hHeld ?_ ?_
                    rotate_left
                    · rintro w' ⟨s0, s1, s2⟩
                      go_simp
                      with_reducible rfl
                    rotate_left
                    · simp only [Act.put, List.setIfInBounds_toArray, List.set_cons_zero, List.set_cons_succ, i64_w, i32_w]
                      rfl
                    refine pure_ (i := 8) (N := some 42) (v := ?_) (a' := ?_) #[true, true, true, true, true, true, true, true, true, false, true, true, true, true, false, false, false] rfl rfl (any_of HT_.out (by kernel_rfl)) (fun _ _ _ h => h) (Or.inl ⟨by rfl, ?_⟩) ?_ ?_
                    rotate_left
                    · intro w'
                      go_simp
                      with_reducible rfl
                    rotate_left
                    · simp only [Act.put, List.setIfInBounds_toArray, List.set_cons_zero, List.set_cons_succ, i64_w, i32_w]
                      rfl
                    refine take_ (i := 9) (N := some 43) (v := ?_) (a' := ?_) #[true, true, true, true, true, true, true, true, true, true, true, true, true, true, false, false, false] rfl rfl (take_ofW HT_.out HW_.out (by kernel_rfl)) (fun _ _ _ h => h) (Or.inl ⟨by rfl, ?_⟩) hHeld ?_ ?_
                    rotate_left
                    · rintro w' ⟨s0, s1, s2⟩
                      go_simp
                      with_reducible rfl
                    rotate_left
                    · simp only [Act.put, List.setIfInBounds_toArray, List.set_cons_zero, List.set_cons_succ, i64_w, i32_w]
                      rfl
                    refine pure_ (i := 14) (N := some 48) (v := ?_) (a' := ?_) #[true, true, true, true, true, true, true, true, true, true, true, true, true, true, true, false, false] rfl rfl (any_of HT_.out (by kernel_rfl)) (fun _ _ _ h => h) (Or.inl ⟨by rfl, ?_⟩) ?_ ?_
                    rotate_left
                    · intro w'
                      go_simp
                      with_reducible rfl
                    rotate_left
                    · simp only [Act.put, List.setIfInBounds_toArray, List.set_cons_zero, List.set_cons_succ, i64_w, i32_w]
                      rfl
                    refine pure_ (i := 15) (N := some 49) (v := ?_) (a' := ?_) #[true, true, true, true, true, true, true, true, true, true, true, true, true, true, true, true, false] rfl rfl (any_of HT_.out (by kernel_rfl)) (fun _ _ _ h => h) (Or.inl ⟨by rfl, ?_⟩) ?_ ?_
                    rotate_left
                    · intro w'
                      go_simp
                      with_reducible rfl
                    rotate_left
                    · simp only [Act.put, List.setIfInBounds_toArray, List.set_cons_zero, List.set_cons_succ, i64_w, i32_w]
                      rfl
                    refine last_ (i := 16) (N := none) #[true, true, true, true, true, true, true, true, true, true, true, true, true, true, true, true, true] rfl rfl (one_of HT_.out (by kernel_rfl)) (by decide) (fun K hK => ?_)
                    refine skip_ (w1 := ?_) (by rfl) rfl ?_ ?_
                    rotate_left
                    · go_simp
                      rfl
                    refine hK.out _ _ ?_
                    clear hK K
                    refine done_ (done_of HT_.out (by kernel_rfl)) ?_
                    try go_wp2
                    go_roundg k1
                    case measure => have := HK1.out; omega
                    case rel => exact ⟨(wrap64 (x9_1 + 1)), (y126), (.slice (some ⟨go37, 0, none⟩) x125001_1.length co43), (by first | rfl | (simp; done) | (simp [*]; done)), H', ⟨by have := HK1.out; omega⟩, ⟨by (with_reducible repeat (first | apply Kd.R_alloc | apply Kd.R_drewN | apply Kd.R_drew)); exact HQ44.out⟩, ⟨by (with_reducible repeat (first | refine blk_drewN ?_ _ | refine blk_drew ?_ | refine blk_alloc ?_ _)); refine blk_far ?_ (by have h_ := Kd.R_ne HO_125001.out BK115.out (by decide); intro e_; exact h_ (by rw [e_]; rfl)) _; (with_reducible repeat (first | refine blk_drewN ?_ _ | refine blk_drew ?_ | refine blk_alloc ?_ _)); exact BK115.out⟩, ⟨by (with_reducible repeat (first | refine blk_drewN ?_ _ | refine blk_drew ?_ | refine blk_alloc ?_ _)); refine blk_far ?_ (by have h_ := Kd.R_ne HO_125001.out BK116.out (by decide); intro e_; exact h_ (by rw [e_]; rfl)) _; (with_reducible repeat (first | refine blk_drewN ?_ _ | refine blk_drew ?_ | refine blk_alloc ?_ _)); exact BK116.out⟩, ⟨by (with_reducible repeat (first | refine blk_drewN ?_ _ | refine blk_drew ?_ | refine blk_alloc ?_ _)); refine blk_far ?_ (by have h_ := Kd.R_ne HO_125001.out BK117.out (by decide); intro e_; exact h_ (by rw [e_]; rfl)) _; (with_reducible repeat (first | refine blk_drewN ?_ _ | refine blk_drew ?_ | refine blk_alloc ?_ _)); exact BK117.out⟩, ⟨by (with_reducible repeat (first | refine blk_drewN ?_ _ | refine blk_drew ?_ | refine blk_alloc ?_ _)); refine blk_far ?_ (by have h_ := Kd.R_ne HO_125001.out BK124.out (by decide); intro e_; exact h_ (by rw [e_]; rfl)) _; (with_reducible repeat (first | refine blk_drewN ?_ _ | refine blk_drew ?_ | refine blk_alloc ?_ _)); exact BK124.out⟩, ⟨by repeat (first | (with_reducible first | exact HB.out | apply below_alloc | apply pw_below_drewN | apply below_drew1 | refine below_set ?_ GB37.out | refine below_set ?_ GE115.out | refine below_set ?_ GE116.out | refine below_set ?_ GE117.out | refine below_set ?_ GE124.out) | exact HB.out)⟩⟩
                  · rw [if_neg c35] at H
                    exact absurd H (by simp)
                · rw [if_neg c33] at H
                  exact absurd H (by simp)
              · rw [if_neg c32] at H
                exact absurd H (by simp)
            · replace c30 := Bool.eq_false_iff.mpr c30
              subst c30
              have H1 : (if 0 ≤ (wrap64 (Int.tdiv x9_1 64)) then (if (wrap64 (Int.tdiv x9_1 64)) < (x125001_1.length : Int) then (if 0 ≤ (IntKind.u64.wrap (Int.tmod x9_1 64)) then (r02change.l0 k1 false (wrap64 (x9_1 + 1)) a1_0 a1_1 t120 (x125001_1.set ((wrap64 (Int.tdiv x9_1 64)) : Int).toNat (Go.bits .andNot .u64 (rd x125001_1 (wrap64 (Int.tdiv x9_1 64))) (shl .u64 1 (IntKind.u64.wrap (Int.tmod x9_1 64)))))) else (none)) else (none)) else (none)) = some (r1, r2, r3) := by rw [if_neg (show ¬ (false = true) by decide)] at H; exact H
              clear H
              have H := H1
              clear H1
              obtain ⟨ji45, hji45⟩ : ∃ j_ : Int, (wrap64 (Int.tdiv x9_1 64)) = j_ := ⟨_, rfl⟩
              replace H : (if 0 ≤ (ji45) then (if (ji45) < (x125001_1.length : Int) then (if 0 ≤ (IntKind.u64.wrap (Int.tmod x9_1 64)) then (r02change.l0 k1 false (wrap64 (x9_1 + 1)) a1_0 a1_1 t120 (x125001_1.set ((ji45) : Int).toNat (Go.bits .andNot .u64 (rd x125001_1 (ji45)) (shl .u64 1 (IntKind.u64.wrap (Int.tmod x9_1 64)))))) else (none)) else (none)) else (none)) = some (r1, r2, r3) := by first | (rw [hji45] at H; exact H) | (simp only [hji45] at H ⊢; exact H)
              have hji45w : (IntKind.i64.wrap (Int.tdiv x9_1 64)) = ji45 := (i64_w _).trans hji45
              by_cases c46 : 0 ≤ (ji45)
              · rw [if_pos c46] at H
                have c46b0 : decide (0 ≤ (ji45)) = true := decide_eq_true c46
                clear c46
                by_cases c47 : (ji45) < (x125001_1.length : Int)
                · rw [if_pos c47] at H
                  have c47b0 : decide ((ji45) < (x125001_1.length : Int)) = true := decide_eq_true c47
                  clear c47
                  obtain ⟨ji48, hji48⟩ : ∃ j_ : Int, (IntKind.u64.wrap (Int.tmod x9_1 64)) = j_ := ⟨_, rfl⟩
                  replace H : (if 0 ≤ (ji48) then (r02change.l0 k1 false (wrap64 (x9_1 + 1)) a1_0 a1_1 t120 (x125001_1.set ((ji45) : Int).toNat (Go.bits .andNot .u64 (rd x125001_1 (ji45)) (shl .u64 1 (ji48))))) else (none)) = some (r1, r2, r3) := by first | (rw [hji48] at H; exact H) | (simp only [hji48] at H ⊢; exact H)
                  by_cases c49 : 0 ≤ (ji48)
                  · rw [if_pos c49] at H
                    have c49b0 := eq_true c49
                    have c49b1 : decide (0 ≤ (ji48)) = true := decide_eq_true c49
                    clear c49
                    obtain ⟨ji50, hji50⟩ : ∃ j_ : Int, (shl .u64 1 (ji48)) = j_ := ⟨_, rfl⟩
                    replace H : (r02change.l0 k1 false (wrap64 (x9_1 + 1)) a1_0 a1_1 t120 (x125001_1.set ((ji45) : Int).toNat (Go.bits .andNot .u64 (rd x125001_1 (ji45)) (ji50)))) = some (r1, r2, r3) := by first | (rw [hji50] at H; exact H) | (simp only [hji50] at H ⊢; exact H)
                    have hji50_ : (IntKind.u64.wrap (1 * 2 ^ min (ji48).toNat 64)) = ji50 := hji50
                    have hji50z : (ji48) ≤ 64 → (IntKind.u64.wrap (1 * 2 ^ (ji48).toNat)) = ji50 := shl_small hji50
                    have hji50u : (IntKind.u64.wrap (2 ^ min (ji48).toNat 64)) = ji50 := by have h_ := hji50_; rw [Int.one_mul] at h_; exact h_
                    have hji50v : (ji48) ≤ 64 → (IntKind.u64.wrap (2 ^ (ji48).toNat)) = ji50 := fun hle_ => by have h_ := hji50z hle_; rw [Int.one_mul] at h_; exact h_
                    obtain ⟨y128, hy128⟩ : ∃ y_ : List Int, y_ = (x125001_1.set ((ji45) : Int).toNat (Go.bits .andNot .u64 (rd x125001_1 (ji45)) (ji50))) := ⟨_, rfl⟩
                    replace H : (r02change.l0 k1 false (wrap64 (x9_1 + 1)) a1_0 a1_1 t120 y128) = some (r1, r2, r3) := by first | (rw [hy128]; with_reducible exact H) | (have H2_ := (Option.bind_some _ _).symm.trans H; rw [hy128]; with_reducible exact H2_) | (have H2_ := (Option.bind_some _ _).symm.trans H; with_reducible exact H2_) | with_reducible exact H | (rw [hy128]; exact H) | exact H
                    have Ny128 := Aside0.mk hy128
                    clear hy128
                    have H' := Aside0.mk H
                    clear H
                    have hnb52 := NB116_115.out
                    have hnc52 := NB115_116.out
                    have hnb53 := NB116_117.out
                    have hnc53 := NB117_116.out
                    have hnb54 := NB116_124.out
                    have hnc54 := NB124_116.out
                    have hcz55_0 : wr.cell? ⟨gb116, 0, none⟩ = some (.int .i64 a1_0) := (blk_cell BK116.out 0).trans rfl
                    have hcz55_1 : wr.cell? ⟨gb116, 1, none⟩ = some (.int .i64 a1_1) := (blk_cell BK116.out 1).trans rfl
                    have hfz55_0 := blk_frozen BK116.out 0
                    have hfz55_1 := blk_frozen BK116.out 1
                    try go_wp2
                    have n0_ := Aside0.mk (Kd.R_drew HO_125001.out)
                    have n1_ := Aside0.mk (blk_drew BK115.out)
                    have n2_ := Aside0.mk (blk_drew BK116.out)
                    have n3_ := Aside0.mk (blk_drew BK117.out)
                    have n4_ := Aside0.mk (blk_drew BK124.out)
                    have n5_ := Aside0.mk (below_drew1 HB.out)
                    clear HO_125001
                    clear BK115
                    clear BK116
                    clear BK117
                    clear BK124
                    clear HB
                    have HO_125001 := n0_
                    have BK115 := n1_
                    have BK116 := n2_
                    have BK117 := n3_
                    have BK124 := n4_
                    have HB := n5_
                    clear n0_ n1_ n2_ n3_ n4_ n5_
                    obtain ⟨Ao57, co57, eo57⟩ := Kd.R_slice HO_125001.out
                    (first | subst eo57 | (injection eo57 with f1_ f2_ f3_; have f4_ := f1_.symm; have f5_ := f3_.symm; clear f1_ f2_ f3_; subst f4_; subst f5_))
                    have p127 : 0 ≤ ((ji45) : Int) := of_decide_eq_true (by first | (with_reducible assumption) | assumption)
                    have q127 : (ji45) < (x125001_1.length : Int) := of_decide_eq_true (by first | (with_reducible assumption) | assumption)
                    obtain ⟨ad127, e127, hx127_0⟩ := Kd.at_int (Kd.R_reads' HO_125001.out).2.2 (ji45) p127 q127
                    cases e127
                    replace p127 := eq_true p127
                    replace q127 := eq_true q127
                    have p51 : 0 ≤ ((ji45) : Int) := of_decide_eq_true (by first | (with_reducible assumption) | assumption)
                    have q51 : ((ji45) : Int) < ((x125001_1.length : Int) : Int) := of_decide_eq_true (by first | (with_reducible assumption) | assumption)
                    obtain ⟨go51, co51, eo51, gb51, gl51, cl51, HG51⟩ := Kd.R_form HO_125001.out (by omega)
                    (first | cases eo51 | (injection eo51 with ea_ en_ ec_; (first | subst ea_ | (injection ea_ with ea_; subst ea_)); subst ec_; clear en_))
                    have GB51 := Aside0.mk gb51
                    have GG51 := Aside0.mk HG51
                    clear gb51 gl51 HG51
                    (first | simp only [add_plain] at hx127_0 | skip)
                    obtain ⟨hx51_0, hf51_0⟩ := Kd.R_celln 0 HO_125001.out ((ji45) : Int) p51 q51
                    replace p51 := eq_true p51
                    replace q51 := eq_true q51
                    have HP58 := Kd.R_putn HO_125001.out ((ji45) : Int) (Go.bits .andNot .u64 (rd x125001_1 (ji45)) (ji50))
                    rw [← Ny128.out] at HP58
                    have HQ58 := Aside0.mk HP58
                    clear HP58
                    refine start_ (n := 17) (S := fun w' => w'.cell? ⟨gb124, 0, none⟩ = some (.int .i64 t120) ∧ w'.cell? ⟨gb124, 1, none⟩ = some (.slice (some ⟨go51, 0, none⟩) x125001_1.length co57) ∧ w'.cell? ⟨go51, ((ji45)).toNat, none⟩ = some (.int .u64 (rd x125001_1 (ji45)))) (ds := [16]) #[false, false, false, false, false, false, false, false, false, false, false, false, false, false, false, false, false] (by kernel_rfl) rfl rfl ⟨(blk_cell BK124.out 0).trans rfl, (blk_cell BK124.out 1).trans rfl, hx127_0⟩ (fun hHeld => ?_); refine with_tabW r02change.tab11 r02change.bits11 (fun HT_ HW_ => ?_)
                    generalize wr.drew = w56 at HO_125001 BK115 BK116 BK117 BK124 HB GG51 HQ58 hf51_0 hx127_0 hx51_0 hHeld ⊢
                    refine pure_ (i := 0) (N := some 50) (v := ?_) (a' := ?_) #[true, false, false, false, false, false, false, false, false, false, false, false, false, false, false, false, false] rfl rfl (any_of HT_.out (by kernel_rfl)) (fun _ _ _ h => h) (Or.inl ⟨by rfl, ?_⟩) ?_ ?_
                    rotate_left
                    · intro w'
                      go_simp
                      with_reducible rfl
                    rotate_left
                    · simp only [Act.put, List.setIfInBounds_toArray, List.set_cons_zero, List.set_cons_succ, i64_w, i32_w]
                      rfl
                    refine pure_ (i := 2) (N := some 52) (v := ?_) (a' := ?_) #[true, false, true, false, false, false, false, false, false, false, false, false, false, false, false, false, false] rfl rfl (any_of HT_.out (by kernel_rfl)) (fun _ _ _ h => h) (Or.inl ⟨by rfl, ?_⟩) ?_ ?_
                    rotate_left
                    · intro w'
                      go_simp
                      with_reducible rfl
                    rotate_left
                    · simp only [Act.put, List.setIfInBounds_toArray, List.set_cons_zero, List.set_cons_succ, i64_w, i32_w]
                      rfl
                    refine pure_ (i := 3) (N := some 53) (v := ?_) (a' := ?_) #[true, false, true, true, false, false, false, false, false, false, false, false, false, false, false, false, false] rfl rfl (any_of HT_.out (by kernel_rfl)) (fun _ _ _ h => h) (Or.inl ⟨by rfl, ?_⟩) ?_ ?_
                    rotate_left
                    · intro w'
                      go_simp
                      with_reducible rfl
                    rotate_left
                    · simp only [Act.put, List.setIfInBounds_toArray, List.set_cons_zero, List.set_cons_succ, i64_w, i32_w]
                      rfl
                    refine pure_ (i := 4) (N := some 54) (v := ?_) (a' := ?_) #[true, false, true, true, true, false, false, false, false, false, false, false, false, false, false, false, false] rfl rfl (any_of HT_.out (by kernel_rfl)) (fun _ _ _ h => h) (Or.inl ⟨by rfl, ?_⟩) ?_ ?_
                    rotate_left
                    · intro w'
                      go_simp
                      with_reducible rfl
                    rotate_left
                    · simp only [Act.put, List.setIfInBounds_toArray, List.set_cons_zero, List.set_cons_succ, i64_w, i32_w]
                      rfl
                    refine pure_ (i := 6) (N := some 56) (v := ?_) (a' := ?_) #[true, false, true, true, true, false, true, false, false, false, false, false, false, false, false, false, false] rfl rfl (any_of HT_.out (by kernel_rfl)) (fun _ _ _ h => h) (Or.inl ⟨by rfl, ?_⟩) ?_ ?_
                    rotate_left
                    · intro w'
                      go_simp
                      with_reducible rfl
                    rotate_left
                    · simp only [Act.put, List.setIfInBounds_toArray, List.set_cons_zero, List.set_cons_succ, i64_w, i32_w]
                      rfl
                    refine pure_ (i := 7) (N := some 57) (v := ?_) (a' := ?_) #[true, false, true, true, true, false, true, true, false, false, false, false, false, false, false, false, false] rfl rfl (any_of HT_.out (by kernel_rfl)) (fun _ _ _ h => h) (Or.inl ⟨by rfl, ?_⟩) ?_ ?_
                    rotate_left
                    · intro w'
                      go_simp
                      with_reducible rfl
                    rotate_left
                    · simp only [Act.put, List.setIfInBounds_toArray, List.set_cons_zero, List.set_cons_succ, i64_w, i32_w]
                      rfl
                    refine pure_ (i := 10) (N := some 60) (v := ?_) (a' := ?_) #[true, false, true, true, true, false, true, true, false, false, true, false, false, false, false, false, false] rfl rfl (any_of HT_.out (by kernel_rfl)) (fun _ _ _ h => h) (Or.inl ⟨by rfl, ?_⟩) ?_ ?_
                    rotate_left
                    · intro w'
                      go_simp
                      with_reducible rfl
                    rotate_left
                    · simp only [Act.put, List.setIfInBounds_toArray, List.set_cons_zero, List.set_cons_succ, i64_w, i32_w]
                      rfl
                    refine pure_ (i := 11) (N := some 61) (v := ?_) (a' := ?_) #[true, false, true, true, true, false, true, true, false, false, true, true, false, false, false, false, false] rfl rfl (any_of HT_.out (by kernel_rfl)) (fun _ _ _ h => h) (Or.inl ⟨by rfl, ?_⟩) ?_ ?_
                    rotate_left
                    · intro w'
                      go_simp
                      with_reducible rfl
                    rotate_left
                    · simp only [Act.put, List.setIfInBounds_toArray, List.set_cons_zero, List.set_cons_succ, i64_w, i32_w]
                      rfl
                    refine pure_ (i := 12) (N := some 62) (v := ?_) (a' := ?_) #[true, false, true, true, true, false, true, true, false, false, true, true, true, false, false, false, false] rfl rfl (any_of HT_.out (by kernel_rfl)) (fun _ _ _ h => h) (Or.inl ⟨by rfl, ?_⟩) ?_ ?_
                    rotate_left
                    · intro w'
                      go_simp
                      with_reducible rfl
                    rotate_left
                    · simp only [Act.put, List.setIfInBounds_toArray, List.set_cons_zero, List.set_cons_succ, i64_w, i32_w]
                      rfl
                    refine pure_ (i := 13) (N := some 63) (v := ?_) (a' := ?_) #[true, false, true, true, true, false, true, true, false, false, true, true, true, true, false, false, false] rfl rfl (any_of HT_.out (by kernel_rfl)) (fun _ _ _ h => h) (Or.inl ⟨by rfl, ?_⟩) ?_ ?_
                    rotate_left
                    · intro w'
                      go_simp
                      with_reducible rfl
                    rotate_left
                    · simp only [Act.put, List.setIfInBounds_toArray, List.set_cons_zero, List.set_cons_succ, i64_w, i32_w]
                      rfl
                    refine take_ (i := 1) (N := some 51) (v := ?_) (a' := ?_) #[true, true, true, true, true, false, true, true, false, false, true, true, true, true, false, false, false] rfl rfl (take_ofW HT_.out HW_.out (by kernel_rfl)) (fun _ _ _ h => h) (Or.inl ⟨by rfl, ?_⟩) hHeld ?_ ?_
                    rotate_left
                    · rintro w' ⟨s0, s1, s2⟩
                      go_simp
                      with_reducible rfl
                    rotate_left
                    · simp only [Act.put, List.setIfInBounds_toArray, List.set_cons_zero, List.set_cons_succ, i64_w, i32_w]
                      rfl
                    refine take_ (i := 5) (N := some 55) (v := ?_) (a' := ?_) #[true, true, true, true, true, true, true, true, false, false, true, true, true, true, false, false, false] rfl rfl (take_ofW HT_.out HW_.out (by kernel_rfl)) (fun _ _ _ h => h) (Or.inl ⟨by rfl, ?_⟩) hHeld ?_ ?_
                    rotate_left
                    · rintro w' ⟨s0, s1, s2⟩
                      go_simp
                      with_reducible rfl
                    rotate_left
                    · simp only [Act.put, List.setIfInBounds_toArray, List.set_cons_zero, List.set_cons_succ, i64_w, i32_w]
                      rfl
                    refine pure_ (i := 8) (N := some 58) (v := ?_) (a' := ?_) #[true, true, true, true, true, true, true, true, true, false, true, true, true, true, false, false, false] rfl rfl (any_of HT_.out (by kernel_rfl)) (fun _ _ _ h => h) (Or.inl ⟨by rfl, ?_⟩) ?_ ?_
                    rotate_left
                    · intro w'
                      go_simp
                      with_reducible rfl
                    rotate_left
                    · simp only [Act.put, List.setIfInBounds_toArray, List.set_cons_zero, List.set_cons_succ, i64_w, i32_w]
                      rfl
                    refine take_ (i := 9) (N := some 59) (v := ?_) (a' := ?_) #[true, true, true, true, true, true, true, true, true, true, true, true, true, true, false, false, false] rfl rfl (take_ofW HT_.out HW_.out (by kernel_rfl)) (fun _ _ _ h => h) (Or.inl ⟨by rfl, ?_⟩) hHeld ?_ ?_
                    rotate_left
                    · rintro w' ⟨s0, s1, s2⟩
                      go_simp
                      with_reducible rfl
                    rotate_left
                    · simp only [Act.put, List.setIfInBounds_toArray, List.set_cons_zero, List.set_cons_succ, i64_w, i32_w]
                      rfl
                    refine pure_ (i := 14) (N := some 64) (v := ?_) (a' := ?_) #[true, true, true, true, true, true, true, true, true, true, true, true, true, true, true, false, false] rfl rfl (any_of HT_.out (by kernel_rfl)) (fun _ _ _ h => h) (Or.inl ⟨by rfl, ?_⟩) ?_ ?_
                    rotate_left
                    · intro w'
                      go_simp
                      with_reducible rfl
                    rotate_left
                    · simp only [Act.put, List.setIfInBounds_toArray, List.set_cons_zero, List.set_cons_succ, i64_w, i32_w]
                      rfl
                    refine pure_ (i := 15) (N := some 65) (v := ?_) (a' := ?_) #[true, true, true, true, true, true, true, true, true, true, true, true, true, true, true, true, false] rfl rfl (any_of HT_.out (by kernel_rfl)) (fun _ _ _ h => h) (Or.inl ⟨by rfl, ?_⟩) ?_ ?_
                    rotate_left
                    · intro w'
                      go_simp
                      with_reducible rfl
                    rotate_left
                    · simp only [Act.put, List.setIfInBounds_toArray, List.set_cons_zero, List.set_cons_succ, i64_w, i32_w]
                      rfl
                    refine last_ (i := 16) (N := none) #[true, true, true, true, true, true, true, true, true, true, true, true, true, true, true, true, true] rfl rfl (one_of HT_.out (by kernel_rfl)) (by decide) (fun K hK => ?_)
                    refine skip_ (w1 := ?_) (by rfl) rfl ?_ ?_
                    rotate_left
                    · go_simp
                      rfl
                    refine hK.out _ _ ?_
                    clear hK K
                    refine done_ (done_of HT_.out (by kernel_rfl)) ?_
                    try go_wp2
                    go_roundg k1
                    case measure => have := HK1.out; omega
                    case rel => exact ⟨(wrap64 (x9_1 + 1)), (y128), (.slice (some ⟨go51, 0, none⟩) x125001_1.length co57), (by first | rfl | (simp; done) | (simp [*]; done)), H', ⟨by have := HK1.out; omega⟩, ⟨by (with_reducible repeat (first | apply Kd.R_alloc | apply Kd.R_drewN | apply Kd.R_drew)); exact HQ58.out⟩, ⟨by (with_reducible repeat (first | refine blk_drewN ?_ _ | refine blk_drew ?_ | refine blk_alloc ?_ _)); refine blk_far ?_ (by have h_ := Kd.R_ne HO_125001.out BK115.out (by decide); intro e_; exact h_ (by rw [e_]; rfl)) _; (with_reducible repeat (first | refine blk_drewN ?_ _ | refine blk_drew ?_ | refine blk_alloc ?_ _)); exact BK115.out⟩, ⟨by (with_reducible repeat (first | refine blk_drewN ?_ _ | refine blk_drew ?_ | refine blk_alloc ?_ _)); refine blk_far ?_ (by have h_ := Kd.R_ne HO_125001.out BK116.out (by decide); intro e_; exact h_ (by rw [e_]; rfl)) _; (with_reducible repeat (first | refine blk_drewN ?_ _ | refine blk_drew ?_ | refine blk_alloc ?_ _)); exact BK116.out⟩, ⟨by (with_reducible repeat (first | refine blk_drewN ?_ _ | refine blk_drew ?_ | refine blk_alloc ?_ _)); refine blk_far ?_ (by have h_ := Kd.R_ne HO_125001.out BK117.out (by decide); intro e_; exact h_ (by rw [e_]; rfl)) _; (with_reducible repeat (first | refine blk_drewN ?_ _ | refine blk_drew ?_ | refine blk_alloc ?_ _)); exact BK117.out⟩, ⟨by (with_reducible repeat (first | refine blk_drewN ?_ _ | refine blk_drew ?_ | refine blk_alloc ?_ _)); refine blk_far ?_ (by have h_ := Kd.R_ne HO_125001.out BK124.out (by decide); intro e_; exact h_ (by rw [e_]; rfl)) _; (with_reducible repeat (first | refine blk_drewN ?_ _ | refine blk_drew ?_ | refine blk_alloc ?_ _)); exact BK124.out⟩, ⟨by repeat (first | (with_reducible first | exact HB.out | apply below_alloc | apply pw_below_drewN | apply below_drew1 | refine below_set ?_ GB51.out | refine below_set ?_ GE115.out | refine below_set ?_ GE116.out | refine below_set ?_ GE117.out | refine below_set ?_ GE124.out) | exact HB.out)⟩⟩
                  · rw [if_neg c49] at H
                    exact absurd H (by simp)
                · rw [if_neg c47] at H
                  exact absurd H (by simp)
              · rw [if_neg c46] at H
                exact absurd H (by simp)
          · rw [if_neg c29] at H
            have c29b0 : decide (x9_1 < (wrap64 (a1_0 + a1_1))) = false := decide_eq_false c29
            clear c29
            simp only [Option.some.injEq, Prod.mk.injEq] at H
            obtain ⟨rfl, rfl, rfl⟩ := H
            have hnb59 := NB116_115.out
            have hnc59 := NB115_116.out
            have hnb60 := NB116_117.out
            have hnc60 := NB117_116.out
            have hnb61 := NB116_124.out
            have hnc61 := NB124_116.out
            have hcz62_0 : wr.cell? ⟨gb116, 0, none⟩ = some (.int .i64 a1_0) := (blk_cell BK116.out 0).trans rfl
            have hcz62_1 : wr.cell? ⟨gb116, 1, none⟩ = some (.int .i64 a1_1) := (blk_cell BK116.out 1).trans rfl
            have hfz62_0 := blk_frozen BK116.out 0
            have hfz62_1 := blk_frozen BK116.out 1
            have hnb63 := NB124_115.out
            have hnc63 := NB115_124.out
            have hnb64 := NB124_117.out
            have hnc64 := NB117_124.out
            have hcz65_0 : wr.cell? ⟨gb124, 0, none⟩ = some (.int .i64 t120) := (blk_cell BK124.out 0).trans rfl
            have hcz65_1 : wr.cell? ⟨gb124, 1, none⟩ = some (u125001) := (blk_cell BK124.out 1).trans rfl
            have hfz65_0 := blk_frozen BK124.out 0
            have hfz65_1 := blk_frozen BK124.out 1
            have hnb66 := NB117_115.out
            have hnc66 := NB115_117.out
            have hcz67_0 : wr.cell? ⟨gb117, 0, none⟩ = some (.int .i64 0) := (blk_cell BK117.out 0).trans rfl
            have hcz67_1 : wr.cell? ⟨gb117, 1, none⟩ = some (.slice none 0 0) := (blk_cell BK117.out 1).trans rfl
            have hfz67_0 := blk_frozen BK117.out 0
            have hfz67_1 := blk_frozen BK117.out 1
            obtain ⟨Ao68, co68, eo68⟩ := Kd.R_slice HO_125001.out
            subst eo68
            go_wp2
            refine bodyPost_ret (results_ct rfl _ _ gb117 24 #[.int .i64 t120, .slice Ao68 x125001_1.length co68] (0, 0) _ rfl (by (with_reducible repeat (first | refine blk_drewN ?_ _ | refine blk_drew ?_ | refine blk_alloc ?_ _)); refine blk_put (cs := #[.int .i64 t120, .slice none 0 0]) ?_ 1 _ rfl; (with_reducible repeat (first | refine blk_drewN ?_ _ | refine blk_drew ?_ | refine blk_alloc ?_ _)); refine blk_put (cs := #[.int .i64 0, .slice none 0 0]) ?_ 0 _ rfl; (with_reducible repeat (first | refine blk_drewN ?_ _ | refine blk_drew ?_ | refine blk_alloc ?_ _)); exact BK117.out) Tryd.underlying24 rfl (by kernel_rfl)) rfl ?_
            exact ⟨_, by first | rfl | (simp [errW_none, errW_some] <;> rfl) | (simp [*, errW_none, errW_some] <;> rfl), by (with_reducible repeat (first | apply Kd.R_alloc | apply Kd.R_drewN | apply Kd.R_drew)); exact Kd.R_mono (Kd.R_far (p := ⟨gb117, 1, none⟩) (Kd.R_far (p := ⟨gb117, 0, none⟩) (Kd.R_types HO_125001.out BK117.out (by decide)) (fun _ hk => hk.2) (.int .i64 t120)) (fun _ hk => hk.2) (.slice Ao68 x125001_1.length co68)) (fun _ hk => trivial), by repeat (first | (with_reducible first | exact HB.out | apply below_alloc | apply pw_below_drewN | apply below_drew1 | refine below_set ?_ GE115.out | refine below_set ?_ GE116.out | refine below_set ?_ GE117.out | refine below_set ?_ GE124.out) | exact HB.out)⟩
    · replace c7 := Bool.eq_false_iff.mpr c7
      subst c7
      have H1 : (some (0, ([] : List Int), 2)) = some (r1, r2, r3) := by rw [if_neg (show ¬ (false = true) by decide)] at H; exact H
      clear H
      have H := H1
      clear H1
      simp only [Option.some.injEq, Prod.mk.injEq] at H
      obtain ⟨rfl, rfl, rfl⟩ := H
      go_enter Tryd.func41, Tryd.ntmps41
      go_wp2_with (first | ((with_reducible refine gate_dst (N := 3) rfl ?_); refine box_event ?hg (N := 3) ?hd (cs := #[.int .i64 a0_0, .slice A0_1 l0_1.length c0_1]) (t := 24) ?hr ?_; (case hd => rfl); (case hg => rfl); (case hr => first | (go_simp; done) | (go_simp; rfl)); intro gb115 hg w69 hbox hb; have n0_ := Aside0.mk (below_step (by repeat (first | (with_reducible first | exact HB.out | apply below_alloc | apply pw_below_drewN | apply below_drew1) | exact HB.out)) hb); have n1_ := Aside0.mk (hbox); have n2_ := Aside0.mk ((by rw [hg]; exact (below_size (by repeat (first | (with_reducible first | exact HB.out | apply below_alloc | apply pw_below_drewN | apply below_drew1) | exact HB.out))) : w.heap.size ≤ gb115)); have n3_ := Aside0.mk ((by rw [hg]; exact (below_size (by repeat (first | (with_reducible first | exact HB.out | apply below_alloc | apply pw_below_drewN | apply below_drew1) | exact HB.out))) : w.heap.size ≤ gb115)); clear HB; have HB := n0_; have BK115 := n1_; have GW115 := n2_; have GE115 := n3_; clear n0_ n1_ n2_ n3_; clear hb hbox hg) | ((with_reducible refine gate_dst (N := 4) rfl ?_); refine box_event ?hg (N := 4) ?hd (cs := #[.int .i64 a1_0, .int .i64 a1_1]) (t := 26) ?hr ?_; (case hd => rfl); (case hg => rfl); (case hr => first | (go_simp; done) | (go_simp; rfl)); intro gb116 hg w70 hbox hb; have n0_ := Aside0.mk (blk_below (g := gb115) (o := .cells #[.int .i64 a0_0, .slice A0_1 l0_1.length c0_1] 24 (0, 0)) (by (with_reducible repeat (first | refine blk_drewN ?_ _ | refine blk_drew ?_ | refine blk_alloc ?_ _)); exact BK115.out) hb); have n1_ := Aside0.mk (below_step (by repeat (first | (with_reducible first | exact HB.out | apply below_alloc | apply pw_below_drewN | apply below_drew1 | refine below_set ?_ GE115.out) | exact HB.out)) hb); have n2_ := Aside0.mk (hbox); have n3_ := Aside0.mk ((by rw [hg]; exact (below_size (by repeat (first | (with_reducible first | exact HB.out | apply below_alloc | apply pw_below_drewN | apply below_drew1 | refine below_set ?_ GE115.out) | exact HB.out))) : w.heap.size ≤ gb116)); have n4_ := Aside0.mk ((by rw [hg]; exact (below_size (by repeat (first | (with_reducible first | exact HB.out | apply below_alloc | apply pw_below_drewN | apply below_drew1 | refine below_set ?_ GE115.out) | exact HB.out))) : w.heap.size ≤ gb116)); have n5_ := Aside0.mk ((by rw [hg]; exact Nat.ne_of_lt (blk_lt (g := gb115) (o := .cells #[.int .i64 a0_0, .slice A0_1 l0_1.length c0_1] 24 (0, 0)) (by (with_reducible repeat (first | refine blk_drewN ?_ _ | refine blk_drew ?_ | refine blk_alloc ?_ _)); exact BK115.out)) : gb115 ≠ gb116)); have n6_ := Aside0.mk ((by rw [hg]; exact Nat.ne_of_gt (blk_lt (g := gb115) (o := .cells #[.int .i64 a0_0, .slice A0_1 l0_1.length c0_1] 24 (0, 0)) (by (with_reducible repeat (first | refine blk_drewN ?_ _ | refine blk_drew ?_ | refine blk_alloc ?_ _)); exact BK115.out)) : gb116 ≠ gb115)); clear BK115; clear HB; have BK115 := n0_; have HB := n1_; have BK116 := n2_; have GW116 := n3_; have GE116 := n4_; have NB115_116 := n5_; have NB116_115 := n6_; clear n0_ n1_ n2_ n3_ n4_ n5_ n6_; clear hb hbox hg) | ((with_reducible refine gate_dst (N := 6) rfl ?_); refine box_event ?hg (N := 6) ?hd (cs := #[.int .i64 0, .slice none 0 0]) (t := 24) ?hr ?_; (case hd => rfl); (case hg => rfl); (case hr => first | (go_simp; done) | (go_simp; rfl)); intro gb117 hg w71 hbox hb; have n0_ := Aside0.mk (blk_below (g := gb115) (o := .cells #[.int .i64 a0_0, .slice A0_1 l0_1.length c0_1] 24 (0, 0)) (by (with_reducible repeat (first | refine blk_drewN ?_ _ | refine blk_drew ?_ | refine blk_alloc ?_ _)); exact BK115.out) hb); have n1_ := Aside0.mk (blk_below (g := gb116) (o := .cells #[.int .i64 a1_0, .int .i64 a1_1] 26 (0, 0)) (by (with_reducible repeat (first | refine blk_drewN ?_ _ | refine blk_drew ?_ | refine blk_alloc ?_ _)); exact BK116.out) hb); have n2_ := Aside0.mk (below_step (by repeat (first | (with_reducible first | exact HB.out | apply below_alloc | apply pw_below_drewN | apply below_drew1 | refine below_set ?_ GE115.out | refine below_set ?_ GE116.out) | exact HB.out)) hb); have n3_ := Aside0.mk (hbox); have n4_ := Aside0.mk ((by rw [hg]; exact (below_size (by repeat (first | (with_reducible first | exact HB.out | apply below_alloc | apply pw_below_drewN | apply below_drew1 | refine below_set ?_ GE115.out | refine below_set ?_ GE116.out) | exact HB.out))) : w.heap.size ≤ gb117)); have n5_ := Aside0.mk ((by rw [hg]; exact (below_size (by repeat (first | (with_reducible first | exact HB.out | apply below_alloc | apply pw_below_drewN | apply below_drew1 | refine below_set ?_ GE115.out | refine below_set ?_ GE116.out) | exact HB.out))) : w.heap.size ≤ gb117)); have n6_ := Aside0.mk ((by rw [hg]; exact Nat.ne_of_lt (blk_lt (g := gb115) (o := .cells #[.int .i64 a0_0, .slice A0_1 l0_1.length c0_1] 24 (0, 0)) (by (with_reducible repeat (first | refine blk_drewN ?_ _ | refine blk_drew ?_ | refine blk_alloc ?_ _)); exact BK115.out)) : gb115 ≠ gb117)); have n7_ := Aside0.mk ((by rw [hg]; exact Nat.ne_of_gt (blk_lt (g := gb115) (o := .cells #[.int .i64 a0_0, .slice A0_1 l0_1.length c0_1] 24 (0, 0)) (by (with_reducible repeat (first | refine blk_drewN ?_ _ | refine blk_drew ?_ | refine blk_alloc ?_ _)); exact BK115.out)) : gb117 ≠ gb115)); have n8_ := Aside0.mk ((by rw [hg]; exact Nat.ne_of_lt (blk_lt (g := gb116) (o := .cells #[.int .i64 a1_0, .int .i64 a1_1] 26 (0, 0)) (by (with_reducible repeat (first | refine blk_drewN ?_ _ | refine blk_drew ?_ | refine blk_alloc ?_ _)); exact BK116.out)) : gb116 ≠ gb117)); have n9_ := Aside0.mk ((by rw [hg]; exact Nat.ne_of_gt (blk_lt (g := gb116) (o := .cells #[.int .i64 a1_0, .int .i64 a1_1] 26 (0, 0)) (by (with_reducible repeat (first | refine blk_drewN ?_ _ | refine blk_drew ?_ | refine blk_alloc ?_ _)); exact BK116.out)) : gb117 ≠ gb116)); clear BK115; clear BK116; clear HB; have BK115 := n0_; have BK116 := n1_; have HB := n2_; have BK117 := n3_; have GW117 := n4_; have GE117 := n5_; have NB115_117 := n6_; have NB117_115 := n7_; have NB116_117 := n8_; have NB117_116 := n9_; clear n0_ n1_ n2_ n3_ n4_ n5_ n6_ n7_ n8_ n9_; clear hb hbox hg; have hnb72 := NB115_116.out; have hnc72 := NB116_115.out; have hnb73 := NB115_117.out; have hnc73 := NB117_115.out; have hcz74_0 : w71.cell? ⟨gb115, 0, none⟩ = some (.int .i64 a0_0) := (blk_cell BK115.out 0).trans rfl; have hcz74_1 : w71.cell? ⟨gb115, 1, none⟩ = some (.slice A0_1 l0_1.length c0_1) := (blk_cell BK115.out 1).trans rfl; have hfz74_0 := blk_frozen BK115.out 0; have hfz74_1 := blk_frozen BK115.out 1) | ((with_reducible refine gate_callee (f := 21) rfl ?_); refine goesL_ (some 11) rfl rfl Tryd.func21 (by kernel_rfl) rfl #[.agg #[.int .i64 a0_0, .slice A0_1 l0_1.length c0_1]] rfl (by (try simp only [List.map_toArray, List.map_cons, List.map_nil]); first | done | rfl | (simp only [List.length_drop, List.length_take]; rfl)) ?_; (with_reducible refine (r02Check.calls k a0_0 _ _ l0_1 t118 _ ?side1 ?side2 A4.out).mono ?_); (case side1 => repeat (first | exact (Kd.C_below HR0_1.out HB.out) | (with_reducible refine Kd.C_alloc ?_ _) | (with_reducible refine Kd.C_drewN ?_ _) | (with_reducible refine Kd.C_drew ?_))); (case side2 => exact HC0_1.out); rintro e w75 ⟨rfl, hb⟩; refine ⟨_, rfl, ?_⟩; have n0_ := Aside0.mk (blk_below (g := gb115) (o := .cells #[.int .i64 a0_0, .slice A0_1 l0_1.length c0_1] 24 (0, 0)) (by (with_reducible repeat (first | refine blk_drewN ?_ _ | refine blk_drew ?_ | refine blk_alloc ?_ _)); exact BK115.out) hb); have n1_ := Aside0.mk (blk_below (g := gb116) (o := .cells #[.int .i64 a1_0, .int .i64 a1_1] 26 (0, 0)) (by (with_reducible repeat (first | refine blk_drewN ?_ _ | refine blk_drew ?_ | refine blk_alloc ?_ _)); exact BK116.out) hb); have n2_ := Aside0.mk (blk_below (g := gb117) (o := .cells #[.int .i64 0, .slice none 0 0] 24 (0, 0)) (by (with_reducible repeat (first | refine blk_drewN ?_ _ | refine blk_drew ?_ | refine blk_alloc ?_ _)); exact BK117.out) hb); have n3_ := Aside0.mk (below_step (by repeat (first | (with_reducible first | exact HB.out | apply below_alloc | apply pw_below_drewN | apply below_drew1 | refine below_set ?_ GE115.out | refine below_set ?_ GE116.out | refine below_set ?_ GE117.out) | exact HB.out)) hb); clear BK115; clear BK116; clear BK117; clear HB; have BK115 := n0_; have BK116 := n1_; have BK117 := n2_; have HB := n3_; clear n0_ n1_ n2_ n3_; (try clear hb); (try clear hb2); (try clear hk); (try clear hi); have hnb76 := NB116_117.out; have hnc76 := NB117_116.out; have hcz77_0 : w75.cell? ⟨gb116, 0, none⟩ = some (.int .i64 a1_0) := (blk_cell BK116.out 0).trans rfl; have hcz77_1 : w75.cell? ⟨gb116, 1, none⟩ = some (.int .i64 a1_1) := (blk_cell BK116.out 1).trans rfl; have hfz77_0 := blk_frozen BK116.out 0; have hfz77_1 := blk_frozen BK116.out 1; have hcz78_0 : w75.cell? ⟨gb115, 0, none⟩ = some (.int .i64 a0_0) := (blk_cell BK115.out 0).trans rfl; have hcz78_1 : w75.cell? ⟨gb115, 1, none⟩ = some (.slice A0_1 l0_1.length c0_1) := (blk_cell BK115.out 1).trans rfl; have hfz78_0 := blk_frozen BK115.out 0; have hfz78_1 := blk_frozen BK115.out 1) | ((with_reducible refine gate_callee (f := 56) rfl ?_); refine goesL_ (some 17) rfl rfl Tryd.func56 (by kernel_rfl) rfl #[.agg #[.int .i64 a1_0, .int .i64 a1_1], .int .i64 a0_0] rfl (by (try simp only [List.map_toArray, List.map_cons, List.map_nil]); first | done | rfl | (simp only [List.length_drop, List.length_take]; rfl)) ?_; (with_reducible refine (r02Fits.calls a1_0 a1_1 a0_0 false _ A6.out).mono ?_); rintro e w79 ⟨rfl, hb⟩; refine ⟨_, rfl, ?_⟩; have n0_ := Aside0.mk (blk_below (g := gb115) (o := .cells #[.int .i64 a0_0, .slice A0_1 l0_1.length c0_1] 24 (0, 0)) (by (with_reducible repeat (first | refine blk_drewN ?_ _ | refine blk_drew ?_ | refine blk_alloc ?_ _)); exact BK115.out) hb); have n1_ := Aside0.mk (blk_below (g := gb116) (o := .cells #[.int .i64 a1_0, .int .i64 a1_1] 26 (0, 0)) (by (with_reducible repeat (first | refine blk_drewN ?_ _ | refine blk_drew ?_ | refine blk_alloc ?_ _)); exact BK116.out) hb); have n2_ := Aside0.mk (blk_below (g := gb117) (o := .cells #[.int .i64 0, .slice none 0 0] 24 (0, 0)) (by (with_reducible repeat (first | refine blk_drewN ?_ _ | refine blk_drew ?_ | refine blk_alloc ?_ _)); exact BK117.out) hb); have n3_ := Aside0.mk (below_step (by repeat (first | (with_reducible first | exact HB.out | apply below_alloc | apply pw_below_drewN | apply below_drew1 | refine below_set ?_ GE115.out | refine below_set ?_ GE116.out | refine below_set ?_ GE117.out) | exact HB.out)) hb); clear BK115; clear BK116; clear BK117; clear HB; have BK115 := n0_; have BK116 := n1_; have BK117 := n2_; have HB := n3_; clear n0_ n1_ n2_ n3_; (try clear hb); (try clear hb2); (try clear hk); (try clear hi); have hcz80_0 : w79.cell? ⟨gb117, 0, none⟩ = some (.int .i64 0) := (blk_cell BK117.out 0).trans rfl; have hcz80_1 : w79.cell? ⟨gb117, 1, none⟩ = some (.slice none 0 0) := (blk_cell BK117.out 1).trans rfl; have hfz80_0 := blk_frozen BK117.out 0; have hfz80_1 := blk_frozen BK117.out 1))
      refine bodyPost_ret (results_ct rfl _ _ gb117 24 #[.int .i64 0, .slice none 0 0] (0, 0) _ rfl (by (with_reducible repeat (first | refine blk_drewN ?_ _ | refine blk_drew ?_ | refine blk_alloc ?_ _)); refine blk_put (cs := #[.int .i64 0, .slice none 0 0]) ?_ 1 _ rfl; (with_reducible repeat (first | refine blk_drewN ?_ _ | refine blk_drew ?_ | refine blk_alloc ?_ _)); refine blk_put (cs := #[.int .i64 0, .slice none 0 0]) ?_ 0 _ rfl; (with_reducible repeat (first | refine blk_drewN ?_ _ | refine blk_drew ?_ | refine blk_alloc ?_ _)); exact BK117.out) Tryd.underlying24 rfl (by kernel_rfl)) rfl ?_
      exact ⟨_, by first | rfl | (simp [errW_none, errW_some] <;> rfl) | (simp [*, errW_none, errW_some] <;> rfl), by first | exact Kd.R_nil _ _ _ _ _ | exact Kd.N_nil _ _ _ _ _ | exact Kd.V_nil _ _ _ _ _ | exact Kd.Q_nil _ _ _ _ _ | exact Kd.S_nil _ _ _ _ _, by repeat (first | (with_reducible first | exact HB.out | apply below_alloc | apply pw_below_drewN | apply below_drew1 | refine below_set ?_ GE115.out | refine below_set ?_ GE116.out | refine below_set ?_ GE117.out) | exact HB.out)⟩
  · rw [if_neg c5] at H
    have c5b0 : (t118 == 0) = false := beq_eq_false_iff_ne.mpr c5
    have c5b1 : (t118 != 0) = true := bne_iff_ne.mpr c5
    simp only [Option.some.injEq, Prod.mk.injEq] at H
    obtain ⟨rfl, rfl, rfl⟩ := H
    go_enter Tryd.func41, Tryd.ntmps41
    go_wp2_with (first | ((with_reducible refine gate_dst (N := 3) rfl ?_); refine box_event ?hg (N := 3) ?hd (cs := #[.int .i64 a0_0, .slice A0_1 l0_1.length c0_1]) (t := 24) ?hr ?_; (case hd => rfl); (case hg => rfl); (case hr => first | (go_simp; done) | (go_simp; rfl)); intro gb115 hg w81 hbox hb; have n0_ := Aside0.mk (below_step (by repeat (first | (with_reducible first | exact HB.out | apply below_alloc | apply pw_below_drewN | apply below_drew1) | exact HB.out)) hb); have n1_ := Aside0.mk (hbox); have n2_ := Aside0.mk ((by rw [hg]; exact (below_size (by repeat (first | (with_reducible first | exact HB.out | apply below_alloc | apply pw_below_drewN | apply below_drew1) | exact HB.out))) : w.heap.size ≤ gb115)); have n3_ := Aside0.mk ((by rw [hg]; exact (below_size (by repeat (first | (with_reducible first | exact HB.out | apply below_alloc | apply pw_below_drewN | apply below_drew1) | exact HB.out))) : w.heap.size ≤ gb115)); clear HB; have HB := n0_; have BK115 := n1_; have GW115 := n2_; have GE115 := n3_; clear n0_ n1_ n2_ n3_; clear hb hbox hg) | ((with_reducible refine gate_dst (N := 4) rfl ?_); refine box_event ?hg (N := 4) ?hd (cs := #[.int .i64 a1_0, .int .i64 a1_1]) (t := 26) ?hr ?_; (case hd => rfl); (case hg => rfl); (case hr => first | (go_simp; done) | (go_simp; rfl)); intro gb116 hg w82 hbox hb; have n0_ := Aside0.mk (blk_below (g := gb115) (o := .cells #[.int .i64 a0_0, .slice A0_1 l0_1.length c0_1] 24 (0, 0)) (by (with_reducible repeat (first | refine blk_drewN ?_ _ | refine blk_drew ?_ | refine blk_alloc ?_ _)); exact BK115.out) hb); have n1_ := Aside0.mk (below_step (by repeat (first | (with_reducible first | exact HB.out | apply below_alloc | apply pw_below_drewN | apply below_drew1 | refine below_set ?_ GE115.out) | exact HB.out)) hb); have n2_ := Aside0.mk (hbox); have n3_ := Aside0.mk ((by rw [hg]; exact (below_size (by repeat (first | (with_reducible first | exact HB.out | apply below_alloc | apply pw_below_drewN | apply below_drew1 | refine below_set ?_ GE115.out) | exact HB.out))) : w.heap.size ≤ gb116)); have n4_ := Aside0.mk ((by rw [hg]; exact (below_size (by repeat (first | (with_reducible first | exact HB.out | apply below_alloc | apply pw_below_drewN | apply below_drew1 | refine below_set ?_ GE115.out) | exact HB.out))) : w.heap.size ≤ gb116)); have n5_ := Aside0.mk ((by rw [hg]; exact Nat.ne_of_lt (blk_lt (g := gb115) (o := .cells #[.int .i64 a0_0, .slice A0_1 l0_1.length c0_1] 24 (0, 0)) (by (with_reducible repeat (first | refine blk_drewN ?_ _ | refine blk_drew ?_ | refine blk_alloc ?_ _)); exact BK115.out)) : gb115 ≠ gb116)); have n6_ := Aside0.mk ((by rw [hg]; exact Nat.ne_of_gt (blk_lt (g := gb115) (o := .cells #[.int .i64 a0_0, .slice A0_1 l0_1.length c0_1] 24 (0, 0)) (by (with_reducible repeat (first | refine blk_drewN ?_ _ | refine blk_drew ?_ | refine blk_alloc ?_ _)); exact BK115.out)) : gb116 ≠ gb115)); clear BK115; clear HB; have BK115 := n0_; have HB := n1_; have BK116 := n2_; have GW116 := n3_; have GE116 := n4_; have NB115_116 := n5_; have NB116_115 := n6_; clear n0_ n1_ n2_ n3_ n4_ n5_ n6_; clear hb hbox hg) | ((with_reducible refine gate_dst (N := 6) rfl ?_); refine box_event ?hg (N := 6) ?hd (cs := #[.int .i64 0, .slice none 0 0]) (t := 24) ?hr ?_; (case hd => rfl); (case hg => rfl); (case hr => first | (go_simp; done) | (go_simp; rfl)); intro gb117 hg w83 hbox hb; have n0_ := Aside0.mk (blk_below (g := gb115) (o := .cells #[.int .i64 a0_0, .slice A0_1 l0_1.length c0_1] 24 (0, 0)) (by (with_reducible repeat (first | refine blk_drewN ?_ _ | refine blk_drew ?_ | refine blk_alloc ?_ _)); exact BK115.out) hb); have n1_ := Aside0.mk (blk_below (g := gb116) (o := .cells #[.int .i64 a1_0, .int .i64 a1_1] 26 (0, 0)) (by (with_reducible repeat (first | refine blk_drewN ?_ _ | refine blk_drew ?_ | refine blk_alloc ?_ _)); exact BK116.out) hb); have n2_ := Aside0.mk (below_step (by repeat (first | (with_reducible first | exact HB.out | apply below_alloc | apply pw_below_drewN | apply below_drew1 | refine below_set ?_ GE115.out | refine below_set ?_ GE116.out) | exact HB.out)) hb); have n3_ := Aside0.mk (hbox); have n4_ := Aside0.mk ((by rw [hg]; exact (below_size (by repeat (first | (with_reducible first | exact HB.out | apply below_alloc | apply pw_below_drewN | apply below_drew1 | refine below_set ?_ GE115.out | refine below_set ?_ GE116.out) | exact HB.out))) : w.heap.size ≤ gb117)); have n5_ := Aside0.mk ((by rw [hg]; exact (below_size (by repeat (first | (with_reducible first | exact HB.out | apply below_alloc | apply pw_below_drewN | apply below_drew1 | refine below_set ?_ GE115.out | refine below_set ?_ GE116.out) | exact HB.out))) : w.heap.size ≤ gb117)); have n6_ := Aside0.mk ((by rw [hg]; exact Nat.ne_of_lt (blk_lt (g := gb115) (o := .cells #[.int .i64 a0_0, .slice A0_1 l0_1.length c0_1] 24 (0, 0)) (by (with_reducible repeat (first | refine blk_drewN ?_ _ | refine blk_drew ?_ | refine blk_alloc ?_ _)); exact BK115.out)) : gb115 ≠ gb117)); have n7_ := Aside0.mk ((by rw [hg]; exact Nat.ne_of_gt (blk_lt (g := gb115) (o := .cells #[.int .i64 a0_0, .slice A0_1 l0_1.length c0_1] 24 (0, 0)) (by (with_reducible repeat (first | refine blk_drewN ?_ _ | refine blk_drew ?_ | refine blk_alloc ?_ _)); exact BK115.out)) : gb117 ≠ gb115)); have n8_ := Aside0.mk ((by rw [hg]; exact Nat.ne_of_lt (blk_lt (g := gb116) (o := .cells #[.int .i64 a1_0, .int .i64 a1_1] 26 (0, 0)) (by (with_reducible repeat (first | refine blk_drewN ?_ _ | refine blk_drew ?_ | refine blk_alloc ?_ _)); exact BK116.out)) : gb116 ≠ gb117)); have n9_ := Aside0.mk ((by rw [hg]; exact Nat.ne_of_gt (blk_lt (g := gb116) (o := .cells #[.int .i64 a1_0, .int .i64 a1_1] 26 (0, 0)) (by (with_reducible repeat (first | refine blk_drewN ?_ _ | refine blk_drew ?_ | refine blk_alloc ?_ _)); exact BK116.out)) : gb117 ≠ gb116)); clear BK115; clear BK116; clear HB; have BK115 := n0_; have BK116 := n1_; have HB := n2_; have BK117 := n3_; have GW117 := n4_; have GE117 := n5_; have NB115_117 := n6_; have NB117_115 := n7_; have NB116_117 := n8_; have NB117_116 := n9_; clear n0_ n1_ n2_ n3_ n4_ n5_ n6_ n7_ n8_ n9_; clear hb hbox hg; have hnb84 := NB115_116.out; have hnc84 := NB116_115.out; have hnb85 := NB115_117.out; have hnc85 := NB117_115.out; have hcz86_0 : w83.cell? ⟨gb115, 0, none⟩ = some (.int .i64 a0_0) := (blk_cell BK115.out 0).trans rfl; have hcz86_1 : w83.cell? ⟨gb115, 1, none⟩ = some (.slice A0_1 l0_1.length c0_1) := (blk_cell BK115.out 1).trans rfl; have hfz86_0 := blk_frozen BK115.out 0; have hfz86_1 := blk_frozen BK115.out 1) | ((with_reducible refine gate_callee (f := 21) rfl ?_); refine goesL_ (some 11) rfl rfl Tryd.func21 (by kernel_rfl) rfl #[.agg #[.int .i64 a0_0, .slice A0_1 l0_1.length c0_1]] rfl (by (try simp only [List.map_toArray, List.map_cons, List.map_nil]); first | done | rfl | (simp only [List.length_drop, List.length_take]; rfl)) ?_; (with_reducible refine (r02Check.calls k a0_0 _ _ l0_1 t118 _ ?side1 ?side2 A4.out).mono ?_); (case side1 => repeat (first | exact (Kd.C_below HR0_1.out HB.out) | (with_reducible refine Kd.C_alloc ?_ _) | (with_reducible refine Kd.C_drewN ?_ _) | (with_reducible refine Kd.C_drew ?_))); (case side2 => exact HC0_1.out); rintro e w87 ⟨rfl, hb⟩; refine ⟨_, rfl, ?_⟩; have n0_ := Aside0.mk (blk_below (g := gb115) (o := .cells #[.int .i64 a0_0, .slice A0_1 l0_1.length c0_1] 24 (0, 0)) (by (with_reducible repeat (first | refine blk_drewN ?_ _ | refine blk_drew ?_ | refine blk_alloc ?_ _)); exact BK115.out) hb); have n1_ := Aside0.mk (blk_below (g := gb116) (o := .cells #[.int .i64 a1_0, .int .i64 a1_1] 26 (0, 0)) (by (with_reducible repeat (first | refine blk_drewN ?_ _ | refine blk_drew ?_ | refine blk_alloc ?_ _)); exact BK116.out) hb); have n2_ := Aside0.mk (blk_below (g := gb117) (o := .cells #[.int .i64 0, .slice none 0 0] 24 (0, 0)) (by (with_reducible repeat (first | refine blk_drewN ?_ _ | refine blk_drew ?_ | refine blk_alloc ?_ _)); exact BK117.out) hb); have n3_ := Aside0.mk (below_step (by repeat (first | (with_reducible first | exact HB.out | apply below_alloc | apply pw_below_drewN | apply below_drew1 | refine below_set ?_ GE115.out | refine below_set ?_ GE116.out | refine below_set ?_ GE117.out) | exact HB.out)) hb); clear BK115; clear BK116; clear BK117; clear HB; have BK115 := n0_; have BK116 := n1_; have BK117 := n2_; have HB := n3_; clear n0_ n1_ n2_ n3_; (try clear hb); (try clear hb2); (try clear hk); (try clear hi); have hnb88 := NB117_116.out; have hnc88 := NB116_117.out; have hcz89_0 : w87.cell? ⟨gb117, 0, none⟩ = some (.int .i64 0) := (blk_cell BK117.out 0).trans rfl; have hcz89_1 : w87.cell? ⟨gb117, 1, none⟩ = some (.slice none 0 0) := (blk_cell BK117.out 1).trans rfl; have hfz89_0 := blk_frozen BK117.out 0; have hfz89_1 := blk_frozen BK117.out 1))
    refine bodyPost_ret (results_ct rfl _ _ gb117 24 #[.int .i64 0, .slice none 0 0] (0, 0) _ rfl (by (with_reducible repeat (first | refine blk_drewN ?_ _ | refine blk_drew ?_ | refine blk_alloc ?_ _)); refine blk_put (cs := #[.int .i64 0, .slice none 0 0]) ?_ 1 _ rfl; (with_reducible repeat (first | refine blk_drewN ?_ _ | refine blk_drew ?_ | refine blk_alloc ?_ _)); refine blk_put (cs := #[.int .i64 0, .slice none 0 0]) ?_ 0 _ rfl; (with_reducible repeat (first | refine blk_drewN ?_ _ | refine blk_drew ?_ | refine blk_alloc ?_ _)); exact BK117.out) Tryd.underlying24 rfl (by kernel_rfl)) rfl ?_
    exact ⟨_, by first | rfl | (simp [errW_none, errW_some] <;> rfl) | (simp [*, errW_none, errW_some] <;> rfl), by first | exact Kd.R_nil _ _ _ _ _ | exact Kd.N_nil _ _ _ _ _ | exact Kd.V_nil _ _ _ _ _ | exact Kd.Q_nil _ _ _ _ _ | exact Kd.S_nil _ _ _ _ _, by repeat (first | (with_reducible first | exact HB.out | apply below_alloc | apply pw_below_drewN | apply below_drew1 | refine below_set ?_ GE115.out | refine below_set ?_ GE116.out | refine below_set ?_ GE117.out) | exact HB.out)⟩
def r02Set.f (k : Nat) (a0_0 : Int) (l0_1 : List Int) (a1_0 : Int) (a1_1 : Int) : Option (Int × List Int × Int) := (r02change.f k a0_0 l0_1 a1_0 a1_1 true).bind fun bt132 => (some (bt132.1, bt132.2.1, bt132.2.2))
set_option maxHeartbeats 8000000 in
set_option maxRecDepth 100000 in
theorem r02Set.calls (k : Nat) (a0_0 : Int) (A0_1 : Option Addr) (c0_1 : Nat) (l0_1 : List Int) (a1_0 : Int) (a1_1 : Int) (r1 : Int) (r2 : List Int) (r3 : Int) (w : World) (hr0_1 : Kd.C (Kd.int .u64) w A0_1 l0_1.length l0_1) (hc0_1 : l0_1.length ≤ c0_1) (h : r02Set.f k a0_0 l0_1 a1_0 a1_1 = some (r1, r2, r3)) :
    Calls Tryd.prog 14 #[.agg #[.int .i64 a0_0, .slice A0_1 l0_1.length c0_1], .agg #[.int .i64 a1_0, .int .i64 a1_1]] w fun e w' => ∃ v1_ : Value, e = .returned (.tuple #[.agg #[.int .i64 r1, v1_], .int .i64 r3]) ∧ Kd.R (Kd.int .u64) 55 w' w.heap.size (fun _ => True) v1_ r2 ∧ Below w.heap.size w w' := by
  have hu24 := Tryd.underlying24
  have hu26 := Tryd.underlying26
  have HR0_1 := Aside0.mk hr0_1
  have HC0_1 := Aside0.mk hc0_1
  clear hr0_1 hc0_1
  have HB := Aside0.mk (Below.refl w.heap.size w)
  have H : ((r02change.f k a0_0 l0_1 a1_0 a1_1 true).bind fun bt132 => (some (bt132.1, bt132.2.1, bt132.2.2))) = some (r1, r2, r3) := h
  clear h
  replace H := Option.bind_eq_some_iff.mp H
  obtain ⟨⟨t132, t133, t136⟩, A30, H⟩ := H
  replace H : (some (t132, t133, t136)) = some (r1, r2, r3) := H
  have A3 := Aside0.mk A30
  clear A30
  simp only [Option.some.injEq, Prod.mk.injEq] at H
  obtain ⟨rfl, rfl, rfl⟩ := H
  go_enter Tryd.func14, Tryd.ntmps14
  go_wp2_with (first | ((with_reducible refine gate_dst (N := 2) rfl ?_); refine box_event ?hg (N := 2) ?hd (cs := #[.int .i64 a0_0, .slice A0_1 l0_1.length c0_1]) (t := 24) ?hr ?_; (case hd => rfl); (case hg => rfl); (case hr => first | (go_simp; done) | (go_simp; rfl)); intro gb129 hg w4 hbox hb; have n0_ := Aside0.mk (below_step (by repeat (first | (with_reducible first | exact HB.out | apply below_alloc | apply pw_below_drewN | apply below_drew1) | exact HB.out)) hb); have n1_ := Aside0.mk (hbox); have n2_ := Aside0.mk ((by rw [hg]; exact (below_size (by repeat (first | (with_reducible first | exact HB.out | apply below_alloc | apply pw_below_drewN | apply below_drew1) | exact HB.out))) : w.heap.size ≤ gb129)); have n3_ := Aside0.mk ((by rw [hg]; exact (below_size (by repeat (first | (with_reducible first | exact HB.out | apply below_alloc | apply pw_below_drewN | apply below_drew1) | exact HB.out))) : w.heap.size ≤ gb129)); clear HB; have HB := n0_; have BK129 := n1_; have GW129 := n2_; have GE129 := n3_; clear n0_ n1_ n2_ n3_; clear hb hbox hg) | ((with_reducible refine gate_dst (N := 3) rfl ?_); refine box_event ?hg (N := 3) ?hd (cs := #[.int .i64 a1_0, .int .i64 a1_1]) (t := 26) ?hr ?_; (case hd => rfl); (case hg => rfl); (case hr => first | (go_simp; done) | (go_simp; rfl)); intro gb130 hg w5 hbox hb; have n0_ := Aside0.mk (blk_below (g := gb129) (o := .cells #[.int .i64 a0_0, .slice A0_1 l0_1.length c0_1] 24 (0, 0)) (by (with_reducible repeat (first | refine blk_drewN ?_ _ | refine blk_drew ?_ | refine blk_alloc ?_ _)); exact BK129.out) hb); have n1_ := Aside0.mk (below_step (by repeat (first | (with_reducible first | exact HB.out | apply below_alloc | apply pw_below_drewN | apply below_drew1 | refine below_set ?_ GE129.out) | exact HB.out)) hb); have n2_ := Aside0.mk (hbox); have n3_ := Aside0.mk ((by rw [hg]; exact (below_size (by repeat (first | (with_reducible first | exact HB.out | apply below_alloc | apply pw_below_drewN | apply below_drew1 | refine below_set ?_ GE129.out) | exact HB.out))) : w.heap.size ≤ gb130)); have n4_ := Aside0.mk ((by rw [hg]; exact (below_size (by repeat (first | (with_reducible first | exact HB.out | apply below_alloc | apply pw_below_drewN | apply below_drew1 | refine below_set ?_ GE129.out) | exact HB.out))) : w.heap.size ≤ gb130)); have n5_ := Aside0.mk ((by rw [hg]; exact Nat.ne_of_lt (blk_lt (g := gb129) (o := .cells #[.int .i64 a0_0, .slice A0_1 l0_1.length c0_1] 24 (0, 0)) (by (with_reducible repeat (first | refine blk_drewN ?_ _ | refine blk_drew ?_ | refine blk_alloc ?_ _)); exact BK129.out)) : gb129 ≠ gb130)); have n6_ := Aside0.mk ((by rw [hg]; exact Nat.ne_of_gt (blk_lt (g := gb129) (o := .cells #[.int .i64 a0_0, .slice A0_1 l0_1.length c0_1] 24 (0, 0)) (by (with_reducible repeat (first | refine blk_drewN ?_ _ | refine blk_drew ?_ | refine blk_alloc ?_ _)); exact BK129.out)) : gb130 ≠ gb129)); clear BK129; clear HB; have BK129 := n0_; have HB := n1_; have BK130 := n2_; have GW130 := n3_; have GE130 := n4_; have NB129_130 := n5_; have NB130_129 := n6_; clear n0_ n1_ n2_ n3_ n4_ n5_ n6_; clear hb hbox hg) | ((with_reducible refine gate_dst (N := 4) rfl ?_); refine box_event ?hg (N := 4) ?hd (cs := #[.int .i64 0, .slice none 0 0]) (t := 24) ?hr ?_; (case hd => rfl); (case hg => rfl); (case hr => first | (go_simp; done) | (go_simp; rfl)); intro gb131 hg w6 hbox hb; have n0_ := Aside0.mk (blk_below (g := gb129) (o := .cells #[.int .i64 a0_0, .slice A0_1 l0_1.length c0_1] 24 (0, 0)) (by (with_reducible repeat (first | refine blk_drewN ?_ _ | refine blk_drew ?_ | refine blk_alloc ?_ _)); exact BK129.out) hb); have n1_ := Aside0.mk (blk_below (g := gb130) (o := .cells #[.int .i64 a1_0, .int .i64 a1_1] 26 (0, 0)) (by (with_reducible repeat (first | refine blk_drewN ?_ _ | refine blk_drew ?_ | refine blk_alloc ?_ _)); exact BK130.out) hb); have n2_ := Aside0.mk (below_step (by repeat (first | (with_reducible first | exact HB.out | apply below_alloc | apply pw_below_drewN | apply below_drew1 | refine below_set ?_ GE129.out | refine below_set ?_ GE130.out) | exact HB.out)) hb); have n3_ := Aside0.mk (hbox); have n4_ := Aside0.mk ((by rw [hg]; exact (below_size (by repeat (first | (with_reducible first | exact HB.out | apply below_alloc | apply pw_below_drewN | apply below_drew1 | refine below_set ?_ GE129.out | refine below_set ?_ GE130.out) | exact HB.out))) : w.heap.size ≤ gb131)); have n5_ := Aside0.mk ((by rw [hg]; exact (below_size (by repeat (first | (with_reducible first | exact HB.out | apply below_alloc | apply pw_below_drewN | apply below_drew1 | refine below_set ?_ GE129.out | refine below_set ?_ GE130.out) | exact HB.out))) : w.heap.size ≤ gb131)); have n6_ := Aside0.mk ((by rw [hg]; exact Nat.ne_of_lt (blk_lt (g := gb129) (o := .cells #[.int .i64 a0_0, .slice A0_1 l0_1.length c0_1] 24 (0, 0)) (by (with_reducible repeat (first | refine blk_drewN ?_ _ | refine blk_drew ?_ | refine blk_alloc ?_ _)); exact BK129.out)) : gb129 ≠ gb131)); have n7_ := Aside0.mk ((by rw [hg]; exact Nat.ne_of_gt (blk_lt (g := gb129) (o := .cells #[.int .i64 a0_0, .slice A0_1 l0_1.length c0_1] 24 (0, 0)) (by (with_reducible repeat (first | refine blk_drewN ?_ _ | refine blk_drew ?_ | refine blk_alloc ?_ _)); exact BK129.out)) : gb131 ≠ gb129)); have n8_ := Aside0.mk ((by rw [hg]; exact Nat.ne_of_lt (blk_lt (g := gb130) (o := .cells #[.int .i64 a1_0, .int .i64 a1_1] 26 (0, 0)) (by (with_reducible repeat (first | refine blk_drewN ?_ _ | refine blk_drew ?_ | refine blk_alloc ?_ _)); exact BK130.out)) : gb130 ≠ gb131)); have n9_ := Aside0.mk ((by rw [hg]; exact Nat.ne_of_gt (blk_lt (g := gb130) (o := .cells #[.int .i64 a1_0, .int .i64 a1_1] 26 (0, 0)) (by (with_reducible repeat (first | refine blk_drewN ?_ _ | refine blk_drew ?_ | refine blk_alloc ?_ _)); exact BK130.out)) : gb131 ≠ gb130)); clear BK129; clear BK130; clear HB; have BK129 := n0_; have BK130 := n1_; have HB := n2_; have BK131 := n3_; have GW131 := n4_; have GE131 := n5_; have NB129_131 := n6_; have NB131_129 := n7_; have NB130_131 := n8_; have NB131_130 := n9_; clear n0_ n1_ n2_ n3_ n4_ n5_ n6_ n7_ n8_ n9_; clear hb hbox hg; have hnb7 := NB129_130.out; have hnc7 := NB130_129.out; have hnb8 := NB129_131.out; have hnc8 := NB131_129.out; have hcz9_0 : w6.cell? ⟨gb129, 0, none⟩ = some (.int .i64 a0_0) := (blk_cell BK129.out 0).trans rfl; have hcz9_1 : w6.cell? ⟨gb129, 1, none⟩ = some (.slice A0_1 l0_1.length c0_1) := (blk_cell BK129.out 1).trans rfl; have hfz9_0 := blk_frozen BK129.out 0; have hfz9_1 := blk_frozen BK129.out 1; have hnb10 := NB130_131.out; have hnc10 := NB131_130.out; have hcz11_0 : w6.cell? ⟨gb130, 0, none⟩ = some (.int .i64 a1_0) := (blk_cell BK130.out 0).trans rfl; have hcz11_1 : w6.cell? ⟨gb130, 1, none⟩ = some (.int .i64 a1_1) := (blk_cell BK130.out 1).trans rfl; have hfz11_0 := blk_frozen BK130.out 0; have hfz11_1 := blk_frozen BK130.out 1) | ((with_reducible refine gate_callee (f := 41) rfl ?_); refine goesL_ (some 8) rfl rfl Tryd.func41 (by kernel_rfl) rfl #[.agg #[.int .i64 a0_0, .slice A0_1 l0_1.length c0_1], .agg #[.int .i64 a1_0, .int .i64 a1_1], .bool true] rfl (by (try simp only [List.map_toArray, List.map_cons, List.map_nil]); first | done | rfl | (simp only [List.length_drop, List.length_take]; rfl)) ?_; (with_reducible refine (r02change.calls k a0_0 _ _ l0_1 a1_0 a1_1 true t132 t133 t136 _ ?side1 ?side2 A3.out).mono ?_); (case side1 => repeat (first | exact (Kd.C_below HR0_1.out HB.out) | (with_reducible refine Kd.C_alloc ?_ _) | (with_reducible refine Kd.C_drewN ?_ _) | (with_reducible refine Kd.C_drew ?_))); (case side2 => exact HC0_1.out); rintro e w12 ⟨v134, rfl, ho0, hb⟩; refine ⟨_, rfl, ?_⟩; have n0_ := Aside0.mk (Kd.R_lower ho0 (below_size (by repeat (first | (with_reducible first | exact HB.out | apply below_alloc | apply pw_below_drewN | apply below_drew1 | refine below_set ?_ GE129.out | refine below_set ?_ GE130.out | refine below_set ?_ GE131.out) | exact HB.out)))); have n1_ := Aside0.mk (blk_below (g := gb129) (o := .cells #[.int .i64 a0_0, .slice A0_1 l0_1.length c0_1] 24 (0, 0)) (by (with_reducible repeat (first | refine blk_drewN ?_ _ | refine blk_drew ?_ | refine blk_alloc ?_ _)); exact BK129.out) hb); have n2_ := Aside0.mk (blk_below (g := gb130) (o := .cells #[.int .i64 a1_0, .int .i64 a1_1] 26 (0, 0)) (by (with_reducible repeat (first | refine blk_drewN ?_ _ | refine blk_drew ?_ | refine blk_alloc ?_ _)); exact BK130.out) hb); have n3_ := Aside0.mk (blk_below (g := gb131) (o := .cells #[.int .i64 0, .slice none 0 0] 24 (0, 0)) (by (with_reducible repeat (first | refine blk_drewN ?_ _ | refine blk_drew ?_ | refine blk_alloc ?_ _)); exact BK131.out) hb); have n4_ := Aside0.mk (below_step (by repeat (first | (with_reducible first | exact HB.out | apply below_alloc | apply pw_below_drewN | apply below_drew1 | refine below_set ?_ GE129.out | refine below_set ?_ GE130.out | refine below_set ?_ GE131.out) | exact HB.out)) hb); clear BK129; clear BK130; clear BK131; clear HB; have HO135 := n0_; have BK129 := n1_; have BK130 := n2_; have BK131 := n3_; have HB := n4_; clear n0_ n1_ n2_ n3_ n4_; (try clear hb); (try clear hb2); (try clear hk); (try clear hi); (try clear ho0); have hcz13_0 : w12.cell? ⟨gb131, 0, none⟩ = some (.int .i64 0) := (blk_cell BK131.out 0).trans rfl; have hcz13_1 : w12.cell? ⟨gb131, 1, none⟩ = some (.slice none 0 0) := (blk_cell BK131.out 1).trans rfl; have hfz13_0 := blk_frozen BK131.out 0; have hfz13_1 := blk_frozen BK131.out 1; obtain ⟨Ao14, co14, eo14⟩ := Kd.R_slice HO135.out; subst eo14))
  refine bodyPost_ret (results_ct rfl _ _ gb131 24 #[.int .i64 t132, .slice Ao14 t133.length co14] (0, 0) _ rfl (by (with_reducible repeat (first | refine blk_drewN ?_ _ | refine blk_drew ?_ | refine blk_alloc ?_ _)); refine blk_put (cs := #[.int .i64 t132, .slice none 0 0]) ?_ 1 _ rfl; (with_reducible repeat (first | refine blk_drewN ?_ _ | refine blk_drew ?_ | refine blk_alloc ?_ _)); refine blk_put (cs := #[.int .i64 0, .slice none 0 0]) ?_ 0 _ rfl; (with_reducible repeat (first | refine blk_drewN ?_ _ | refine blk_drew ?_ | refine blk_alloc ?_ _)); exact BK131.out) Tryd.underlying24 rfl (by kernel_rfl)) rfl ?_
  exact ⟨_, by first | rfl | (simp [errW_none, errW_some] <;> rfl) | (simp [*, errW_none, errW_some] <;> rfl), by (with_reducible repeat (first | apply Kd.R_alloc | apply Kd.R_drewN | apply Kd.R_drew)); exact Kd.R_mono (Kd.R_far (p := ⟨gb131, 1, none⟩) (Kd.R_far (p := ⟨gb131, 0, none⟩) (Kd.R_types HO135.out BK131.out (by decide)) (fun _ hk => hk.2) (.int .i64 t132)) (fun _ hk => hk.2) (.slice Ao14 t133.length co14)) (fun _ hk => trivial), by repeat (first | (with_reducible first | exact HB.out | apply below_alloc | apply pw_below_drewN | apply below_drew1 | refine below_set ?_ GE129.out | refine below_set ?_ GE130.out | refine below_set ?_ GE131.out) | exact HB.out)⟩
def bwords.f (a0 : Int) : Option (Int) := some (wrap64 (Int.tdiv (wrap64 ((wrap64 (a0 + 64)) - 1)) 64))
set_option maxHeartbeats 8000000 in
set_option maxRecDepth 100000 in
theorem bwords.calls (a0 : Int) (r : Int) (w : World) (h : bwords.f a0 = some r) :
    Calls Tryd.prog 43 #[.int .i64 a0] w fun e w' => e = .returned (.int .i64 r) ∧ Drawn0 w w' := by
  have H : (some (wrap64 (Int.tdiv (wrap64 ((wrap64 (a0 + 64)) - 1)) 64))) = some r := h
  clear h
  obtain rfl := Option.some.inj H
  go_enter Tryd.func43, Tryd.ntmps43
  go_wp2
  go_ret
  exact ⟨by first | rfl | (simp; done) | (simp [*]; done), by repeat (first | exact Drawn0.refl _ | apply Drawn0.step)⟩
end Go.Proofs.YthpldfjjdmjcoaaDoor.P

namespace Go.Proofs.YthpldfjjdmjcoaaDoor.P
open Go.RowKit Go.Proofs.YthpldfjjdmjcoaaDoorW.PrintWords Go.Proofs.YthpldfjjdmjcoaaDoorW.PrintLast Go.Proofs.YthpldfjjdmjcoaaDoorW.PrintMore
attribute [local go_sem] max2_int min2_int max_two min_two max_three min_three max_four min_four   -- for this text's walks alone
set_option linter.unusedVariables false
set_option linter.unusedSimpArgs false
def bCheck.j0 : Nat → Bool → Int → List Int → Option (Int)
  | 0, _, _, _ => none
  | k + 1, x20, x138000, x138001 => if x20 = true then (some 3) else (if (Int.tmod x138000 64) > 0 then (if 0 ≤ (wrap64 ((x138001.length : Int) - 1)) then (if (wrap64 ((x138001.length : Int) - 1)) < (x138001.length : Int) then (if 0 ≤ (Int.tmod x138000 64) then (if (shr .u64 (rd x138001 (wrap64 ((x138001.length : Int) - 1))) (Int.tmod x138000 64)) = 0 then (some 0) else (some 3)) else (none)) else (none)) else (none)) else (some 0))
def bCheck.f (k : Nat) (a0_0 : Int) (l0_1 : List Int) : Option (Int) := if a0_0 < 0 then (bCheck.j0 k true a0_0 l0_1) else (if a0_0 > 4096 then (bCheck.j0 k true a0_0 l0_1) else ((bwords.f a0_0).bind fun t138 => (bCheck.j0 k ((l0_1.length : Int) != t138) a0_0 l0_1)))
theorem bCheck.mono_l : ∀ k, (∀ y0 y1 y2, LeO (bCheck.j0 k y0 y1 y2) (bCheck.j0 (k + 1) y0 y1 y2))
  | 0 => fun _ _ _ r h => by simp [bCheck.j0] at h
  | k + 1 => by
    have ih0 := bCheck.mono_l k
    · intro y0 y1 y2
      unfold bCheck.j0
      repeat' first
      | (with_reducible exact ih0 _ _ _)
      | (with_reducible exact LeO.refl _)
      | (with_reducible exact LeO.none _)
      | (with_reducible refine LeO.ite ?_ ?_)
      | (with_reducible refine LeO.bind ?_ (fun _ => ?_))
      | exact ih0 _ _ _
      | exact LeO.none _
      | refine LeO.ite ?_ ?_
      | refine LeO.bind ?_ (fun _ => ?_)
theorem bCheck.mono : ∀ a0 a1 k, LeO (bCheck.f k a0 a1) (bCheck.f (k + 1) a0 a1) := by
  intro a0 a1 k
  have ih0 := bCheck.mono_l k
  unfold bCheck.f
  repeat' first
      | (with_reducible exact ih0 _ _ _)
      | (with_reducible exact LeO.refl _)
      | (with_reducible exact LeO.none _)
      | (with_reducible refine LeO.ite ?_ ?_)
      | (with_reducible refine LeO.bind ?_ (fun _ => ?_))
      | exact ih0 _ _ _
      | exact LeO.none _
      | refine LeO.ite ?_ ?_
      | refine LeO.bind ?_ (fun _ => ?_)
set_option maxHeartbeats 8000000 in
set_option maxRecDepth 100000 in
theorem bCheck.calls (k : Nat) (a0_0 : Int) (A0_1 : Option Addr) (c0_1 : Nat) (l0_1 : List Int) (r : Int) (w : World) (hr0_1 : Kd.C (Kd.int .u64) w A0_1 l0_1.length l0_1) (hc0_1 : l0_1.length ≤ c0_1) (h : bCheck.f k a0_0 l0_1 = some r) :
    Calls Tryd.prog 20 #[.agg #[.int .i64 a0_0, .slice A0_1 l0_1.length c0_1]] w fun e w' => e = .returned (.int .i64 r) ∧ Below w.heap.size w w' := by
  have hu24 := Tryd.underlying24
  have HR0_1 := Aside0.mk hr0_1
  have HC0_1 := Aside0.mk hc0_1
  clear hr0_1 hc0_1
  have HB := Aside0.mk (Below.refl w.heap.size w)
  have H : (if a0_0 < 0 then (bCheck.j0 k true a0_0 l0_1) else (if a0_0 > 4096 then (bCheck.j0 k true a0_0 l0_1) else ((bwords.f a0_0).bind fun t138 => (bCheck.j0 k ((l0_1.length : Int) != t138) a0_0 l0_1)))) = some r := h
  clear h
  have HC2 := Aside0.mk H
  clear H
  go_enter Tryd.func20, Tryd.ntmps20
  go_upto_region 1 with (first | ((with_reducible refine gate_dst (N := 1) rfl ?_); (try (refine gate_guard (by rfl) ?_; dsimp only)); refine box_event ?hg (N := 1) ?hd (cs := #[.int .i64 a0_0, .slice A0_1 l0_1.length c0_1]) (t := 24) ?hr ?_; (case hd => rfl); (case hg => rfl); (case hr => first | (go_simp; done) | (go_simp; rfl)); intro gb137 hg w3 hbox hb; have n0_ := Aside0.mk (below_step (by repeat (first | (with_reducible first | exact HB.out | apply below_alloc | apply pw_below_drewN | apply below_drew1) | exact HB.out)) hb); have n1_ := Aside0.mk (hbox); have n2_ := Aside0.mk ((by rw [hg]; exact (below_size (by repeat (first | (with_reducible first | exact HB.out | apply below_alloc | apply pw_below_drewN | apply below_drew1) | exact HB.out))) : w.heap.size ≤ gb137)); have n3_ := Aside0.mk ((by rw [hg]; exact (below_size (by repeat (first | (with_reducible first | exact HB.out | apply below_alloc | apply pw_below_drewN | apply below_drew1) | exact HB.out))) : w.heap.size ≤ gb137)); clear HB; have HB := n0_; have BK137 := n1_; have GW137 := n2_; have GE137 := n3_; clear n0_ n1_ n2_ n3_; clear hb hbox hg))
  repeat (go_quiet (first | ((with_reducible refine gate_dst (N := 1) rfl ?_); (try (refine gate_guard (by rfl) ?_; dsimp only)); refine box_event ?hg (N := 1) ?hd (cs := #[.int .i64 a0_0, .slice A0_1 l0_1.length c0_1]) (t := 24) ?hr ?_; (case hd => rfl); (case hg => rfl); (case hr => first | (go_simp; done) | (go_simp; rfl)); intro gb137 hg w3 hbox hb; have n0_ := Aside0.mk (below_step (by repeat (first | (with_reducible first | exact HB.out | apply below_alloc | apply pw_below_drewN | apply below_drew1) | exact HB.out)) hb); have n1_ := Aside0.mk (hbox); have n2_ := Aside0.mk ((by rw [hg]; exact (below_size (by repeat (first | (with_reducible first | exact HB.out | apply below_alloc | apply pw_below_drewN | apply below_drew1) | exact HB.out))) : w.heap.size ≤ gb137)); have n3_ := Aside0.mk ((by rw [hg]; exact (below_size (by repeat (first | (with_reducible first | exact HB.out | apply below_alloc | apply pw_below_drewN | apply below_drew1) | exact HB.out))) : w.heap.size ≤ gb137)); clear HB; have HB := n0_; have BK137 := n1_; have GW137 := n2_; have GE137 := n3_; clear n0_ n1_ n2_ n3_; clear hb hbox hg)); go_upto_region 1 with (first | ((with_reducible refine gate_dst (N := 1) rfl ?_); (try (refine gate_guard (by rfl) ?_; dsimp only)); refine box_event ?hg (N := 1) ?hd (cs := #[.int .i64 a0_0, .slice A0_1 l0_1.length c0_1]) (t := 24) ?hr ?_; (case hd => rfl); (case hg => rfl); (case hr => first | (go_simp; done) | (go_simp; rfl)); intro gb137 hg w3 hbox hb; have n0_ := Aside0.mk (below_step (by repeat (first | (with_reducible first | exact HB.out | apply below_alloc | apply pw_below_drewN | apply below_drew1) | exact HB.out)) hb); have n1_ := Aside0.mk (hbox); have n2_ := Aside0.mk ((by rw [hg]; exact (below_size (by repeat (first | (with_reducible first | exact HB.out | apply below_alloc | apply pw_below_drewN | apply below_drew1) | exact HB.out))) : w.heap.size ≤ gb137)); have n3_ := Aside0.mk ((by rw [hg]; exact (below_size (by repeat (first | (with_reducible first | exact HB.out | apply below_alloc | apply pw_below_drewN | apply below_drew1) | exact HB.out))) : w.heap.size ≤ gb137)); clear HB; have HB := n0_; have BK137 := n1_; have GW137 := n2_; have GE137 := n3_; clear n0_ n1_ n2_ n3_; clear hb hbox hg)))
  (try simp only [Act.put, List.setIfInBounds_toArray, List.set_cons_zero, List.set_cons_succ])
  go_cut [20] (fun v20 wc => ∃ (kq : Nat) (x20_1 : Bool), v20 = .bool x20_1 ∧ Aside0 (bCheck.j0 kq x20_1 a0_0 l0_1 = some r) ∧ Aside0 (kq ≤ k) ∧ Aside0 (wc.heap[gb137]? = some (.cells #[.int .i64 a0_0, (.slice A0_1 l0_1.length c0_1)] 24 (0, 0))) ∧ Aside0 (Below w.heap.size w wc))
  case first =>
    have H := HC2.out
    clear HC2
    by_cases c4 : a0_0 < 0
    · rw [if_pos c4] at H
      have c4b0 : decide (a0_0 < 0) = true := decide_eq_true c4
      clear c4
      (first | rw [c4b0] | (simp only [i64_w, i32_w]; rw [c4b0]) | skip)
      have H' := Aside0.mk H
      clear H
      have hcz5_0 : w3.cell? ⟨gb137, 0, none⟩ = some (.int .i64 a0_0) := (blk_cell BK137.out 0).trans rfl
      have hcz5_1 : w3.cell? ⟨gb137, 1, none⟩ = some (.slice A0_1 l0_1.length c0_1) := (blk_cell BK137.out 1).trans rfl
      have hfz5_0 := blk_frozen BK137.out 0
      have hfz5_1 := blk_frozen BK137.out 1
      go_wp2
      repeat (go_quiet (fail); try go_wp2)
      go_meet
      case rel => exact ⟨_, (true), (by first | rfl | (simp; done) | (simp [*]; done)), H', ⟨by first | omega | exact Nat.le_refl _⟩, ⟨by (with_reducible repeat (first | refine blk_drewN ?_ _ | refine blk_drew ?_ | refine blk_alloc ?_ _)); exact BK137.out⟩, ⟨by repeat (first | (with_reducible first | exact HB.out | apply below_alloc | apply pw_below_drewN | apply below_drew1 | refine below_set ?_ GE137.out) | exact HB.out)⟩⟩
    · rw [if_neg c4] at H
      have c4b0 : decide (a0_0 < 0) = false := decide_eq_false c4
      clear c4
      (first | rw [c4b0] | (simp only [i64_w, i32_w]; rw [c4b0]) | skip)
      by_cases c6 : a0_0 > 4096
      · rw [if_pos c6] at H
        have c6b0 : decide (4096 < a0_0) = true := decide_eq_true c6
        clear c6
        have H' := Aside0.mk H
        clear H
        have hcz7_0 : w3.cell? ⟨gb137, 0, none⟩ = some (.int .i64 a0_0) := (blk_cell BK137.out 0).trans rfl
        have hcz7_1 : w3.cell? ⟨gb137, 1, none⟩ = some (.slice A0_1 l0_1.length c0_1) := (blk_cell BK137.out 1).trans rfl
        have hfz7_0 := blk_frozen BK137.out 0
        have hfz7_1 := blk_frozen BK137.out 1
        go_wp2
        repeat (go_quiet (fail); try go_wp2)
        go_meet
        case rel => exact ⟨_, (true), (by first | rfl | (simp; done) | (simp [*]; done)), H', ⟨by first | omega | exact Nat.le_refl _⟩, ⟨by (with_reducible repeat (first | refine blk_drewN ?_ _ | refine blk_drew ?_ | refine blk_alloc ?_ _)); exact BK137.out⟩, ⟨by repeat (first | (with_reducible first | exact HB.out | apply below_alloc | apply pw_below_drewN | apply below_drew1 | refine below_set ?_ GE137.out) | exact HB.out)⟩⟩
      · rw [if_neg c6] at H
        have c6b0 : decide (4096 < a0_0) = false := decide_eq_false c6
        clear c6
        replace H := Option.bind_eq_some_iff.mp H
        obtain ⟨t138, A80, H⟩ := H
        replace H : (bCheck.j0 k ((l0_1.length : Int) != t138) a0_0 l0_1) = some r := H
        have A8 := Aside0.mk A80
        clear A80
        have H' := Aside0.mk H
        clear H
        have hcz9_0 : w3.cell? ⟨gb137, 0, none⟩ = some (.int .i64 a0_0) := (blk_cell BK137.out 0).trans rfl
        have hcz9_1 : w3.cell? ⟨gb137, 1, none⟩ = some (.slice A0_1 l0_1.length c0_1) := (blk_cell BK137.out 1).trans rfl
        have hfz9_0 := blk_frozen BK137.out 0
        have hfz9_1 := blk_frozen BK137.out 1
        go_wp2_with (first | (go_at_call 43; (with_reducible refine (bwords.calls a0_0 t138 _ A8.out).mono ?_); rintro e w' ⟨rfl, ⟨nd, rfl⟩⟩; (try first | exact ⟨rfl, _, World.drewN_drewN _ _ _⟩ | exact ⟨rfl, _, Eq.trans (World.drewN_drewN _ _ _) (congrArg (World.drewN _) (Nat.add_assoc _ _ _))⟩)))
        repeat (go_quiet (first | (go_at_call 43; (with_reducible refine (bwords.calls a0_0 t138 _ A8.out).mono ?_); rintro e w' ⟨rfl, ⟨nd, rfl⟩⟩; (try first | exact ⟨rfl, _, World.drewN_drewN _ _ _⟩ | exact ⟨rfl, _, Eq.trans (World.drewN_drewN _ _ _) (congrArg (World.drewN _) (Nat.add_assoc _ _ _))⟩))); try go_wp2_with (first | (go_at_call 43; (with_reducible refine (bwords.calls a0_0 t138 _ A8.out).mono ?_); rintro e w' ⟨rfl, ⟨nd, rfl⟩⟩; (try first | exact ⟨rfl, _, World.drewN_drewN _ _ _⟩ | exact ⟨rfl, _, Eq.trans (World.drewN_drewN _ _ _) (congrArg (World.drewN _) (Nat.add_assoc _ _ _))⟩))))
        go_meet
        case rel => exact ⟨_, (((l0_1.length : Int) != t138)), (by first | rfl | (simp; done) | (simp [*]; done)), H', ⟨by first | omega | exact Nat.le_refl _⟩, ⟨by (with_reducible repeat (first | refine blk_drewN ?_ _ | refine blk_drew ?_ | refine blk_alloc ?_ _)); exact BK137.out⟩, ⟨by repeat (first | (with_reducible first | exact HB.out | apply below_alloc | apply pw_below_drewN | apply below_drew1 | refine below_set ?_ GE137.out) | exact HB.out)⟩⟩
  case rest =>
    clear HC2
    try clear c2
    try clear p2
    try clear c4
    try clear c4b0
    try clear c6
    try clear c6b0
    try clear hcz5_0
    try clear hcz5_1
    try clear hcz7_0
    try clear hcz7_1
    try clear hcz9_0
    try clear hcz9_1
    try clear hfz5_0
    try clear hfz5_1
    try clear hfz7_0
    try clear hfz7_1
    try clear hfz9_0
    try clear hfz9_1
    obtain ⟨kq, x20_1, rfl, HA, HJ1, BK137, HB⟩ := hcut
    cases kq with
    | zero => exact absurd HA.out (by simp [bCheck.j0])
    | succ kj1 =>
      have H := HA.out
      clear HA
      simp only [bCheck.j0] at H
      by_cases c10 : x20_1 = true
      · subst c10
        have H1 : (some 3) = some r := by rw [if_pos rfl] at H; exact H
        clear H
        have H := H1
        clear H1
        obtain rfl := Option.some.inj H
        go_wp2
        repeat (go_quiet (fail); try go_wp2)
        go_ret
        exact ⟨by first | rfl | (simp [errW_none, errW_some] <;> rfl) | (simp [*, errW_none, errW_some] <;> rfl), by repeat (first | (with_reducible first | exact HB.out | apply below_alloc | apply pw_below_drewN | apply below_drew1 | refine below_set ?_ GE137.out) | exact HB.out)⟩
      · replace c10 := Bool.eq_false_iff.mpr c10
        subst c10
        have H1 : (if (Int.tmod a0_0 64) > 0 then (if 0 ≤ (wrap64 ((l0_1.length : Int) - 1)) then (if (wrap64 ((l0_1.length : Int) - 1)) < (l0_1.length : Int) then (if 0 ≤ (Int.tmod a0_0 64) then (if (shr .u64 (rd l0_1 (wrap64 ((l0_1.length : Int) - 1))) (Int.tmod a0_0 64)) = 0 then (some 0) else (some 3)) else (none)) else (none)) else (none)) else (some 0)) = some r := by rw [if_neg (show ¬ (false = true) by decide)] at H; exact H
        clear H
        have H := H1
        clear H1
        by_cases c11 : (Int.tmod a0_0 64) > 0
        · rw [if_pos c11] at H
          have c11b0 : decide (0 < (Int.tmod a0_0 64)) = true := decide_eq_true c11
          clear c11
          obtain ⟨ji12, hji12⟩ : ∃ j_ : Int, (wrap64 ((l0_1.length : Int) - 1)) = j_ := ⟨_, rfl⟩
          replace H : (if 0 ≤ (ji12) then (if (ji12) < (l0_1.length : Int) then (if 0 ≤ (Int.tmod a0_0 64) then (if (shr .u64 (rd l0_1 (ji12)) (Int.tmod a0_0 64)) = 0 then (some 0) else (some 3)) else (none)) else (none)) else (none)) = some r := by first | (rw [hji12] at H; exact H) | (simp only [hji12] at H ⊢; exact H)
          have hji12w : (IntKind.i64.wrap ((l0_1.length : Int) - 1)) = ji12 := (i64_w _).trans hji12
          by_cases c13 : 0 ≤ (ji12)
          · rw [if_pos c13] at H
            have c13b0 : decide (0 ≤ (ji12)) = true := decide_eq_true c13
            clear c13
            by_cases c14 : (ji12) < (l0_1.length : Int)
            · rw [if_pos c14] at H
              have c14b0 : decide ((ji12) < (l0_1.length : Int)) = true := decide_eq_true c14
              clear c14
              obtain ⟨ji15, hji15⟩ : ∃ j_ : Int, (Int.tmod a0_0 64) = j_ := ⟨_, rfl⟩
              replace H : (if 0 ≤ (ji15) then (if (shr .u64 (rd l0_1 (ji12)) (ji15)) = 0 then (some 0) else (some 3)) else (none)) = some r := by first | (rw [hji15] at H; exact H) | (simp only [hji15] at H ⊢; exact H)
              (try rw [hji15] at c11b0)
              by_cases c16 : 0 ≤ (ji15)
              · rw [if_pos c16] at H
                have c16b0 := eq_true c16
                have c16b1 : decide (0 ≤ (ji15)) = true := decide_eq_true c16
                clear c16
                obtain ⟨ji17, hji17⟩ : ∃ j_ : Int, (shr .u64 (rd l0_1 (ji12)) (ji15)) = j_ := ⟨_, rfl⟩
                replace H : (if (ji17) = 0 then (some 0) else (some 3)) = some r := by first | (rw [hji17] at H; exact H) | (simp only [hji17] at H ⊢; exact H)
                have hji17_ : ((rd l0_1 (ji12)) / 2 ^ min (ji15).toNat 64) = ji17 := hji17
                have hji17z : (ji15) ≤ 64 → ((rd l0_1 (ji12)) / 2 ^ (ji15).toNat) = ji17 := shr_small hji17
                by_cases c18 : (ji17) = 0
                · rw [if_pos c18] at H
                  have c18b0 : ((ji17) == 0) = true := beq_iff_eq.mpr c18
                  have c18b1 : ((ji17) != 0) = false := bne_eq_false_iff_eq.mpr c18
                  clear c18
                  obtain rfl := Option.some.inj H
                  have hcz19_0 : wc.cell? ⟨gb137, 0, none⟩ = some (.int .i64 a0_0) := (blk_cell BK137.out 0).trans rfl
                  have hcz19_1 : wc.cell? ⟨gb137, 1, none⟩ = some (.slice A0_1 l0_1.length c0_1) := (blk_cell BK137.out 1).trans rfl
                  have hfz19_0 := blk_frozen BK137.out 0
                  have hfz19_1 := blk_frozen BK137.out 1
                  have p139 : 0 ≤ ((ji12) : Int) := of_decide_eq_true (by first | (with_reducible assumption) | assumption)
                  have q139 : (ji12) < (l0_1.length : Int) := of_decide_eq_true (by first | (with_reducible assumption) | assumption)
                  obtain ⟨ad139, e139, hx139_0⟩ := Kd.at_int HR0_1.out (ji12) p139 q139
                  cases e139
                  replace hx139_0 := (HB.out.cell (World.block_lt_of_cell? w _ hx139_0)).trans hx139_0
                  replace p139 := eq_true p139
                  replace q139 := eq_true q139
                  go_wp2
                  repeat (go_quiet (fail); try go_wp2)
                  go_ret
                  exact ⟨by first | rfl | (simp [errW_none, errW_some] <;> rfl) | (simp only [← hji12, ← hji15, ← hji17]; first | rfl | (simp [errW_none, errW_some] <;> rfl)) | (simp [*, errW_none, errW_some] <;> rfl), by repeat (first | (with_reducible first | exact HB.out | apply below_alloc | apply pw_below_drewN | apply below_drew1 | refine below_set ?_ GE137.out) | exact HB.out)⟩
                · rw [if_neg c18] at H
                  have c18b0 : ((ji17) == 0) = false := beq_eq_false_iff_ne.mpr c18
                  have c18b1 : ((ji17) != 0) = true := bne_iff_ne.mpr c18
                  obtain rfl := Option.some.inj H
                  have hcz20_0 : wc.cell? ⟨gb137, 0, none⟩ = some (.int .i64 a0_0) := (blk_cell BK137.out 0).trans rfl
                  have hcz20_1 : wc.cell? ⟨gb137, 1, none⟩ = some (.slice A0_1 l0_1.length c0_1) := (blk_cell BK137.out 1).trans rfl
                  have hfz20_0 := blk_frozen BK137.out 0
                  have hfz20_1 := blk_frozen BK137.out 1
                  have p139 : 0 ≤ ((ji12) : Int) := of_decide_eq_true (by first | (with_reducible assumption) | assumption)
                  have q139 : (ji12) < (l0_1.length : Int) := of_decide_eq_true (by first | (with_reducible assumption) | assumption)
                  obtain ⟨ad139, e139, hx139_0⟩ := Kd.at_int HR0_1.out (ji12) p139 q139
                  cases e139
                  replace hx139_0 := (HB.out.cell (World.block_lt_of_cell? w _ hx139_0)).trans hx139_0
                  replace p139 := eq_true p139
                  replace q139 := eq_true q139
                  go_wp2
                  repeat (go_quiet (fail); try go_wp2)
                  go_ret
                  exact ⟨by first | rfl | (simp [errW_none, errW_some] <;> rfl) | (simp only [← hji12, ← hji15, ← hji17]; first | rfl | (simp [errW_none, errW_some] <;> rfl)) | (simp [*, errW_none, errW_some] <;> rfl), by repeat (first | (with_reducible first | exact HB.out | apply below_alloc | apply pw_below_drewN | apply below_drew1 | refine below_set ?_ GE137.out) | exact HB.out)⟩
              · rw [if_neg c16] at H
                exact absurd H (by simp)
            · rw [if_neg c14] at H
              exact absurd H (by simp)
          · rw [if_neg c13] at H
            exact absurd H (by simp)
        · rw [if_neg c11] at H
          have c11b0 : decide (0 < (Int.tmod a0_0 64)) = false := decide_eq_false c11
          clear c11
          obtain rfl := Option.some.inj H
          have hcz21_0 : wc.cell? ⟨gb137, 0, none⟩ = some (.int .i64 a0_0) := (blk_cell BK137.out 0).trans rfl
          have hcz21_1 : wc.cell? ⟨gb137, 1, none⟩ = some (.slice A0_1 l0_1.length c0_1) := (blk_cell BK137.out 1).trans rfl
          have hfz21_0 := blk_frozen BK137.out 0
          have hfz21_1 := blk_frozen BK137.out 1
          go_wp2
          repeat (go_quiet (fail); try go_wp2)
          go_ret
          exact ⟨by first | rfl | (simp [errW_none, errW_some] <;> rfl) | (simp [*, errW_none, errW_some] <;> rfl), by repeat (first | (with_reducible first | exact HB.out | apply below_alloc | apply pw_below_drewN | apply below_drew1 | refine below_set ?_ GE137.out) | exact HB.out)⟩
def bfits.f (a0_0 : Int) (a0_1 : Int) (a1 : Int) : Option (Bool) := if a0_0 ≥ 0 then (if a0_1 ≥ 0 then (if a0_0 ≤ a1 then (some (decide (a0_1 ≤ (wrap64 (a1 - a0_0))))) else (some false)) else (some false)) else (some false)
set_option maxHeartbeats 8000000 in
set_option maxRecDepth 100000 in
theorem bfits.calls (a0_0 : Int) (a0_1 : Int) (a1 : Int) (r : Bool) (w : World) (h : bfits.f a0_0 a0_1 a1 = some r) :
    Calls Tryd.prog 53 #[.agg #[.int .i64 a0_0, .int .i64 a0_1], .int .i64 a1] w fun e w' => e = .returned (.bool r) ∧ Below w.heap.size w w' := by
  have hu26 := Tryd.underlying26
  have HB := Aside0.mk (Below.refl w.heap.size w)
  have H : (if a0_0 ≥ 0 then (if a0_1 ≥ 0 then (if a0_0 ≤ a1 then (some (decide (a0_1 ≤ (wrap64 (a1 - a0_0))))) else (some false)) else (some false)) else (some false)) = some r := h
  clear h
  by_cases c3 : a0_0 ≥ 0
  · rw [if_pos c3] at H
    have c3b0 : decide (0 ≤ a0_0) = true := decide_eq_true c3
    clear c3
    by_cases c4 : a0_1 ≥ 0
    · rw [if_pos c4] at H
      have c4b0 : decide (0 ≤ a0_1) = true := decide_eq_true c4
      clear c4
      by_cases c5 : a0_0 ≤ a1
      · rw [if_pos c5] at H
        have c5b0 : decide (a0_0 ≤ a1) = true := decide_eq_true c5
        clear c5
        obtain rfl := Option.some.inj H
        go_enter Tryd.func53, Tryd.ntmps53
        go_wp2_with (first | ((with_reducible refine gate_dst (N := 2) rfl ?_); refine box_event ?hg (N := 2) ?hd (cs := #[.int .i64 a0_0, .int .i64 a0_1]) (t := 26) ?hr ?_; (case hd => rfl); (case hg => rfl); (case hr => first | (go_simp; done) | (go_simp; rfl)); intro gb140 hg w6 hbox hb; have n0_ := Aside0.mk (below_step (by repeat (first | (with_reducible first | exact HB.out | apply below_alloc | apply pw_below_drewN | apply below_drew1) | exact HB.out)) hb); have n1_ := Aside0.mk (hbox); have n2_ := Aside0.mk ((by rw [hg]; exact (below_size (by repeat (first | (with_reducible first | exact HB.out | apply below_alloc | apply pw_below_drewN | apply below_drew1) | exact HB.out))) : w.heap.size ≤ gb140)); have n3_ := Aside0.mk ((by rw [hg]; exact (below_size (by repeat (first | (with_reducible first | exact HB.out | apply below_alloc | apply pw_below_drewN | apply below_drew1) | exact HB.out))) : w.heap.size ≤ gb140)); clear HB; have HB := n0_; have BK140 := n1_; have GW140 := n2_; have GE140 := n3_; clear n0_ n1_ n2_ n3_; clear hb hbox hg; have hcz7_0 : w6.cell? ⟨gb140, 0, none⟩ = some (.int .i64 a0_0) := (blk_cell BK140.out 0).trans rfl; have hcz7_1 : w6.cell? ⟨gb140, 1, none⟩ = some (.int .i64 a0_1) := (blk_cell BK140.out 1).trans rfl; have hfz7_0 := blk_frozen BK140.out 0; have hfz7_1 := blk_frozen BK140.out 1))
        go_ret
        exact ⟨by first | rfl | (simp [errW_none, errW_some] <;> rfl) | (simp [*, errW_none, errW_some] <;> rfl), by repeat (first | (with_reducible first | exact HB.out | apply below_alloc | apply pw_below_drewN | apply below_drew1 | refine below_set ?_ GE140.out) | exact HB.out)⟩
      · rw [if_neg c5] at H
        have c5b0 : decide (a0_0 ≤ a1) = false := decide_eq_false c5
        clear c5
        obtain rfl := Option.some.inj H
        go_enter Tryd.func53, Tryd.ntmps53
        go_wp2_with (first | ((with_reducible refine gate_dst (N := 2) rfl ?_); refine box_event ?hg (N := 2) ?hd (cs := #[.int .i64 a0_0, .int .i64 a0_1]) (t := 26) ?hr ?_; (case hd => rfl); (case hg => rfl); (case hr => first | (go_simp; done) | (go_simp; rfl)); intro gb140 hg w8 hbox hb; have n0_ := Aside0.mk (below_step (by repeat (first | (with_reducible first | exact HB.out | apply below_alloc | apply pw_below_drewN | apply below_drew1) | exact HB.out)) hb); have n1_ := Aside0.mk (hbox); have n2_ := Aside0.mk ((by rw [hg]; exact (below_size (by repeat (first | (with_reducible first | exact HB.out | apply below_alloc | apply pw_below_drewN | apply below_drew1) | exact HB.out))) : w.heap.size ≤ gb140)); have n3_ := Aside0.mk ((by rw [hg]; exact (below_size (by repeat (first | (with_reducible first | exact HB.out | apply below_alloc | apply pw_below_drewN | apply below_drew1) | exact HB.out))) : w.heap.size ≤ gb140)); clear HB; have HB := n0_; have BK140 := n1_; have GW140 := n2_; have GE140 := n3_; clear n0_ n1_ n2_ n3_; clear hb hbox hg; have hcz9_0 : w8.cell? ⟨gb140, 0, none⟩ = some (.int .i64 a0_0) := (blk_cell BK140.out 0).trans rfl; have hcz9_1 : w8.cell? ⟨gb140, 1, none⟩ = some (.int .i64 a0_1) := (blk_cell BK140.out 1).trans rfl; have hfz9_0 := blk_frozen BK140.out 0; have hfz9_1 := blk_frozen BK140.out 1))
        go_ret
        exact ⟨by first | rfl | (simp [errW_none, errW_some] <;> rfl) | (simp [*, errW_none, errW_some] <;> rfl), by repeat (first | (with_reducible first | exact HB.out | apply below_alloc | apply pw_below_drewN | apply below_drew1 | refine below_set ?_ GE140.out) | exact HB.out)⟩
    · rw [if_neg c4] at H
      have c4b0 : decide (0 ≤ a0_1) = false := decide_eq_false c4
      clear c4
      obtain rfl := Option.some.inj H
      go_enter Tryd.func53, Tryd.ntmps53
      go_wp2_with (first | ((with_reducible refine gate_dst (N := 2) rfl ?_); refine box_event ?hg (N := 2) ?hd (cs := #[.int .i64 a0_0, .int .i64 a0_1]) (t := 26) ?hr ?_; (case hd => rfl); (case hg => rfl); (case hr => first | (go_simp; done) | (go_simp; rfl)); intro gb140 hg w10 hbox hb; have n0_ := Aside0.mk (below_step (by repeat (first | (with_reducible first | exact HB.out | apply below_alloc | apply pw_below_drewN | apply below_drew1) | exact HB.out)) hb); have n1_ := Aside0.mk (hbox); have n2_ := Aside0.mk ((by rw [hg]; exact (below_size (by repeat (first | (with_reducible first | exact HB.out | apply below_alloc | apply pw_below_drewN | apply below_drew1) | exact HB.out))) : w.heap.size ≤ gb140)); have n3_ := Aside0.mk ((by rw [hg]; exact (below_size (by repeat (first | (with_reducible first | exact HB.out | apply below_alloc | apply pw_below_drewN | apply below_drew1) | exact HB.out))) : w.heap.size ≤ gb140)); clear HB; have HB := n0_; have BK140 := n1_; have GW140 := n2_; have GE140 := n3_; clear n0_ n1_ n2_ n3_; clear hb hbox hg; have hcz11_0 : w10.cell? ⟨gb140, 0, none⟩ = some (.int .i64 a0_0) := (blk_cell BK140.out 0).trans rfl; have hcz11_1 : w10.cell? ⟨gb140, 1, none⟩ = some (.int .i64 a0_1) := (blk_cell BK140.out 1).trans rfl; have hfz11_0 := blk_frozen BK140.out 0; have hfz11_1 := blk_frozen BK140.out 1))
      go_ret
      exact ⟨by first | rfl | (simp [errW_none, errW_some] <;> rfl) | (simp [*, errW_none, errW_some] <;> rfl), by repeat (first | (with_reducible first | exact HB.out | apply below_alloc | apply pw_below_drewN | apply below_drew1 | refine below_set ?_ GE140.out) | exact HB.out)⟩
  · rw [if_neg c3] at H
    have c3b0 : decide (0 ≤ a0_0) = false := decide_eq_false c3
    clear c3
    obtain rfl := Option.some.inj H
    go_enter Tryd.func53, Tryd.ntmps53
    go_wp2_with (first | ((with_reducible refine gate_dst (N := 2) rfl ?_); refine box_event ?hg (N := 2) ?hd (cs := #[.int .i64 a0_0, .int .i64 a0_1]) (t := 26) ?hr ?_; (case hd => rfl); (case hg => rfl); (case hr => first | (go_simp; done) | (go_simp; rfl)); intro gb140 hg w12 hbox hb; have n0_ := Aside0.mk (below_step (by repeat (first | (with_reducible first | exact HB.out | apply below_alloc | apply pw_below_drewN | apply below_drew1) | exact HB.out)) hb); have n1_ := Aside0.mk (hbox); have n2_ := Aside0.mk ((by rw [hg]; exact (below_size (by repeat (first | (with_reducible first | exact HB.out | apply below_alloc | apply pw_below_drewN | apply below_drew1) | exact HB.out))) : w.heap.size ≤ gb140)); have n3_ := Aside0.mk ((by rw [hg]; exact (below_size (by repeat (first | (with_reducible first | exact HB.out | apply below_alloc | apply pw_below_drewN | apply below_drew1) | exact HB.out))) : w.heap.size ≤ gb140)); clear HB; have HB := n0_; have BK140 := n1_; have GW140 := n2_; have GE140 := n3_; clear n0_ n1_ n2_ n3_; clear hb hbox hg; have hcz13_0 : w12.cell? ⟨gb140, 0, none⟩ = some (.int .i64 a0_0) := (blk_cell BK140.out 0).trans rfl; have hcz13_1 : w12.cell? ⟨gb140, 1, none⟩ = some (.int .i64 a0_1) := (blk_cell BK140.out 1).trans rfl; have hfz13_0 := blk_frozen BK140.out 0; have hfz13_1 := blk_frozen BK140.out 1))
    go_ret
    exact ⟨by first | rfl | (simp [errW_none, errW_some] <;> rfl) | (simp [*, errW_none, errW_some] <;> rfl), by repeat (first | (with_reducible first | exact HB.out | apply below_alloc | apply pw_below_drewN | apply below_drew1 | refine below_set ?_ GE140.out) | exact HB.out)⟩
def bmask.f (a0 : Int) (a1 : Int) (a2 : Int) : Option (Int) := if (mx (wrap64 (a1 - (wrap64 (a0 * 64)))) 0) ≥ (mn (wrap64 (a2 - (wrap64 (a0 * 64)))) 64) then (some 0) else (if 0 ≤ (wrap64 (64 - (wrap64 ((mn (wrap64 (a2 - (wrap64 (a0 * 64)))) 64) - (mx (wrap64 (a1 - (wrap64 (a0 * 64)))) 0))))) then (some (shl .u64 (shr .u64 18446744073709551615 (wrap64 (64 - (wrap64 ((mn (wrap64 (a2 - (wrap64 (a0 * 64)))) 64) - (mx (wrap64 (a1 - (wrap64 (a0 * 64)))) 0)))))) (mx (wrap64 (a1 - (wrap64 (a0 * 64)))) 0))) else (none))
end Go.Proofs.YthpldfjjdmjcoaaDoor.P

namespace Go.Proofs.YthpldfjjdmjcoaaDoor.P
/-- The places of the bits of a word, in ascending order. -/
def bitsOf (w : Nat) : List Nat := (List.range 64).filter fun i => w.testBit i
theorem filter_first (k : Nat) (p q : Nat → Bool) (hp : ∀ i, p i = (decide (i = k) || q i)) (hq : ∀ i, q i = true → k < i) :
    ∀ n, ((List.range n).filter p = if k < n then k :: (List.range n).filter q else []) ∧ (n ≤ k → (List.range n).filter q = [])
  | 0 => by simp
  | n + 1 => by
    obtain ⟨h1, h2⟩ := filter_first k p q hp hq n
    rw [List.range_succ, List.filter_append, List.filter_append, h1]
    have hpn : p n = (decide (n = k) || q n) := hp n
    constructor
    · rcases Nat.lt_trichotomy n k with h | h | h
      · have hqn : q n = false := by
          cases e : q n
          · rfl
          · have := hq n e; omega
        rw [if_neg (by omega), if_neg (by omega)]
        simp [hpn, hqn, show n ≠ k by omega]
      · subst h
        have hqn : q n = false := by
          cases e : q n
          · rfl
          · have := hq n e; omega
        rw [if_neg (by omega), if_pos (by omega), h2 (by omega)]
        simp [hpn, hqn]
      · rw [if_pos h, if_pos (by omega)]
        have : p n = q n := by rw [hpn]; simp [show n ≠ k by omega]
        simp [List.filter_cons, this]
    · intro hn
      rw [h2 (by omega)]
      have hqn : q n = false := by
        cases e : q n
        · rfl
        · have := hq n e; omega
      simp [hqn]
theorem bitsOf_zero : bitsOf 0 = [] := by unfold bitsOf; simp
theorem tb_mul (k a i : Nat) : (2 ^ k * a).testBit i = (decide (k ≤ i) && a.testBit (i - k)) := by rw [Nat.mul_comm, Nat.testBit_mul_two_pow]
/-- x & (x - 1) for x = 2^k (2m + 1): 2^(k+1) m. -/
theorem and_pred (k m : Nat) : (2 ^ k * (2 * m + 1)) &&& (2 ^ k * (2 * m + 1) - 1) = 2 ^ (k + 1) * m := by
  have hp : 0 < 2 ^ k := Nat.pow_pos (by decide)
  have e : 2 ^ k * (2 * m + 1) - 1 = 2 ^ k * (2 * m) + (2 ^ k - 1) := by rw [Nat.mul_add, Nat.mul_one]; omega
  apply Nat.eq_of_testBit_eq
  intro i
  rw [Nat.testBit_and, e, Nat.testBit_two_pow_mul_add _ (by omega), tb_mul, tb_mul]
  by_cases h : i < k
  · simp [h, show ¬ k ≤ i by omega, show ¬ k + 1 ≤ i by omega]
  · by_cases h2 : i = k
    · subst h2
      simp
      omega
    · obtain ⟨j, rfl⟩ : ∃ j, i = k + (j + 1) := ⟨i - k - 1, by omega⟩
      rw [if_neg (by omega)]
      have e3 : k + (j + 1) - k = j + 1 := by omega
      have e4 : k + (j + 1) - (k + 1) = j := by omega
      simp only [e3, e4, show k ≤ k + (j + 1) by omega, show k + 1 ≤ k + (j + 1) by omega, decide_true, Bool.true_and]
      rw [Nat.testBit_succ, Nat.testBit_succ]
      have d1 : (2 * m + 1) / 2 = m := by omega
      have d2 : 2 * m / 2 = m := by omega
      rw [d1, d2, Bool.and_self]
/-- The lowest bit first. -/
theorem bitsOf_step (x : Nat) (h0 : x ≠ 0) (h : x < 2 ^ 64) : bitsOf x = Lib.ctz 64 x :: bitsOf (x &&& (x - 1)) ∧ (x &&& (x - 1)) < x ∧ Lib.ctz 64 x < 64 := by
  obtain ⟨m, hm, hk⟩ := Lib.ctzFrom_spec 64 x (by omega) h
  have e : Lib.ctz 64 x = Lib.ctzFrom 64 x := by simp [Lib.ctz, h0]
  rw [e]
  have ha := and_pred (Lib.ctzFrom 64 x) m
  rw [← hm] at ha
  generalize Lib.ctzFrom 64 x = k at *
  have hpos : 0 < 2 ^ k := Nat.pow_pos (by decide)
  refine ⟨?_, ?_, hk⟩
  · have := (filter_first k (fun i => x.testBit i) (fun i => (x &&& (x - 1)).testBit i) (fun i => ?_) (fun i hi => ?_) 64).1
    · rw [if_pos hk] at this; exact this
    · rw [ha, hm, tb_mul, tb_mul]
      rcases Nat.lt_trichotomy i k with g | g | g
      · simp [show ¬ k ≤ i by omega, show ¬ k + 1 ≤ i by omega, show i ≠ k by omega]
      · subst g; simp
      · obtain ⟨j, rfl⟩ : ∃ j, i = k + (j + 1) := ⟨i - k - 1, by omega⟩
        have e3 : k + (j + 1) - k = j + 1 := by omega
        have e4 : k + (j + 1) - (k + 1) = j := by omega
        simp only [e3, e4, show k ≤ k + (j + 1) by omega, show k + 1 ≤ k + (j + 1) by omega, decide_true, Bool.true_and]
        rw [Nat.testBit_succ, show (2 * m + 1) / 2 = m by omega]
        simp
    · rw [ha, tb_mul] at hi
      simp only [Bool.and_eq_true, decide_eq_true_eq] at hi
      omega
  · rw [ha, hm, Nat.pow_succ, Nat.mul_assoc]
    exact Nat.mul_lt_mul_of_pos_left (by omega) hpos
end Go.Proofs.YthpldfjjdmjcoaaDoor.P

namespace Go.Proofs.YthpldfjjdmjcoaaDoor.P
open Go.RowKit Go.Proofs.YthpldfjjdmjcoaaDoorW.PrintWords Go.Proofs.YthpldfjjdmjcoaaDoorW.PrintLast Go.Proofs.YthpldfjjdmjcoaaDoorW.PrintMore
/-- The mask of a word. -/
def mkW (i lo hi : Int) : Int := (bmask.f i lo hi).getD 0
/-- Is a bitmap well-formed? -/
def good (size : Int) (ws : List Int) : Bool := decide (bCheck.f 1 size ws = some 0)
def fit (s c size : Int) : Bool := decide (bfits.f s c size = some true)
def bChange (op : BinOp) (size : Int) (ws : List Int) (s c : Int) : Int × List Int × Int :=
  if good size ws then (if fit s c size then (size, ws.mapIdx fun i w => Go.bits op .u64 w (mkW i s (wrap64 (s + c))), 0) else (0, [], 2)) else (0, [], 3)
def bSet.f (size : Int) (ws : List Int) (s c : Int) : Option (Int × List Int × Int) := some (bChange .or size ws s c)
def bClear.f (size : Int) (ws : List Int) (s c : Int) : Option (Int × List Int × Int) := some (bChange .andNot size ws s c)
/-- The word i, with the bits before 'lo' struck, and those from the size on. -/
def cutW (ws : List Int) (lo size : Int) (i : Nat) : Nat := (Go.bits .and .u64 (rd ws i) (mkW i lo size)).toNat
def elemsW (ws : List Int) (lo size : Int) (i : Nat) : List Int := (bitsOf (cutW ws lo size i)).map fun (b : Nat) => ((i * 64 + b : Nat) : Int)
/-- The elements from 'lo' on, in ascending order. -/
def elems (ws : List Int) (lo size : Int) : List Int := (List.range ws.length).flatMap (elemsW ws lo size)
def bElems (size : Int) (ws : List Int) (lo : Int) : List Int := if good size ws then elems ws lo size else []
def bNext.f (size : Int) (ws : List Int) (lo : Int) : Option Int := some ((bElems size ws (mx lo 0)).head?.getD (-1))
/-- One element more: it lengthens the last extent, or begins a new one. -/
def joinE (l : List S26) (x : Int) : List S26 :=
  match l.getLast? with
  | some e => if wrap64 (e.f0 + e.f1) = x then l.dropLast ++ [⟨e.f0, wrap64 (e.f1 + 1)⟩] else l ++ [⟨x, 1⟩]
  | none => [⟨x, 1⟩]
def bExtents.f (size : Int) (ws : List Int) : Option (List S26) := some ((bElems size ws 0).foldl joinE [])
theorem w64 (x : Int) (h0 : -9223372036854775808 ≤ x) (h1 : x ≤ 9223372036854775807) : wrap64 x = x := by unfold wrap64; omega
theorem words_eq (n : Int) (h0 : 0 ≤ n) (h1 : n ≤ 4096) : bwords.f n = some ((n + 63) / 64) := by
  unfold bwords.f
  rw [w64 (n + 64) (by omega) (by omega), w64 (n + 64 - 1) (by omega) (by omega), Int.tdiv_eq_ediv_of_nonneg (by omega), w64 _ (by omega) (by omega)]
  congr 2; omega
/-- Well-formed, in plain words. -/
structure Good (size : Int) (ws : List Int) : Prop where
  lo : 0 ≤ size
  hi : size ≤ 4096
  len : (ws.length : Int) = (size + 63) / 64
  last : 0 < size % 64 → rd ws ((ws.length : Int) - 1) / 2 ^ (size % 64).toNat = 0
theorem check_j (b : Bool) (size : Int) (ws : List Int) (k : Nat) : b = true → bCheck.j0 (k + 1) b size ws = some 3 := by
  intro h; simp only [bCheck.j0]; rw [if_pos h]
theorem check_any (k : Nat) (size : Int) (ws : List Int) : (Good size ws ∧ bCheck.f (k + 1) size ws = some 0) ∨ (¬ Good size ws ∧ bCheck.f (k + 1) size ws = some 3) := by
  unfold bCheck.f
  by_cases h1 : size < 0
  · rw [if_pos h1]; exact .inr ⟨fun g => by have := g.lo; omega, check_j _ _ _ _ rfl⟩
  rw [if_neg h1]
  by_cases h2 : size > 4096
  · rw [if_pos h2]; exact .inr ⟨fun g => by have := g.hi; omega, check_j _ _ _ _ rfl⟩
  rw [if_neg h2, words_eq size (by omega) (by omega)]
  simp only [Option.bind_some]
  by_cases h3 : (ws.length : Int) = (size + 63) / 64
  · rw [show ((ws.length : Int) != (size + 63) / 64) = false from by simpa using h3]
    simp only [bCheck.j0]
    rw [if_neg (by decide), Int.tmod_eq_emod_of_nonneg (by omega)]
    by_cases h4 : size % 64 > 0
    · rw [if_pos h4, w64 ((ws.length : Int) - 1) (by omega) (by omega), if_pos (by omega), if_pos (by omega), if_pos (by omega)]
      have hs : shr .u64 (rd ws ((ws.length : Int) - 1)) (size % 64) = rd ws ((ws.length : Int) - 1) / 2 ^ (size % 64).toNat := by
        unfold shr; rw [Nat.min_eq_left (by simp only [IntKind.bits]; omega)]
      rw [hs]
      by_cases h5 : rd ws ((ws.length : Int) - 1) / 2 ^ (size % 64).toNat = 0
      · rw [if_pos h5]; exact .inl ⟨⟨by omega, by omega, h3, fun _ => h5⟩, rfl⟩
      · rw [if_neg h5]; exact .inr ⟨fun g => h5 (g.last h4), rfl⟩
    · rw [if_neg h4]; exact .inl ⟨⟨by omega, by omega, h3, fun h => absurd h h4⟩, rfl⟩
  · rw [show ((ws.length : Int) != (size + 63) / 64) = true from by simpa using h3]
    exact .inr ⟨fun g => h3 g.len, check_j _ _ _ _ rfl⟩
theorem good_yes {size : Int} {ws : List Int} (h : Good size ws) (k : Nat) : bCheck.f (k + 1) size ws = some 0 := by
  rcases check_any k size ws with h' | h'
  · exact h'.2
  · exact absurd h h'.1
theorem good_no {size : Int} {ws : List Int} (h : ¬ Good size ws) (k : Nat) : bCheck.f (k + 1) size ws = some 3 := by
  rcases check_any k size ws with h' | h'
  · exact absurd h'.1 h
  · exact h'.2
theorem good_iff (size : Int) (ws : List Int) : good size ws = true ↔ Good size ws := by
  unfold good
  rw [decide_eq_true_iff]
  rcases check_any 0 size ws with ⟨h, e⟩ | ⟨h, e⟩
  · exact ⟨fun _ => h, fun _ => e⟩
  · exact ⟨fun h' => by rw [e] at h'; simp at h', fun h' => absurd h' h⟩
theorem Good.len_le {size : Int} {ws : List Int} (h : Good size ws) : ws.length ≤ 64 := by have := h.len; have := h.hi; omega
def Fits (s c size : Int) : Prop := 0 ≤ s ∧ 0 ≤ c ∧ s ≤ size ∧ c ≤ wrap64 (size - s)
instance (s c size : Int) : Decidable (Fits s c size) := by unfold Fits; infer_instance
theorem fits_eq (s c size : Int) : bfits.f s c size = some (decide (Fits s c size)) := by
  unfold bfits.f Fits
  by_cases h1 : s ≥ 0
  · rw [if_pos h1]
    by_cases h2 : c ≥ 0
    · rw [if_pos h2]
      by_cases h3 : s ≤ size
      · rw [if_pos h3]; congr 1; simp [show 0 ≤ s from h1, show 0 ≤ c from h2, h3]
      · rw [if_neg h3]; congr 1; simp [h3]
    · rw [if_neg h2]; congr 1; simp [show ¬ 0 ≤ c from h2]
  · rw [if_neg h1]; congr 1; simp [show ¬ 0 ≤ s from h1]
theorem fit_eq (s c size : Int) : fit s c size = decide (Fits s c size) := by unfold fit; rw [fits_eq]; by_cases h : Fits s c size <;> simp [h]
theorem Fits.bounds {s c size : Int} (h : Fits s c size) (h0 : 0 ≤ size) (h1 : size ≤ 4096) : 0 ≤ s ∧ 0 ≤ c ∧ s + c ≤ size := by
  obtain ⟨a, b, d, e⟩ := h
  rw [w64 (size - s) (by omega) (by omega)] at e
  omega
theorem mx_eq (a b : Int) : mx a b = max a b := by unfold mx; omega
theorem mn_eq (a b : Int) : mn a b = min a b := by unfold mn; omega
/-- The mask of word i: the bits from 'lo' to before 'hi'. -/
def maskN (a b : Nat) : Nat := if b ≤ a then 0 else (2 ^ (b - a) - 1) * 2 ^ a
theorem mask_eq (i : Nat) (lo hi : Int) (hi0 : i ≤ 64) (l0 : 0 ≤ lo) (l1 : lo ≤ 9223372036854775807) (h0 : 0 ≤ hi) (h1 : hi ≤ 4096) :
    bmask.f i lo hi = some ((maskN (lo - i * 64).toNat (min (hi - i * 64) 64).toNat : Nat) : Int) := by
  have e1 : wrap64 ((i : Int) * 64) = i * 64 := w64 _ (by omega) (by omega)
  have e2 : wrap64 (lo - (i : Int) * 64) = lo - i * 64 := w64 _ (by omega) (by omega)
  have e3 : wrap64 (hi - (i : Int) * 64) = hi - i * 64 := w64 _ (by omega) (by omega)
  unfold bmask.f
  rw [e1, e2, e3, mx_eq, mn_eq]
  unfold maskN
  by_cases h : max (lo - (i : Int) * 64) 0 ≥ min (hi - (i : Int) * 64) 64
  · rw [if_pos h, if_pos (show (min (hi - (i : Int) * 64) 64).toNat ≤ (lo - (i : Int) * 64).toNat by omega)]; rfl
  · rw [if_neg h, if_neg (show ¬ (min (hi - (i : Int) * 64) 64).toNat ≤ (lo - (i : Int) * 64).toNat by omega)]
    have e4 : wrap64 (min (hi - (i : Int) * 64) 64 - max (lo - (i : Int) * 64) 0) = min (hi - (i : Int) * 64) 64 - max (lo - (i : Int) * 64) 0 := w64 _ (by omega) (by omega)
    rw [e4]
    have e5 : wrap64 (64 - (min (hi - (i : Int) * 64) 64 - max (lo - (i : Int) * 64) 0)) = 64 - (min (hi - (i : Int) * 64) 64 - max (lo - (i : Int) * 64) 0) := w64 _ (by omega) (by omega)
    rw [e5, if_pos (by omega)]
    obtain ⟨a, ha⟩ : ∃ a : Nat, max (lo - (i : Int) * 64) 0 = a := ⟨(max (lo - (i : Int) * 64) 0).toNat, by omega⟩
    obtain ⟨b, hb⟩ : ∃ b : Nat, min (hi - (i : Int) * 64) 64 = b := ⟨(min (hi - (i : Int) * 64) 64).toNat, by omega⟩
    rw [ha, hb]
    have hab : a < b ∧ b ≤ 64 := by omega
    rw [show (lo - (i : Int) * 64).toNat = a from by omega, Int.toNat_natCast]
    have e6 : (64 - ((b : Int) - a)).toNat = 64 - (b - a) := by omega
    have e7 : shr .u64 18446744073709551615 (64 - ((b : Int) - a)) = ((2 ^ (b - a) - 1 : Nat) : Int) := by
      unfold shr
      rw [e6, Nat.min_eq_left (by simp only [IntKind.bits]; omega)]
      have : (18446744073709551615 : Int) = ((2 ^ 64 - 1 : Nat) : Int) := by decide
      rw [this]
      have h2 : (2 : Int) ^ (64 - (b - a)) = ((2 ^ (64 - (b - a)) : Nat) : Int) := by simp
      rw [h2, ← Int.natCast_ediv]
      congr 1
      have h3 : 2 ^ 64 = 2 ^ (b - a) * 2 ^ (64 - (b - a)) := by rw [← Nat.pow_add]; congr 1; omega
      rw [h3]
      have hp : 0 < 2 ^ (64 - (b - a)) := Nat.pow_pos (by decide)
      have hq : 0 < 2 ^ (b - a) := Nat.pow_pos (by decide)
      generalize 2 ^ (64 - (b - a)) = P at hp
      generalize 2 ^ (b - a) = Q at hq
      refine Nat.div_eq_of_lt_le ?_ ?_
      · rw [Nat.sub_mul]; omega
      · rw [Nat.sub_add_cancel hq]; exact Nat.sub_lt (Nat.mul_pos hq hp) (by decide)
    rw [e7]
    unfold shl
    rw [Int.toNat_natCast, Nat.min_eq_left (by simp only [IntKind.bits]; omega)]
    have h2 : (2 : Int) ^ a = ((2 ^ a : Nat) : Int) := by simp
    rw [h2, ← Int.natCast_mul]
    congr 1
    have hlt : (2 ^ (b - a) - 1) * 2 ^ a < 18446744073709551616 := by
      have : (2 ^ (b - a) - 1) * 2 ^ a < 2 ^ (b - a) * 2 ^ a := Nat.mul_lt_mul_of_pos_right (Nat.sub_lt (Nat.pow_pos (by decide)) (by decide)) (Nat.pow_pos (by decide))
      rw [← Nat.pow_add] at this
      exact Nat.lt_of_lt_of_le this (by rw [show 18446744073709551616 = 2 ^ 64 from by decide]; exact Nat.pow_le_pow_right (by decide) (by omega))
    generalize (2 ^ (b - a) - 1) * 2 ^ a = M at hlt
    rw [IntKind.wrap_u64]
    omega
theorem mkW_eq (i : Nat) (lo hi : Int) (hi0 : i ≤ 64) (l0 : 0 ≤ lo) (l1 : lo ≤ 9223372036854775807) (h0 : 0 ≤ hi) (h1 : hi ≤ 4096) :
    mkW i lo hi = ((maskN (lo - i * 64).toNat (min (hi - i * 64) 64).toNat : Nat) : Int) := by
  unfold mkW; rw [mask_eq i lo hi hi0 l0 l1 h0 h1]; rfl
theorem mask_some (i : Nat) (lo hi : Int) (hi0 : i ≤ 64) (l0 : 0 ≤ lo) (l1 : lo ≤ 9223372036854775807) (h0 : 0 ≤ hi) (h1 : hi ≤ 4096) : bmask.f i lo hi = some (mkW i lo hi) := by
  rw [mkW_eq i lo hi hi0 l0 l1 h0 h1, mask_eq i lo hi hi0 l0 l1 h0 h1]
end Go.Proofs.YthpldfjjdmjcoaaDoor.P

namespace Go.Proofs.YthpldfjjdmjcoaaDoor.P
open Go.RowKit Go.Proofs.YthpldfjjdmjcoaaDoorW.PrintWords Go.Proofs.YthpldfjjdmjcoaaDoorW.PrintLast Go.Proofs.YthpldfjjdmjcoaaDoorW.PrintMore
def U1 (x : Int) : Prop := 0 ≤ x ∧ x < 18446744073709551616
def U (ws : List Int) : Prop := ∀ x ∈ ws, U1 x
def wbit (x : Int) (j : Nat) : Bool := x.toNat.testBit j
def tb (ws : List Int) (i : Nat) : Bool := wbit (ws.getD (i / 64) 0) (i % 64)
def opb : BinOp → Bool → Bool → Bool
  | .or, a, b => a || b
  | .and, a, b => a && b
  | .andNot, a, b => a && !b
  | _, _, _ => false
def OpOK (op : BinOp) : Prop := op = .or ∨ op = .and ∨ op = .andNot
theorem ofInt_toNat {x : Int} (h : U1 x) : (BitVec.ofInt 64 x).toNat = x.toNat := by
  obtain ⟨n, rfl⟩ : ∃ n : Nat, x = n := ⟨x.toNat, by have := h.1; omega⟩
  have h2 := h.2
  rw [BitVec.ofInt_natCast, BitVec.toNat_ofNat, Int.toNat_natCast]
  exact Nat.mod_eq_of_lt (by omega)
theorem wrap_bv (b : BitVec 64) : IntKind.u64.wrap (b.toNat : Int) = b.toNat := by
  rw [IntKind.wrap_u64]; have := b.isLt; omega
theorem bits_bv (op : BinOp) (hop : OpOK op) (x y : Int) : ∃ b : BitVec 64, Go.bits op .u64 x y = (b.toNat : Int) ∧ ∀ j, j < 64 → b.toNat.testBit j = opb op ((BitVec.ofInt 64 x).toNat.testBit j) ((BitVec.ofInt 64 y).toNat.testBit j) := by
  rcases hop with rfl | rfl | rfl
  · exact ⟨BitVec.ofInt 64 x ||| BitVec.ofInt 64 y, wrap_bv _, fun j hj => by rw [BitVec.toNat_or, Nat.testBit_or]; rfl⟩
  · exact ⟨BitVec.ofInt 64 x &&& BitVec.ofInt 64 y, wrap_bv _, fun j hj => by rw [BitVec.toNat_and, Nat.testBit_and]; rfl⟩
  · refine ⟨BitVec.ofInt 64 x &&& ~~~ BitVec.ofInt 64 y, wrap_bv _, fun j hj => ?_⟩
    simp only [BitVec.testBit_toNat, BitVec.getLsbD_and, BitVec.getLsbD_not]
    simp [opb, hj]
theorem bits_U1 {op : BinOp} (hop : OpOK op) (x y : Int) : U1 (Go.bits op .u64 x y) := by
  obtain ⟨b, e, -⟩ := bits_bv op hop x y
  rw [e]; have := b.isLt; exact ⟨by omega, by omega⟩
theorem bits_wbit {op : BinOp} (hop : OpOK op) {x y : Int} (hx : U1 x) (hy : U1 y) {j : Nat} (hj : j < 64) : wbit (Go.bits op .u64 x y) j = opb op (wbit x j) (wbit y j) := by
  obtain ⟨b, e, h⟩ := bits_bv op hop x y
  unfold wbit
  rw [e, Int.toNat_natCast, h j hj, ofInt_toNat hx, ofInt_toNat hy]
theorem getD_U {ws : List Int} (h : U ws) (i : Nat) : U1 (ws.getD i 0) := by
  rw [List.getD_eq_getElem?_getD]
  cases e : ws[i]? with
  | none => exact ⟨by decide, by decide⟩
  | some x => exact h x (List.mem_of_getElem? e)
theorem U1_zero : U1 0 := ⟨by decide, by decide⟩
theorem wbit_zero (j : Nat) : wbit 0 j = false := by simp [wbit]
theorem wbit_ext {x y : Int} (hx : U1 x) (hy : U1 y) (h : ∀ j, j < 64 → wbit x j = wbit y j) : x = y := by
  obtain ⟨hx0, hx1⟩ := hx
  obtain ⟨hy0, hy1⟩ := hy
  have : x.toNat = y.toNat := by
    apply Nat.eq_of_testBit_eq
    intro j
    rcases Nat.lt_or_ge j 64 with hj | hj
    · exact h j hj
    · rw [Nat.testBit_lt_two_pow (Nat.lt_of_lt_of_le (show x.toNat < 2 ^ 64 by omega) (Nat.pow_le_pow_right (by decide) hj)), Nat.testBit_lt_two_pow (Nat.lt_of_lt_of_le (show y.toNat < 2 ^ 64 by omega) (Nat.pow_le_pow_right (by decide) hj))]
  omega
theorem tb_ext {xs ys : List Int} (hx : U xs) (hy : U ys) (hl : xs.length = ys.length) (h : ∀ i, i < 64 * xs.length → tb xs i = tb ys i) : xs = ys := by
  apply List.ext_getElem hl
  intro n h1 h2
  have e : ∀ zs : List Int, (hz : n < zs.length) → zs[n] = zs.getD n 0 := fun zs hz => by rw [List.getD_eq_getElem?_getD, List.getElem?_eq_getElem hz]; rfl
  rw [e _ h1, e _ h2]
  refine wbit_ext (getD_U hx n) (getD_U hy n) fun j hj => ?_
  have := h (64 * n + j) (by omega)
  unfold tb at this
  rw [show (64 * n + j) / 64 = n by omega, show (64 * n + j) % 64 = j by omega] at this
  exact this
theorem tb_ge {ws : List Int} {i : Nat} (h : 64 * ws.length ≤ i) : tb ws i = false := by
  unfold tb
  rw [List.getD_eq_getElem?_getD, List.getElem?_eq_none (by omega)]
  exact wbit_zero _
theorem rd_nat (ws : List Int) (i : Nat) : rd ws (i : Int) = ws.getD i 0 := rfl
theorem shr_bit {x : Int} (h : U1 x) {j : Nat} (hj : j < 64) : (Go.bits .and .u64 (shr .u64 x (j : Int)) 1 == 1) = wbit x j := by
  obtain ⟨n, rfl⟩ : ∃ n : Nat, x = n := ⟨x.toNat, by have := h.1; omega⟩
  have h2 : n < 18446744073709551616 := by have := h.2; omega
  have hs : shr .u64 (n : Int) (j : Int) = ((n / 2 ^ j : Nat) : Int) := by
    unfold shr
    rw [Int.toNat_natCast, Nat.min_eq_left (by simp only [IntKind.bits]; omega)]
    rw [show (2 : Int) ^ j = ((2 ^ j : Nat) : Int) by simp, Int.natCast_ediv]
  have hn : n / 2 ^ j < 18446744073709551616 := Nat.lt_of_le_of_lt (Nat.div_le_self _ _) h2
  have e : Go.bits .and .u64 ((n / 2 ^ j : Nat) : Int) 1 = ((n / 2 ^ j &&& 1 : Nat) : Int) := by
    show IntKind.u64.wrap ((BitVec.ofInt 64 ((n / 2 ^ j : Nat) : Int) &&& BitVec.ofInt 64 1).toNat : Int) = _
    have hU : U1 ((n / 2 ^ j : Nat) : Int) := by
      generalize n / 2 ^ j = q at hn
      exact ⟨by omega, by omega⟩
    rw [wrap_bv, BitVec.toNat_and, ofInt_toNat hU, ofInt_toNat ⟨by decide, by decide⟩]
    rfl
  rw [hs, e]
  unfold wbit
  rw [Int.toNat_natCast, Nat.testBit_eq_decide_div_mod_eq, Nat.and_one_is_mod]
  generalize n / 2 ^ j % 2 = m
  by_cases hm : m = 1
  · subst hm; rfl
  · simp [hm]; omega
/-- A word with a bit set. -/
theorem shl_one {j : Nat} (hj : j < 64) : shl .u64 1 (j : Int) = ((2 ^ j : Nat) : Int) := by
  unfold shl
  rw [Int.toNat_natCast, Nat.min_eq_left (by simp only [IntKind.bits]; omega), IntKind.wrap_u64]
  have : 2 ^ j < 2 ^ 64 := Nat.pow_lt_pow_right (by decide) hj
  rw [show (2 : Int) ^ j = ((2 ^ j : Nat) : Int) by simp]
  generalize 2 ^ j = q at this
  omega
theorem wbit_pow {j i : Nat} : wbit ((2 ^ j : Nat) : Int) i = decide (j = i) := by
  unfold wbit
  rw [Int.toNat_natCast, Nat.testBit_two_pow]
theorem U1_pow {j : Nat} (hj : j < 64) : U1 ((2 ^ j : Nat) : Int) := by
  have : 2 ^ j < 2 ^ 64 := Nat.pow_lt_pow_right (by decide) hj
  generalize 2 ^ j = q at this
  exact ⟨by omega, by omega⟩
theorem maskN_lt {a b : Nat} (hb : b ≤ 64) : maskN a b < 18446744073709551616 := by
  unfold maskN
  split
  · decide
  · have : (2 ^ (b - a) - 1) * 2 ^ a < 2 ^ (b - a) * 2 ^ a := Nat.mul_lt_mul_of_pos_right (Nat.sub_lt (Nat.pow_pos (by decide)) (by decide)) (Nat.pow_pos (by decide))
    rw [← Nat.pow_add] at this
    exact Nat.lt_of_lt_of_le this (by rw [show 18446744073709551616 = 2 ^ 64 from by decide]; exact Nat.pow_le_pow_right (by decide) (by omega))
theorem maskN_bit (a b j : Nat) : (maskN a b).testBit j = decide (a ≤ j ∧ j < b) := by
  unfold maskN
  split
  · rw [Nat.zero_testBit]; symm; rw [decide_eq_false_iff_not]; omega
  · rw [Nat.testBit_mul_two_pow, Nat.testBit_two_pow_sub_one]
    by_cases h : a ≤ j
    · simp [h]; omega
    · simp [h]
end Go.Proofs.YthpldfjjdmjcoaaDoor.P

namespace Go.Proofs.YthpldfjjdmjcoaaDoor.P
open Go.RowKit Go.Proofs.YthpldfjjdmjcoaaDoorW.PrintWords Go.Proofs.YthpldfjjdmjcoaaDoorW.PrintLast Go.Proofs.YthpldfjjdmjcoaaDoorW.PrintMore
theorem dv64 (i : Nat) (h : i < 1000000) : wrap64 (Int.tdiv (i : Int) 64) = ((i / 64 : Nat) : Int) := by
  rw [Int.tdiv_eq_ediv_of_nonneg (by omega), w64 _ (by omega) (by omega)]; omega
theorem md64 (i : Nat) : Int.tmod (i : Int) 64 = ((i % 64 : Nat) : Int) := by
  rw [Int.tmod_eq_emod_of_nonneg (by omega)]; omega
theorem wmd64 (i : Nat) : IntKind.u64.wrap (Int.tmod (i : Int) 64) = ((i % 64 : Nat) : Int) := by
  rw [md64, IntKind.wrap_u64]; omega
theorem wsucc (i : Nat) (h : i < 1000000) : wrap64 ((i : Int) + 1) = ((i + 1 : Nat) : Int) := by rw [w64 _ (by omega) (by omega)]; rfl
theorem bit_eq (size : Int) {ws : List Int} (hU : U ws) (hl : ws.length ≤ 5000) {i : Nat} (hi : i < 64 * ws.length) : r02bit.f size ws i = some (tb ws i) := by
  unfold r02bit.f
  rw [dv64 i (by omega), wmd64, if_pos (by omega), if_pos (by omega), if_pos (by omega), rd_nat, shr_bit (getD_U hU _) (by omega)]
  rfl
theorem check_loop (size : Int) {ws : List Int} (hU : U ws) (hl : ws.length ≤ 5000) : ∀ (n k i : Nat), i + n = 64 * ws.length → n < k →
    r02Check.l0 k i size ws = some (if (List.range' i n).any (tb ws) then 3 else 0) := by
  intro n
  induction n with
  | zero =>
    intro k i hi hk
    obtain ⟨k, rfl⟩ : ∃ m, k = m + 1 := ⟨k - 1, by omega⟩
    rw [r02Check.l0, w64 _ (by omega) (by omega), if_neg (by omega)]
    rfl
  | succ n ih =>
    intro k i hi hk
    obtain ⟨k, rfl⟩ : ∃ m, k = m + 1 := ⟨k - 1, by omega⟩
    rw [r02Check.l0, w64 _ (by omega) (by omega), if_pos (by omega), bit_eq size hU hl (by omega), Option.bind_some, wsucc i (by omega), ih k (i + 1) (by omega) (by omega), List.range'_succ, List.any_cons]
    cases tb ws i
    · rw [if_neg (by decide), Bool.false_or]
    · rw [if_pos rfl, Bool.true_or]; rfl
theorem div_zero_iff {x : Int} (h : U1 x) (s : Nat) : x / 2 ^ s = 0 ↔ ∀ j, s ≤ j → j < 64 → wbit x j = false := by
  obtain ⟨n, rfl⟩ : ∃ n : Nat, x = n := ⟨x.toNat, by have := h.1; omega⟩
  have h2 : n < 2 ^ 64 := by have := h.2; omega
  rw [show (2 : Int) ^ s = ((2 ^ s : Nat) : Int) by simp, ← Int.natCast_ediv]
  unfold wbit
  rw [Int.toNat_natCast]
  have hp : 0 < 2 ^ s := Nat.pow_pos (by decide)
  constructor
  · intro e j hj _
    have hlt : n < 2 ^ s := by
      have : n / 2 ^ s = 0 := by omega
      exact (Nat.div_eq_zero_iff_lt hp).1 this
    exact Nat.testBit_lt_two_pow (Nat.lt_of_lt_of_le hlt (Nat.pow_le_pow_right (by decide) hj))
  · intro hj
    have hlt : n < 2 ^ s := Nat.lt_pow_two_of_testBit n fun j hs' => by
      rcases Nat.lt_or_ge j 64 with h | h
      · exact hj j hs' h
      · exact Nat.testBit_lt_two_pow (Nat.lt_of_lt_of_le h2 (Nat.pow_le_pow_right (by decide) h))
    have : n / 2 ^ s = 0 := (Nat.div_eq_zero_iff_lt hp).2 hlt
    omega
/-- No bit lies behind the size. -/
theorem Good.clear {size : Int} {ws : List Int} (hU : U ws) (h : Good size ws) {i : Nat} (hi : size.toNat ≤ i) : tb ws i = false := by
  rcases Nat.lt_or_ge i (64 * ws.length) with hlt | hge
  · have h1 := h.lo
    have h3 := h.len
    have hm : 0 < size % 64 := by omega
    have hl := h.last hm
    rw [show (ws.length : Int) - 1 = ((ws.length - 1 : Nat) : Int) by omega, rd_nat] at hl
    have := (div_zero_iff (getD_U hU _) _).1 hl
    unfold tb
    rw [show i / 64 = ws.length - 1 by omega]
    exact this _ (by omega) (by omega)
  · exact tb_ge hge
theorem Good.mk' {size : Int} {ws : List Int} (hU : U ws) (h0 : 0 ≤ size) (h1 : size ≤ 4096) (h2 : (ws.length : Int) = (size + 63) / 64) (h3 : ∀ i, size.toNat ≤ i → i < 64 * ws.length → tb ws i = false) : Good size ws := by
  refine ⟨h0, h1, h2, fun hm => ?_⟩
  rw [show (ws.length : Int) - 1 = ((ws.length - 1 : Nat) : Int) by omega, rd_nat, div_zero_iff (getD_U hU _) _]
  intro j hj hj2
  have := h3 (64 * (ws.length - 1) + j) (by omega) (by omega)
  unfold tb at this
  rw [show (64 * (ws.length - 1) + j) / 64 = ws.length - 1 by omega, show (64 * (ws.length - 1) + j) % 64 = j by omega] at this
  exact this
theorem rcheck_j (k : Nat) (size : Int) (ws : List Int) : r02Check.j0 (k + 1) true size ws = some 3 := by rw [r02Check.j0, if_pos rfl]
theorem rcheck_eq {size : Int} {ws : List Int} (hU : U ws) {k : Nat} (hk : 5000 ≤ k) : r02Check.f k size ws = some (if good size ws then 0 else 3) := by
  obtain ⟨k, rfl⟩ : ∃ m, k = m + 1 := ⟨k - 1, by omega⟩
  have hno : ¬ Good size ws → (if good size ws then (0 : Int) else 3) = 3 := fun h => by rw [if_neg (fun h' => h ((good_iff _ _).1 h'))]
  have hyes : Good size ws → (if good size ws then (0 : Int) else 3) = 0 := fun h => by rw [if_pos ((good_iff _ _).2 h)]
  unfold r02Check.f
  by_cases h1 : size < 0
  · rw [if_pos h1, rcheck_j, hno (fun g => by have := g.lo; omega)]
  rw [if_neg h1]
  by_cases h2 : size > 4096
  · rw [if_pos h2, rcheck_j, hno (fun g => by have := g.hi; omega)]
  rw [if_neg h2, w64 (size + 63) (by omega) (by omega), Int.tdiv_eq_ediv_of_nonneg (by omega), w64 _ (by omega) (by omega)]
  by_cases h3 : (ws.length : Int) = (size + 63) / 64
  · rw [show ((ws.length : Int) != (size + 63) / 64) = false by simpa using h3, r02Check.j0, if_neg (by decide)]
    obtain ⟨s, rfl⟩ : ∃ s : Nat, size = s := ⟨size.toNat, by omega⟩
    rw [check_loop s hU (by omega) (64 * ws.length - s) k s (by omega) (by omega)]
    by_cases h4 : (List.range' s (64 * ws.length - s)).any (tb ws) = true
    · rw [if_pos h4, hno]
      intro g
      rw [List.any_eq_true] at h4
      obtain ⟨x, hx, hb⟩ := h4
      rw [List.mem_range'_1] at hx
      have := g.clear hU (i := x) (by omega)
      rw [this] at hb
      cases hb
    · rw [if_neg h4, hyes]
      refine Good.mk' hU (by omega) (by omega) h3 fun i hi hi2 => ?_
      rw [Bool.not_eq_true] at h4
      rw [List.any_eq_false] at h4
      have := h4 i (by rw [List.mem_range'_1]; omega)
      simpa using this
  · rw [show ((ws.length : Int) != (size + 63) / 64) = true by simpa using h3, rcheck_j, hno (fun g => h3 g.len)]
theorem rcopy_eq {size : Int} {ws : List Int} (h : ws.length ≤ 5000) : r02Copy.f size ws = some (size, ws) := by
  unfold r02Copy.f
  simp only [Option.bind_some, List.nil_append]
  rw [if_pos (by simp only [List.length_nil]; omega)]
theorem rfits_eq (s c size : Int) : r02Fits.f s c size = some (fit s c size) := by
  have : r02Fits.f s c size = bfits.f s c size := rfl
  rw [this, fits_eq, fit_eq]
/-- One bit set or struck. -/
def set1 (op : BinOp) (ws : List Int) (i : Nat) : List Int := ws.set (i / 64) (Go.bits op .u64 (ws.getD (i / 64) 0) ((2 ^ (i % 64) : Nat) : Int))
theorem set1_length (op : BinOp) (ws : List Int) (i : Nat) : (set1 op ws i).length = ws.length := by simp [set1]
theorem set1_U {op : BinOp} (hop : OpOK op) {ws : List Int} (h : U ws) (i : Nat) : U (set1 op ws i) := by
  intro x hx
  rcases List.mem_or_eq_of_mem_set hx with h' | rfl
  · exact h x h'
  · exact bits_U1 hop _ _
theorem tb_set1 {op : BinOp} (hop : OpOK op) {ws : List Int} (h : U ws) {i : Nat} (hi : i < 64 * ws.length) (j : Nat) : tb (set1 op ws i) j = if j / 64 = i / 64 then opb op (tb ws j) (decide (i = j)) else tb ws j := by
  unfold tb set1
  by_cases hj : j / 64 = i / 64
  · rw [if_pos hj, hj, List.getD_eq_getElem?_getD, List.getElem?_set_self (by omega), Option.getD_some, bits_wbit hop (getD_U h _) (U1_pow (by omega)) (by omega), wbit_pow]
    congr 1
    rw [decide_eq_decide]
    constructor
    · intro e; omega
    · rintro rfl; rfl
  · rw [if_neg hj, List.getD_eq_getElem?_getD, List.getElem?_set_ne (fun e => hj e.symm), ← List.getD_eq_getElem?_getD]
/-- n bits from i on. -/
def setN (op : BinOp) : Nat → List Int → Nat → List Int
  | 0, ws, _ => ws
  | n + 1, ws, i => setN op n (set1 op ws i) (i + 1)
theorem setN_length (op : BinOp) : ∀ n ws i, (setN op n ws i).length = ws.length
  | 0, _, _ => rfl
  | n + 1, ws, i => by rw [setN, setN_length, set1_length]
theorem setN_U {op : BinOp} (hop : OpOK op) : ∀ n ws i, U ws → U (setN op n ws i)
  | 0, _, _, h => h
  | n + 1, ws, i, h => by rw [setN]; exact setN_U hop n _ _ (set1_U hop h i)
def inR (i n j : Nat) : Bool := decide (i ≤ j ∧ j < i + n)
theorem tb_setN_or : ∀ n ws i j, U ws → i + n ≤ 64 * ws.length → tb (setN .or n ws i) j = (tb ws j || inR i n j)
  | 0, ws, i, j, _, _ => by simp [setN, inR]; omega
  | n + 1, ws, i, j, h, hi => by
    rw [setN, tb_setN_or n _ _ _ (set1_U (.inl rfl) h i) (by rw [set1_length]; omega), tb_set1 (.inl rfl) h (by omega)]
    have e : inR i (n + 1) j = (decide (i = j) || inR (i + 1) n j) := by
      unfold inR
      rw [← Bool.decide_or, decide_eq_decide]; omega
    rw [e]
    split
    · simp [opb, Bool.or_assoc]
    · rename_i hne
      have : decide (i = j) = false := by rw [decide_eq_false_iff_not]; rintro rfl; exact hne rfl
      rw [this]; simp
theorem tb_setN_andNot : ∀ n ws i j, U ws → i + n ≤ 64 * ws.length → tb (setN .andNot n ws i) j = (tb ws j && !inR i n j)
  | 0, ws, i, j, _, _ => by
    have : inR i 0 j = false := by unfold inR; rw [decide_eq_false_iff_not]; omega
    simp [setN, this]
  | n + 1, ws, i, j, h, hi => by
    rw [setN, tb_setN_andNot n _ _ _ (set1_U (.inr (.inr rfl)) h i) (by rw [set1_length]; omega), tb_set1 (.inr (.inr rfl)) h (by omega)]
    have e : inR i (n + 1) j = (decide (i = j) || inR (i + 1) n j) := by
      unfold inR
      rw [← Bool.decide_or, decide_eq_decide]; omega
    rw [e]
    split
    · simp [opb, Bool.and_assoc]
    · rename_i hne
      have : decide (i = j) = false := by rw [decide_eq_false_iff_not]; rintro rfl; exact hne rfl
      rw [this]; simp
theorem rchange_loop (b : Bool) (s c size : Int) (e : Nat) (he : wrap64 (s + c) = e) (he2 : e ≤ 5000) : ∀ (n k i : Nat) (ws : List Int), i + n = e → n < k → e ≤ 64 * ws.length →
    r02change.l0 k b i s c size ws = some (size, setN (if b then .or else .andNot) n ws i, 0) := by
  intro n
  induction n with
  | zero =>
    intro k i ws hi hk hl
    obtain ⟨k, rfl⟩ : ∃ m, k = m + 1 := ⟨k - 1, by omega⟩
    rw [r02change.l0, he, if_neg (by omega)]
    rfl
  | succ n ih =>
    intro k i ws hi hk hl
    obtain ⟨k, rfl⟩ : ∃ m, k = m + 1 := ⟨k - 1, by omega⟩
    have hstep : ∀ op, ws.set ((wrap64 (Int.tdiv (i : Int) 64)) : Int).toNat (Go.bits op .u64 (rd ws (wrap64 (Int.tdiv (i : Int) 64))) (shl .u64 1 (IntKind.u64.wrap (Int.tmod (i : Int) 64)))) = set1 op ws i := fun op => by
      rw [dv64 i (by omega), wmd64, shl_one (by omega), rd_nat, Int.toNat_natCast]; rfl
    have c1 : 0 ≤ wrap64 (Int.tdiv (i : Int) 64) := by rw [dv64 i (by omega)]; omega
    have c2 : wrap64 (Int.tdiv (i : Int) 64) < (ws.length : Int) := by rw [dv64 i (by omega)]; omega
    have c3 : 0 ≤ IntKind.u64.wrap (Int.tmod (i : Int) 64) := by rw [wmd64]; omega
    rw [r02change.l0, he, if_pos (by omega), hstep, hstep, if_pos c1, if_pos c2, if_pos c3, if_pos c1, if_pos c2, if_pos c3, wsucc i (by omega)]
    cases b
    · rw [if_neg (by decide), ih k (i + 1) _ (by omega) (by omega) (by rw [set1_length]; omega)]; rfl
    · rw [if_pos rfl, ih k (i + 1) _ (by omega) (by omega) (by rw [set1_length]; omega)]; rfl
/-- The words with the mask of 's to e' put to them. -/
def masked (op : BinOp) (ws : List Int) (s e : Int) : List Int := ws.mapIdx fun i w => Go.bits op .u64 w (mkW i s e)
theorem masked_length (op : BinOp) (ws : List Int) (s e : Int) : (masked op ws s e).length = ws.length := by simp [masked]
theorem masked_U {op : BinOp} (hop : OpOK op) (ws : List Int) (s e : Int) : U (masked op ws s e) := by
  intro x hx
  unfold masked at hx
  rw [List.mem_iff_getElem] at hx
  obtain ⟨n, hn, rfl⟩ := hx
  rw [List.getElem_mapIdx]
  exact bits_U1 hop _ _
theorem mkW_bit {i s e : Nat} (hi : i ≤ 64) (he : e ≤ 4096) (hs : s ≤ 4096) {j : Nat} (hj : j < 64) : wbit (mkW i s e) j = inR s (e - s) (64 * i + j) ∧ U1 (mkW i s e) := by
  rw [mkW_eq i s e hi (by omega) (by omega) (by omega) (by omega)]
  refine ⟨?_, ?_⟩
  · unfold wbit inR
    rw [Int.toNat_natCast, maskN_bit, decide_eq_decide]
    omega
  · have := maskN_lt (a := ((s : Int) - i * 64).toNat) (b := (min ((e : Int) - i * 64) 64).toNat) (by omega)
    generalize maskN ((s : Int) - i * 64).toNat (min ((e : Int) - i * 64) 64).toNat = q at this
    exact ⟨by omega, by omega⟩
theorem tb_masked {op : BinOp} (hop : OpOK op) {ws : List Int} (h : U ws) (hl : ws.length ≤ 64) {s e : Nat} (he : e ≤ 4096) (hs : s ≤ 4096) {j : Nat} (hj : j < 64 * ws.length) : tb (masked op ws s e) j = opb op (tb ws j) (inR s (e - s) j) := by
  unfold tb masked
  have hw : j / 64 < ws.length := by omega
  obtain ⟨hb, hu⟩ := mkW_bit (i := j / 64) (s := s) (e := e) (by omega) he hs (j := j % 64) (by omega)
  rw [List.getD_eq_getElem?_getD, List.getElem?_mapIdx, List.getElem?_eq_getElem hw, Option.map_some, Option.getD_some, bits_wbit hop (h _ (List.getElem_mem hw)) hu (by omega), hb]
  rw [List.getD_eq_getElem?_getD, List.getElem?_eq_getElem hw, Option.getD_some, show 64 * (j / 64) + j % 64 = j by omega]
theorem masked_setN {ws : List Int} (h : U ws) (hl : ws.length ≤ 64) (b : Bool) {s n : Nat} (hn : s + n ≤ 4096) (hs : s + n ≤ 64 * ws.length) : masked (if b then .or else .andNot) ws s ((s + n : Nat) : Int) = setN (if b then .or else .andNot) n ws s := by
  have hop : OpOK (if b then .or else .andNot) := by cases b <;> simp [OpOK]
  refine tb_ext (masked_U hop _ _ _) (setN_U hop _ _ _ h) (by rw [masked_length, setN_length]) fun j hj => ?_
  rw [masked_length] at hj
  rw [tb_masked hop h hl hn (by omega) hj]
  rw [show s + n - s = n by omega]
  cases b
  · rw [if_neg (by decide), tb_setN_andNot _ _ _ _ h (by omega)]; rfl
  · rw [if_pos rfl, tb_setN_or _ _ _ _ h (by omega)]; rfl
theorem Fits.nat {s c size : Int} (h : Fits s c size) (h0 : 0 ≤ size) (h1 : size ≤ 4096) : ∃ a n : Nat, s = a ∧ c = n ∧ (a + n : Nat) ≤ size := by
  obtain ⟨x, y, z⟩ := h.bounds h0 h1
  exact ⟨s.toNat, c.toNat, by omega, by omega, by omega⟩
theorem Good.le {size : Int} {ws : List Int} (g : Good size ws) : size ≤ 64 * ws.length := by have := g.len; omega
theorem rchange_eq {size : Int} {ws : List Int} (hU : U ws) (s c : Int) (b : Bool) {k : Nat} (hk : 5000 ≤ k) : r02change.f k size ws s c b = some (bChange (if b then .or else .andNot) size ws s c) := by
  unfold r02change.f bChange
  rw [rcheck_eq hU hk, Option.bind_some]
  by_cases hg : good size ws = true
  · rw [if_pos hg, if_pos rfl, rfits_eq, Option.bind_some, if_pos hg]
    have g := (good_iff _ _).1 hg
    by_cases hf : fit s c size = true
    · rw [if_pos hf, if_pos hf, rcopy_eq (by have := g.len_le; omega), Option.bind_some]
      rw [fit_eq, decide_eq_true_iff] at hf
      have glo := g.lo
      have ghi := g.hi
      have gle := g.le
      have gl := g.len_le
      obtain ⟨a, n, rfl, rfl, hle⟩ := hf.nat glo ghi
      have he : wrap64 ((a : Int) + n) = ((a + n : Nat) : Int) := w64 _ (by omega) (by omega)
      have := masked_setN hU gl b (s := a) (n := n) (by omega) (by omega)
      unfold masked at this
      rw [rchange_loop b a n size (a + n) he (by omega) n k a ws rfl (by omega) (by omega), he, this]
    · rw [if_neg hf, if_neg hf]
  · rw [if_neg hg, if_neg hg]; rfl
end Go.Proofs.YthpldfjjdmjcoaaDoor.P

namespace Go.Proofs.YthpldfjjdmjcoaaDoor.Pop
theorem and_split (q r M m : Nat) (hr : r < 256) (hm : m < 256) : (256 * q + r) &&& (256 * M + m) = 256 * (q &&& M) + (r &&& m) := by
  have e : ∀ q r : Nat, r < 256 → 256 * q + r = q <<< 8 ||| r := fun q r h => by
    rw [Nat.mul_comm, show (256 : Nat) = 2 ^ 8 from rfl, ← Nat.shiftLeft_eq, Nat.shiftLeft_add_eq_or_of_lt h]
  have hrm : r &&& m < 256 := Nat.lt_of_le_of_lt Nat.and_le_left hr
  rw [e _ _ hr, e _ _ hm, e _ _ hrm]
  apply Nat.eq_of_testBit_eq
  intro i
  simp only [Nat.testBit_and, Nat.testBit_or, Nat.testBit_shiftLeft]
  by_cases hi : 8 ≤ i
  · have h1 : r.testBit i = false := Nat.testBit_lt_two_pow (Nat.lt_of_lt_of_le hr (Nat.pow_le_pow_right (n := 2) (by decide) hi))
    have h2 : m.testBit i = false := Nat.testBit_lt_two_pow (Nat.lt_of_lt_of_le hm (Nat.pow_le_pow_right (n := 2) (by decide) hi))
    simp [hi, h1, h2]
  · simp [hi]
theorem half55 : ∀ (c : Fin 2) (r : Fin 256), (128 * c.val + r.val / 2) &&& 0x55 = (r.val / 2) &&& 0x55 := by decide +kernel
theorem quart33 : ∀ (c : Fin 4) (r : Fin 256), (64 * c.val + r.val / 4) &&& 0x33 = (r.val / 4) &&& 0x33 := by decide +kernel
theorem s1 (q r M : Nat) (hr : r < 256) : ((256 * q + r) / 2 &&& (256 * M + 0x55)) + ((256 * q + r) &&& (256 * M + 0x55)) = 256 * ((q / 2 &&& M) + (q &&& M)) + ((r / 2 &&& 0x55) + (r &&& 0x55)) := by
  have e : (256 * q + r) / 2 = 256 * (q / 2) + (128 * (q % 2) + r / 2) := by omega
  rw [e, and_split _ _ _ _ (by omega) (by decide), and_split _ _ _ _ hr (by decide)]
  have h := half55 ⟨q % 2, by omega⟩ ⟨r, hr⟩
  simp only at h
  rw [h]; omega
theorem s2 (q r M : Nat) (hr : r < 256) : ((256 * q + r) / 4 &&& (256 * M + 0x33)) + ((256 * q + r) &&& (256 * M + 0x33)) = 256 * ((q / 4 &&& M) + (q &&& M)) + ((r / 4 &&& 0x33) + (r &&& 0x33)) := by
  have e : (256 * q + r) / 4 = 256 * (q / 4) + (64 * (q % 4) + r / 4) := by omega
  rw [e, and_split _ _ _ _ (by omega) (by decide), and_split _ _ _ _ hr (by decide)]
  have h := quart33 ⟨q % 4, by omega⟩ ⟨r, hr⟩
  simp only at h
  rw [h]; omega
theorem s3low : ∀ (c : Fin 5) (r : Fin 256), r.val ≤ 0x44 → (16 * c.val + r.val / 16 + r.val) &&& 0x0f = (r.val / 16 + r.val) &&& 0x0f := by decide +kernel
theorem s3 (q r M : Nat) (hr : r ≤ 0x44) (hq : q % 16 ≤ 4) : ((256 * q + r) / 16 + (256 * q + r)) &&& (256 * M + 0x0f) = 256 * ((q / 16 + q) &&& M) + ((r / 16 + r) &&& 0x0f) := by
  have e : (256 * q + r) / 16 + (256 * q + r) = 256 * (q / 16 + q) + (16 * (q % 16) + r / 16 + r) := by omega
  rw [e, and_split _ _ _ _ (by omega) (by decide)]
  have h := s3low ⟨q % 16, by omega⟩ ⟨r, by omega⟩ hr
  simp only at h
  rw [h]
/-- n bytes of the masks. -/
def mk (m : Nat) : Nat → Nat
  | 0 => 0
  | n + 1 => 256 * mk m n + m
def ok (n : Nat) (x : Nat) : Nat := let y := (x / 2 &&& mk 0x55 n) + (x &&& mk 0x55 n); let z := (y / 4 &&& mk 0x33 n) + (y &&& mk 0x33 n); (z / 16 + z) &&& mk 0x0f n
end Go.Proofs.YthpldfjjdmjcoaaDoor.Pop

namespace Go.Proofs.YthpldfjjdmjcoaaDoor.P
open Go.RowKit Go.Proofs.YthpldfjjdmjcoaaDoorW.PrintWords Go.Proofs.YthpldfjjdmjcoaaDoorW.PrintLast Go.Proofs.YthpldfjjdmjcoaaDoorW.PrintMore
theorem range'_append' (a n m : Nat) : List.range' a (n + m) = List.range' a n ++ List.range' (a + n) m := by
  rw [List.range'_append_1]
theorem filter_window (p : Nat → Bool) (lo size N : Nat) (hs : size ≤ N) :
    (List.range N).filter (fun i => decide (lo ≤ i ∧ i < size) && p i) = (List.range' lo (size - lo)).filter p := by
  rw [List.range_eq_range']
  rcases Nat.lt_or_ge size lo with h | h
  · rw [show size - lo = 0 by omega]
    simp only [List.range'_zero, List.filter_nil, List.filter_eq_nil_iff]
    intro i _
    have : decide (lo ≤ i ∧ i < size) = false := by rw [decide_eq_false_iff_not]; omega
    simp [this]
  · have e : List.range' 0 N = List.range' 0 lo ++ (List.range' lo (size - lo) ++ List.range' size (N - size)) := by
      rw [show N = lo + ((size - lo) + (N - size)) by omega, range'_append', range'_append', Nat.zero_add, show lo + (size - lo) = size by omega]
      congr 3
      omega
    rw [e, List.filter_append, List.filter_append]
    have h1 : (List.range' 0 lo).filter (fun i => decide (lo ≤ i ∧ i < size) && p i) = [] := by
      rw [List.filter_eq_nil_iff]
      intro i hi
      rw [List.mem_range'_1] at hi
      have : decide (lo ≤ i ∧ i < size) = false := by rw [decide_eq_false_iff_not]; omega
      simp [this]
    have h3 : (List.range' size (N - size)).filter (fun i => decide (lo ≤ i ∧ i < size) && p i) = [] := by
      rw [List.filter_eq_nil_iff]
      intro i hi
      rw [List.mem_range'_1] at hi
      have : decide (lo ≤ i ∧ i < size) = false := by rw [decide_eq_false_iff_not]; omega
      simp [this]
    have h2 : (List.range' lo (size - lo)).filter (fun i => decide (lo ≤ i ∧ i < size) && p i) = (List.range' lo (size - lo)).filter p := by
      apply List.filter_congr
      intro i hi
      rw [List.mem_range'_1] at hi
      have : decide (lo ≤ i ∧ i < size) = true := by rw [decide_eq_true_iff]; omega
      simp [this]
    rw [h1, h2, h3]
    simp
theorem cutW_bit {ws : List Int} (hU : U ws) {lo size : Nat} {i : Nat} (hi : i ≤ 64) (hs : size ≤ 4096) (hl : lo ≤ 9223372036854775807) {j : Nat} (hj : j < 64) :
    (cutW ws lo size i).testBit j = (decide (lo ≤ 64 * i + j ∧ 64 * i + j < size) && tb ws (64 * i + j)) := by
  have hm := mkW_eq i lo size hi (by omega) (by omega) (by omega) (by omega)
  have hb : (min ((size : Int) - i * 64) 64).toNat ≤ 64 := by omega
  have hu : U1 (mkW i lo size) := by
    rw [hm]
    have := maskN_lt (a := ((lo : Int) - i * 64).toNat) hb
    generalize maskN ((lo : Int) - i * 64).toNat (min ((size : Int) - i * 64) 64).toNat = q at this
    exact ⟨by omega, by omega⟩
  have := bits_wbit (op := .and) (.inr (.inl rfl)) (getD_U hU i) hu hj
  unfold cutW
  rw [rd_nat]
  unfold wbit at this
  rw [this]
  unfold tb wbit
  rw [show (64 * i + j) / 64 = i by omega, show (64 * i + j) % 64 = j by omega, hm, Int.toNat_natCast, maskN_bit, Bool.and_comm]
  show (_ && _) = (_ && _)
  congr 1
  rw [decide_eq_decide]
  omega
theorem elemsW_eq {ws : List Int} (hU : U ws) {lo size : Nat} {i : Nat} (hi : i ≤ 64) (hs : size ≤ 4096) (hl : lo ≤ 9223372036854775807) :
    elemsW ws lo size i = ((List.range' (64 * i) 64).filter fun j => decide (lo ≤ j ∧ j < size) && tb ws j).map fun (b : Nat) => (b : Int) := by
  unfold elemsW bitsOf
  have e : (List.range' (64 * i) 64) = (List.range 64).map (64 * i + ·) := by
    rw [List.range'_eq_map_range]
  rw [e, List.filter_map, List.map_map]
  have : (List.range 64).filter (fun j => (cutW ws lo size i).testBit j) = (List.range 64).filter ((fun j => decide (lo ≤ j ∧ j < size) && tb ws j) ∘ (64 * i + ·)) := by
    apply List.filter_congr
    intro j hj
    rw [List.mem_range] at hj
    rw [cutW_bit hU hi hs hl hj]
    rfl
  rw [this]
  apply List.map_congr_left
  intro j _
  simp only [Function.comp]
  omega
theorem flat_range (p : Nat → Bool) (f : Nat → List Int) : ∀ n, (∀ i, i < n → f i = ((List.range' (64 * i) 64).filter p).map fun (b : Nat) => (b : Int)) →
    (List.range n).flatMap f = ((List.range (64 * n)).filter p).map fun (b : Nat) => (b : Int)
  | 0, _ => rfl
  | n + 1, h => by
    rw [List.range_succ, List.flatMap_append, flat_range p f n (fun i hi => h i (by omega)), List.flatMap_singleton, h n (by omega), List.range_eq_range', List.range_eq_range', show 64 * (n + 1) = 64 * n + 64 by omega, range'_append', List.filter_append, List.map_append, Nat.zero_add]
/-- The elements from 'lo' on. -/
def nats (ws : List Int) (lo size : Nat) : List Nat := (List.range' lo (size - lo)).filter (tb ws)
theorem elems_eq {ws : List Int} (hU : U ws) {lo size : Nat} (hw : ws.length ≤ 64) (hs : size ≤ 4096) (hs2 : size ≤ 64 * ws.length) (hl : lo ≤ 9223372036854775807) :
    elems ws lo size = (nats ws lo size).map fun (b : Nat) => (b : Int) := by
  unfold elems nats
  rw [flat_range (fun j => decide (lo ≤ j ∧ j < size) && tb ws j) _ _ (fun i hi => elemsW_eq hU (by omega) hs hl), filter_window _ _ _ _ hs2]
theorem Good.nat {size : Int} {ws : List Int} (g : Good size ws) : ∃ n : Nat, size = n ∧ n ≤ 4096 ∧ n ≤ 64 * ws.length ∧ 64 * ws.length < n + 64 ∧ ws.length ≤ 64 := by
  have h0 := g.lo
  have h1 := g.hi
  have h2 := g.len
  exact ⟨size.toNat, by omega, by omega, by omega, by omega, by omega⟩
theorem bElems_eq {ws : List Int} (hU : U ws) {lo size : Nat} (g : Good size ws) (hl : lo ≤ 9223372036854775807) : bElems size ws lo = (nats ws lo size).map fun (b : Nat) => (b : Int) := by
  obtain ⟨n, hn, h1, h2, h3, h4⟩ := g.nat
  obtain rfl : size = n := by omega
  unfold bElems
  rw [if_pos ((good_iff _ _).2 g), elems_eq hU h4 h1 h2 hl]
theorem nats_cons {ws : List Int} {lo size : Nat} (h : lo < size) : nats ws lo size = if tb ws lo then lo :: nats ws (lo + 1) size else nats ws (lo + 1) size := by
  unfold nats
  rw [show size - lo = (size - (lo + 1)) + 1 by omega, List.range'_succ, List.filter_cons]
theorem nats_nil {ws : List Int} {lo size : Nat} (h : size ≤ lo) : nats ws lo size = [] := by
  unfold nats
  rw [show size - lo = 0 by omega]; rfl
end Go.Proofs.YthpldfjjdmjcoaaDoor.P
