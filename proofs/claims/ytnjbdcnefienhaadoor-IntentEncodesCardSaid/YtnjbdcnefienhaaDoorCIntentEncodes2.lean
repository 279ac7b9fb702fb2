/-
  Parts of the proof of the law IntentEncodes (part 2): what the functions it reaches come to, and the plain law. Conditions: those that each theorem names.
-/
import Derived.Test.YtnjbdcnefienhaaDoorProg
import Derived.Below
import Derived.Deep.Draws
import Derived.Deep.AppendLies
import Derived.Maps.AppendAt
import Derived.OwnWalk
import Derived.Laws.BytesArg
import Derived.Laws.MakeOwn
import Derived.Laws.OwnMore
import Derived.Deep.OwnRows
import Derived.Tactics
import Derived.Lib.ConvBytes
import Derived.Laws.Slices
import Derived.WalkKit
import Derived.KernelRfl
import Derived.RowKit3
import Derived.Deep.LoopGhost
import Derived.Deep.QuietTactic
import Derived.BigQuiet
import Derived.WideLaws
import Derived.Deep.DeepCutAuto
import Derived.Deep.CutBlock
import Derived.Deep.RegionHeld3
import Derived.Laws.Rows
import Derived.Lib.AppendStr
import Derived.ArgAppend
import Derived.Laws.IdiomCopy
import Derived.OrdersHeld
import Derived.Laws.BitsLemmas
import Derived.RowKit
import Derived.Lib.TrailingZeros
import Derived.Test.YtnjbdcnefienhaaDoorRows
import Derived.ProofKit
import Derived.OpenShut
import Derived.Deep.DeepHandedRow
import Derived.Deep.SlicePairs
import Derived.Lib.LaidTab
import Derived.Lib.SmallJoins
import Derived.Laws.Bits64
import Derived.StillTailTactics
import Derived.Laws.AppendOwnNone
import Derived.Lib.SliceRun
import Derived.Test.YtnjbdcnefienhaaDoorCIntentEncodes1
namespace Go.Proofs.YtnjbdcnefienhaaDoor.P
open Go.RowKit Go.Proofs.YtnjbdcnefienhaaDoorW.PrintWords Go.Proofs.YtnjbdcnefienhaaDoorW.PrintLast Go.Proofs.YtnjbdcnefienhaaDoorW.PrintMore
attribute [local go_sem] max2_int min2_int max_two min_two max_three min_three max_four min_four   -- for this text's walks alone
set_option linter.unusedVariables false
set_option linter.unusedSimpArgs false
def errW : Option Int → Value
  | none => .nilIface
  | some c => .iface 0 (.int .i64 c)
theorem errW_none : errW none = .nilIface := rfl
theorem errW_some (c : Int) : errW (some c) = .iface 0 (.int .i64 c) := rfl
abbrev Ra_ := @Kd.R_alloc
abbrev Rn_ := @Kd.R_drewN
abbrev Rd_ := @Kd.R_drew
abbrev Bn_ := @blk_drewN
abbrev Bd_ := @blk_drew
abbrev Ba_ := @blk_alloc
theorem Sa_ {α : Type} (xs : List α) (i : Nat) (a : α) : xs.toArray.setIfInBounds i a = (xs.set i a).toArray := List.setIfInBounds_toArray ..
theorem Sz_ {α : Type} (x a : α) (xs : List α) : (x :: xs).set 0 a = a :: xs := rfl
theorem Ss_ {α : Type} (x a : α) (xs : List α) (n : Nat) : (x :: xs).set (n + 1) a = x :: xs.set n a := rfl
theorem K2_ {a b : Nat → Prop} : ∀ k, a k ∧ b k → b k := fun _ h => h.2
abbrev A0_ {p : Prop} (h : p) : Aside0 p := ⟨h⟩
abbrev Al_ := @below_alloc
abbrev Dn_ := @pw_below_drewN
abbrev D1_ := @below_drew1
abbrev Bs_ := @below_set
abbrev Bc_ := @blk_cell
abbrev Bf_ := @blk_frozen
abbrev Rf_ := @Kd.R_far
abbrev Vf_ := @Kd.V_far
abbrev Bz_ := @blk_far
structure TabOK (w : World) : Prop where
  lt : 0 < w.heap.size
  out : ∀ j, j < Lib.deBruijn64tab.length → w.cell? ⟨0, j, none⟩ = some (.int .u8 (Lib.deBruijn64tab.getD j 0))
theorem TabOK.below {w w1 : World} (h : TabOK w) (hb : Below w.heap.size w w1) : TabOK w1 := ⟨Nat.lt_of_lt_of_le h.lt hb.size, fun j hj => pw_cell_below hb (h.out j hj)⟩
theorem info3 : (Tryd.prog.info? 3).map (fun i => (i.zero, i.size, i.bytes)) = some (some (.int .i64 0), 1, 8) := by kernel_rfl
theorem info5 : (Tryd.prog.info? 5).map (fun i => (i.zero, i.size, i.bytes)) = some (some (.int .u8 0), 1, 1) := by kernel_rfl
theorem info49 : (Tryd.prog.info? 49).map (fun i => (i.zero, i.size, i.bytes)) = some (some (.agg #[(.int .i64 0), (.int .i64 0)]), 2, 16) := by kernel_rfl
theorem info90 : (Tryd.prog.info? 90).map (fun i => (i.zero, i.size, i.bytes)) = some (some (.int .u64 0), 1, 8) := by kernel_rfl
structure S49 where
  f0 : Int
  f1 : Int
def z49 : S49 := ⟨(0 : Int), (0 : Int)⟩
def k49 : Kd S49 := Kd.iso (Kd.pair (Kd.int .i64) (Kd.int .i64)) (fun x : S49 => (x.f0, x.f1))
theorem k49_open {w : World} {x : S49} {cs : List Value} (h : k49.K w x cs) : cs = [.int .i64 x.f0, .int .i64 x.f1] := by
  obtain ⟨_, _, rfl, rfl, rfl⟩ := h
  exact rfl
theorem k49_openM {w : World} {base : Nat} {ok : Nat → Prop} {x : S49} {cs : List Value} (h : k49.M w base ok x cs) : cs = [.int .i64 x.f0, .int .i64 x.f1] := by
  obtain ⟨_, _, rfl, rfl, rfl⟩ := h
  exact rfl
theorem k49_mk (w : World) (x : S49)  : k49.K w x [.int .i64 x.f0, .int .i64 x.f1] := ⟨[.int .i64 x.f0], [.int .i64 x.f1], rfl, rfl, rfl⟩
theorem k49_mkM (w : World) (base : Nat) (ok : Nat → Prop) (x : S49)  : k49.M w base ok x [.int .i64 x.f0, .int .i64 x.f1] := ⟨[.int .i64 x.f0], [.int .i64 x.f1], rfl, rfl, rfl⟩
def rd_T49 (xs : List S49) (i : Int) : S49 := xs.getD i.toNat z49
theorem at_T49 {w : World} {A : Option Addr} {n : Nat} {xs : List S49} (h : Kd.C k49 w A n xs) (i : Int) (h0 : 0 ≤ i) (h1 : i < n) : ∃ ad , A = some ad ∧ w.cell? (ad.add (i.toNat * 2)) = some (.int .i64 (rd_T49 xs i).f0) ∧ w.cell? ⟨(ad.add (i.toNat * 2)).block, (ad.add (i.toNat * 2)).off + 1, none⟩ = some (.int .i64 (rd_T49 xs i).f1) := by
  obtain ⟨ad, c, e, _, hK, hc0⟩ := Kd.C_get h z49 i h0 h1
  have hc : ∀ j u, c[j]? = some u → w.cell? (ad.add (i.toNat * 2 + j)) = some u := hc0
  obtain rfl := k49_open hK
  exact ⟨ad, e, hc 0 _ rfl, by rw [← add_field _ _ 1 (by omega)]; exact hc 1 _ rfl⟩
end Go.Proofs.YtnjbdcnefienhaaDoor.P

namespace Go.Proofs.YtnjbdcnefienhaaDoor.P
open Go.ChangeShapes Go.WideShapes Go.ChangeAt Go.RowKit Go.Deep Go.Joins Go.Proofs.YtnjbdcnefienhaaDoorW.PrintWords Go.Proofs.YtnjbdcnefienhaaDoorW.PrintLast Go.Proofs.YtnjbdcnefienhaaDoorW.PrintMore
set_option maxRecDepth 100000 in
theorem laidOut : laidOutB Tryd.prog = true := by kernel_rfl
set_option maxRecDepth 100000 in
theorem wf_u64_out {n : Int} (h : (Lit.int .u64 n).wf = true) : 0 ≤ n ∧ n < 18446744073709551616 := by
  have := h
  simp [Lit.wf, IntKind.min, IntKind.max, IntKind.bits, IntKind.signed] at this
  omega
section
variable {H : Type} {enc : TypeId × Value → H} {W : World}
set_option maxRecDepth 100000 in
theorem ints_of {fuel : Nat} {v : Value} {x : DataW H × List MemPlace} {A : Option Addr} {len cap : Nat} (hv : v = .slice A len cap) (h : DataW.trod enc Tryd.prog W 0 (fun _ => true) true fuel 24 [v] = some x) :
    ∃ l : List Int, len = l.length ∧ l.length ≤ cap ∧ Kd.C (Kd.int .u64) W A l.length l ∧ ∀ n ∈ l, (Lit.int .u64 n).wf = true := by
  subst hv
  have key : (A = none ∧ len = 0 ∧ cap = 0 ∧ ([] : List Int) = []) ∨ ∃ (zs : List Int) (x : Addr), A = some x ∧ len ≤ cap ∧ cap ≤ maxLen ∧ zs.length = cap ∧ (∀ i, i < zs.length → W.cell? (x.add i) = some (.int .u64 (zs.getD i 0))) ∧ ∀ n ∈ zs, (Lit.int .u64 n).wf = true := by
    rcases open_ints Tryd.underlying24 Tryd.underlying90 (by kernel_rfl) h with ⟨hcs, _⟩ | ⟨x, l, c, zs, hcs, _, hl, hm, hz, _, hcell, hwz⟩
    · simp at hcs
      obtain ⟨rfl, rfl, rfl⟩ := hcs
      exact .inl ⟨rfl, rfl, rfl, rfl⟩
    · simp at hcs
      obtain ⟨rfl, rfl, rfl⟩ := hcs
      exact .inr ⟨zs, _, rfl, hl, hm, by simpa using hz, hcell, hwz⟩
  have key2 : ∃ zs : List Int, (A = none ∧ len = 0 ∧ cap = 0 ∧ zs = []) ∨ ∃ x, A = some x ∧ len ≤ cap ∧ cap ≤ maxLen ∧ zs.length = cap ∧ (∀ i, i < zs.length → W.cell? (x.add i) = some (.int .u64 (zs.getD i 0))) ∧ ∀ n ∈ zs, (Lit.int .u64 n).wf = true := by
    rcases key with h1 | ⟨zs, h1⟩
    · exact ⟨[], .inl h1⟩
    · exact ⟨zs, .inr h1⟩
  obtain ⟨zs, hz⟩ := key2
  obtain ⟨l, e, h1, _, h3, h4⟩ := ReadsInt.ofRowC hz
  exact ⟨l, e, h4, Kd.C_of_reads (d := (0 : Int)) (h1 := fun _ => rfl) h1, h3⟩
set_option maxRecDepth 100000 in
theorem back {t : TypeId} (hr : Tryd.prog.readableRec t = true) (hrow : t < Tryd.prog.types.size) {W' : World} {v : Value} {d : DataW H} {ps : List MemPlace} (h : DataW.Trod enc Tryd.prog W 0 (fun _ => true) true t v d ps) (hb : Below W.heap.size W W') :
    DataW.Trod enc Tryd.prog W' 0 (fun b => decide (b < W.heap.size)) true t v d ps :=
  Below.trod laidOut hr hrow h hb (by obtain ⟨m, hm⟩ := h; exact DataW.trod_lt m _ _ _ hm)
end
end Go.Proofs.YtnjbdcnefienhaaDoor.P

namespace Go.Proofs.YtnjbdcnefienhaaDoor.P
open Go.RowKit Go.Proofs.YtnjbdcnefienhaaDoorW.PrintWords Go.Proofs.YtnjbdcnefienhaaDoorW.PrintLast Go.Proofs.YtnjbdcnefienhaaDoorW.PrintMore
attribute [local go_sem] max2_int min2_int max_two min_two max_three min_three max_four min_four   -- for this text's walks alone
set_option linter.unusedVariables false
set_option linter.unusedSimpArgs false
def isizes.f (a0 : Int) (a1 : Int) : Option (Bool) := if a0 ≥ 1 then (if a0 ≤ 4096 then (if a1 ≥ 1 then (some (decide (a1 ≤ 4096))) else (some false)) else (some false)) else (some false)
set_option maxHeartbeats 8000000 in
set_option maxRecDepth 100000 in
theorem isizes.calls (a0 : Int) (a1 : Int) (r : Bool) (w : World) (h : isizes.f a0 a1 = some r) :
  Calls Tryd.prog 27 #[.int .i64 a0, .int .i64 a1] w fun e w' => e = .returned (.bool r) ∧ Drawn0 w w' := by
 have H : (if a0 ≥ 1 then (if a0 ≤ 4096 then (if a1 ≥ 1 then (some (decide (a1 ≤ 4096))) else (some false)) else (some false)) else (some false)) = some r := h
 clear h
 by_cases c3 : a0 ≥ 1
 ·
  rw [if_pos c3] at H
  have c3b0 : decide (1 ≤ a0) = true := decide_eq_true c3
  clear c3
  by_cases c4 : a0 ≤ 4096
  ·
   rw [if_pos c4] at H
   have c4b0 : decide (a0 ≤ 4096) = true := decide_eq_true c4
   clear c4
   by_cases c5 : a1 ≥ 1
   ·
    rw [if_pos c5] at H
    have c5b0 : decide (1 ≤ a1) = true := decide_eq_true c5
    clear c5
    obtain rfl := Option.some.inj H
    go_enter Tryd.func27, Tryd.ntmps27
    go_wp2
    go_ret
    exact ⟨by first | rfl | (simp; done) | (simp [*]; done), by repeat (first | exact Drawn0.refl _ | apply Drawn0.step)⟩
   ·
    rw [if_neg c5] at H
    have c5b0 : decide (1 ≤ a1) = false := decide_eq_false c5
    clear c5
    obtain rfl := Option.some.inj H
    go_enter Tryd.func27, Tryd.ntmps27
    go_wp2
    go_ret
    exact ⟨by first | rfl | (simp; done) | (simp [*]; done), by repeat (first | exact Drawn0.refl _ | apply Drawn0.step)⟩
  ·
   rw [if_neg c4] at H
   have c4b0 : decide (a0 ≤ 4096) = false := decide_eq_false c4
   clear c4
   obtain rfl := Option.some.inj H
   go_enter Tryd.func27, Tryd.ntmps27
   go_wp2
   go_ret
   exact ⟨by first | rfl | (simp; done) | (simp [*]; done), by repeat (first | exact Drawn0.refl _ | apply Drawn0.step)⟩
 ·
  rw [if_neg c3] at H
  have c3b0 : decide (1 ≤ a0) = false := decide_eq_false c3
  clear c3
  obtain rfl := Option.some.inj H
  go_enter Tryd.func27, Tryd.ntmps27
  go_wp2
  go_ret
  exact ⟨by first | rfl | (simp; done) | (simp [*]; done), by repeat (first | exact Drawn0.refl _ | apply Drawn0.step)⟩
def igranules.f (a0 : Int) (a1 : Int) : Option (Int) := if a1 = 0 then (none) else (some (wrap64 (Int.tdiv (wrap64 ((wrap64 (a0 + a1)) - 1)) a1)))
set_option maxHeartbeats 8000000 in
set_option maxRecDepth 100000 in
theorem igranules.calls (a0 : Int) (a1 : Int) (r : Int) (w : World) (h : igranules.f a0 a1 = some r) :
  Calls Tryd.prog 28 #[.int .i64 a0, .int .i64 a1] w fun e w' => e = .returned (.int .i64 r) ∧ Drawn0 w w' := by
 have H : (if a1 = 0 then (none) else (some (wrap64 (Int.tdiv (wrap64 ((wrap64 (a0 + a1)) - 1)) a1)))) = some r := h
 clear h
 by_cases c3 : a1 = 0
 ·
  rw [if_pos c3] at H
  exact absurd H (by simp)
 ·
  rw [if_neg c3] at H
  have c3b0 : (a1 == 0) = false := beq_eq_false_iff_ne.mpr c3
  have c3b1 : (a1 != 0) = true := bne_iff_ne.mpr c3
  obtain rfl := Option.some.inj H
  go_enter Tryd.func28, Tryd.ntmps28
  go_wp2
  go_ret
  exact ⟨by first | rfl | (simp; done) | (simp [*]; done), by repeat (first | exact Drawn0.refl _ | apply Drawn0.step)⟩
def bwords.f (a0 : Int) : Option (Int) := some (wrap64 (Int.tdiv (wrap64 ((wrap64 (a0 + 64)) - 1)) 64))
set_option maxHeartbeats 8000000 in
set_option maxRecDepth 100000 in
theorem bwords.calls (a0 : Int) (r : Int) (w : World) (h : bwords.f a0 = some r) :
  Calls Tryd.prog 56 #[.int .i64 a0] w fun e w' => e = .returned (.int .i64 r) ∧ Drawn0 w w' := by
 have H : (some (wrap64 (Int.tdiv (wrap64 ((wrap64 (a0 + 64)) - 1)) 64))) = some r := h
 clear h
 obtain rfl := Option.some.inj H
 go_enter Tryd.func56, Tryd.ntmps56
 go_wp2
 go_ret
 exact ⟨by first | rfl | (simp; done) | (simp [*]; done), by repeat (first | exact Drawn0.refl _ | apply Drawn0.step)⟩
def bNew.f (a0 : Int) : Option (Int × List Int × Int) := if a0 < 0 then (some (0, ([] : List Int), 2)) else (if a0 > 4096 then (some (0, ([] : List Int), 2)) else ((bwords.f a0).bind fun t102 => (if 0 ≤ t102 then (if (t102 : Int).toNat ≤ 35184372088832 then (some (a0, (List.replicate (t102 : Int).toNat 0), 0)) else (none)) else (none))))
set_option maxHeartbeats 8000000 in
set_option maxRecDepth 100000 in
theorem bNew.calls (a0 : Int) (r1 : Int) (r2 : List Int) (r3 : Int) (w : World) (h : bNew.f a0 = some (r1, r2, r3)) :
  Calls Tryd.prog 29 #[.int .i64 a0] w fun e w' => ∃ v1_ : Value, e = .returned (.tuple #[.agg #[.int .i64 r1, v1_], .int .i64 r3]) ∧ Kd.R (Kd.int .u64) 90 w' w.heap.size (fun _ => True) v1_ r2 ∧ Below w.heap.size w w' := by
 have hu26 := Tryd.underlying26
 have HB := A0_ (Below.refl w.heap.size w)
 have H : (if a0 < 0 then (some (0, ([] : List Int), 2)) else (if a0 > 4096 then (some (0, ([] : List Int), 2)) else ((bwords.f a0).bind fun t102 => (if 0 ≤ t102 then (if (t102 : Int).toNat ≤ 35184372088832 then (some (a0, (List.replicate (t102 : Int).toNat 0), 0)) else (none)) else (none))))) = some (r1, r2, r3) := h
 clear h
 by_cases c2 : a0 < 0
 ·
  rw [if_pos c2] at H
  have c2b0 : decide (a0 < 0) = true := decide_eq_true c2
  clear c2
  simp only [Option.some.injEq, Prod.mk.injEq] at H
  obtain ⟨rfl, rfl, rfl⟩ := H
  go_enter Tryd.func29, Tryd.ntmps29
  go_wp2_with (first | ((with_reducible refine gate_dst (N := 2) rfl ?_); refine box_event ?hg (N := 2) ?hd (cs := #[.int .i64 0, .slice none 0 0]) (t := 26) ?hr ?_; (case hd => rfl); (case hg => rfl); (case hr => first | (go_simp; done) | (go_simp; rfl)); intro gb101 hg w3 hbox hb; have n0_ := A0_ (below_step (by repeat (first | (with_reducible first | exact HB.out | apply Al_ | apply Dn_ | apply D1_) | exact HB.out)) hb); have n1_ := A0_ (hbox); have n2_ := A0_ ((by rw [hg]; exact (below_size (by repeat (first | (with_reducible first | exact HB.out | apply Al_ | apply Dn_ | apply D1_) | exact HB.out))) : w.heap.size ≤ gb101)); have n3_ := A0_ ((by rw [hg]; exact (below_size (by repeat (first | (with_reducible first | exact HB.out | apply Al_ | apply Dn_ | apply D1_) | exact HB.out))) : w.heap.size ≤ gb101)); clear HB; have HB := n0_; have BK101 := n1_; have GW101 := n2_; have GE101 := n3_; clear n0_ n1_ n2_ n3_ hb hbox hg; have hcz4_0 : w3.cell? ⟨gb101, 0, none⟩ = some (.int .i64 0) := (Bc_ BK101.out 0).trans rfl; have hcz4_1 : w3.cell? ⟨gb101, 1, none⟩ = some (.slice none 0 0) := (Bc_ BK101.out 1).trans rfl; have hfz4_0 := Bf_ BK101.out 0; have hfz4_1 := Bf_ BK101.out 1))
  refine bodyPost_ret (results_ct rfl _ _ gb101 26 #[.int .i64 0, .slice none 0 0] (0, 0) _ rfl (by (with_reducible repeat (first | refine Bn_ ?_ _ | refine Bd_ ?_ | refine Ba_ ?_ _)); refine blk_put (cs := #[.int .i64 0, .slice none 0 0]) ?_ 1 _ rfl; (with_reducible repeat (first | refine Bn_ ?_ _ | refine Bd_ ?_ | refine Ba_ ?_ _)); refine blk_put (cs := #[.int .i64 0, .slice none 0 0]) ?_ 0 _ rfl; (with_reducible repeat (first | refine Bn_ ?_ _ | refine Bd_ ?_ | refine Ba_ ?_ _)); exact BK101.out) Tryd.underlying26 rfl (by kernel_rfl)) rfl ?_
  exact ⟨_, by first | rfl | (simp [errW_none, errW_some] <;> rfl) | (simp [*, errW_none, errW_some] <;> rfl), by first | exact Kd.R_nil _ _ _ _ _ | exact Kd.N_nil _ _ _ _ _ | exact Kd.V_nil _ _ _ _ _ | exact Kd.Q_nil _ _ _ _ _ | exact Kd.S_nil _ _ _ _ _, by repeat (first | (with_reducible first | exact HB.out | apply Al_ | apply Dn_ | apply D1_ | refine Bs_ ?_ GE101.out) | exact HB.out)⟩
 ·
  rw [if_neg c2] at H
  have c2b0 : decide (a0 < 0) = false := decide_eq_false c2
  clear c2
  by_cases c5 : a0 > 4096
  ·
   rw [if_pos c5] at H
   have c5b0 : decide (4096 < a0) = true := decide_eq_true c5
   clear c5
   simp only [Option.some.injEq, Prod.mk.injEq] at H
   obtain ⟨rfl, rfl, rfl⟩ := H
   go_enter Tryd.func29, Tryd.ntmps29
   go_wp2_with (first | ((with_reducible refine gate_dst (N := 2) rfl ?_); refine box_event ?hg (N := 2) ?hd (cs := #[.int .i64 0, .slice none 0 0]) (t := 26) ?hr ?_; (case hd => rfl); (case hg => rfl); (case hr => first | (go_simp; done) | (go_simp; rfl)); intro gb101 hg w6 hbox hb; have n0_ := A0_ (below_step (by repeat (first | (with_reducible first | exact HB.out | apply Al_ | apply Dn_ | apply D1_) | exact HB.out)) hb); have n1_ := A0_ (hbox); have n2_ := A0_ ((by rw [hg]; exact (below_size (by repeat (first | (with_reducible first | exact HB.out | apply Al_ | apply Dn_ | apply D1_) | exact HB.out))) : w.heap.size ≤ gb101)); have n3_ := A0_ ((by rw [hg]; exact (below_size (by repeat (first | (with_reducible first | exact HB.out | apply Al_ | apply Dn_ | apply D1_) | exact HB.out))) : w.heap.size ≤ gb101)); clear HB; have HB := n0_; have BK101 := n1_; have GW101 := n2_; have GE101 := n3_; clear n0_ n1_ n2_ n3_ hb hbox hg; have hcz7_0 : w6.cell? ⟨gb101, 0, none⟩ = some (.int .i64 0) := (Bc_ BK101.out 0).trans rfl; have hcz7_1 : w6.cell? ⟨gb101, 1, none⟩ = some (.slice none 0 0) := (Bc_ BK101.out 1).trans rfl; have hfz7_0 := Bf_ BK101.out 0; have hfz7_1 := Bf_ BK101.out 1))
   refine bodyPost_ret (results_ct rfl _ _ gb101 26 #[.int .i64 0, .slice none 0 0] (0, 0) _ rfl (by (with_reducible repeat (first | refine Bn_ ?_ _ | refine Bd_ ?_ | refine Ba_ ?_ _)); refine blk_put (cs := #[.int .i64 0, .slice none 0 0]) ?_ 1 _ rfl; (with_reducible repeat (first | refine Bn_ ?_ _ | refine Bd_ ?_ | refine Ba_ ?_ _)); refine blk_put (cs := #[.int .i64 0, .slice none 0 0]) ?_ 0 _ rfl; (with_reducible repeat (first | refine Bn_ ?_ _ | refine Bd_ ?_ | refine Ba_ ?_ _)); exact BK101.out) Tryd.underlying26 rfl (by kernel_rfl)) rfl ?_
   exact ⟨_, by first | rfl | (simp [errW_none, errW_some] <;> rfl) | (simp [*, errW_none, errW_some] <;> rfl), by first | exact Kd.R_nil _ _ _ _ _ | exact Kd.N_nil _ _ _ _ _ | exact Kd.V_nil _ _ _ _ _ | exact Kd.Q_nil _ _ _ _ _ | exact Kd.S_nil _ _ _ _ _, by repeat (first | (with_reducible first | exact HB.out | apply Al_ | apply Dn_ | apply D1_ | refine Bs_ ?_ GE101.out) | exact HB.out)⟩
  ·
   rw [if_neg c5] at H
   have c5b0 : decide (4096 < a0) = false := decide_eq_false c5
   clear c5
   replace H := Option.bind_eq_some_iff.mp H
   obtain ⟨t102, A80, H⟩ := H
   replace H : (if 0 ≤ t102 then (if (t102 : Int).toNat ≤ 35184372088832 then (some (a0, (List.replicate (t102 : Int).toNat 0), 0)) else (none)) else (none)) = some (r1, r2, r3) := H
   have A8 := A0_ A80
   clear A80
   by_cases c9 : 0 ≤ t102
   ·
    rw [if_pos c9] at H
    have c9b0 := eq_true c9
    have c9b1 : decide (0 ≤ t102) = true := decide_eq_true c9
    clear c9
    by_cases c10 : (t102 : Int).toNat ≤ 35184372088832
    ·
     rw [if_pos c10] at H
     have c10b0 := eq_true c10
     have c10b1 : decide ((t102 : Int).toNat ≤ 35184372088832) = true := decide_eq_true c10
     clear c10
     obtain ⟨y103, hy103⟩ : ∃ y_ : List Int, y_ = (List.replicate (t102 : Int).toNat 0) := ⟨_, rfl⟩
     replace H : (some (a0, y103, 0)) = some (r1, r2, r3) := by first | (rw [hy103]; with_reducible exact H) | (have H2_ := (Option.bind_some _ _).symm.trans H; rw [hy103]; with_reducible exact H2_) | (have H2_ := (Option.bind_some _ _).symm.trans H; with_reducible exact H2_) | with_reducible exact H | (rw [hy103]; exact H) | exact H
     have Ny103 := A0_ hy103
     clear hy103
     simp only [Option.some.injEq, Prod.mk.injEq] at H
     obtain ⟨rfl, rfl, rfl⟩ := H
     go_enter Tryd.func29, Tryd.ntmps29
     go_wp2_with (first | ((with_reducible refine gate_dst (N := 2) rfl ?_); refine box_event ?hg (N := 2) ?hd (cs := #[.int .i64 0, .slice none 0 0]) (t := 26) ?hr ?_; (case hd => rfl); (case hg => rfl); (case hr => first | (go_simp; done) | (go_simp; rfl)); intro gb101 hg w11 hbox hb; have n0_ := A0_ (below_step (by repeat (first | (with_reducible first | exact HB.out | apply Al_ | apply Dn_ | apply D1_) | exact HB.out)) hb); have n1_ := A0_ (hbox); have n2_ := A0_ ((by rw [hg]; exact (below_size (by repeat (first | (with_reducible first | exact HB.out | apply Al_ | apply Dn_ | apply D1_) | exact HB.out))) : w.heap.size ≤ gb101)); have n3_ := A0_ ((by rw [hg]; exact (below_size (by repeat (first | (with_reducible first | exact HB.out | apply Al_ | apply Dn_ | apply D1_) | exact HB.out))) : w.heap.size ≤ gb101)); clear HB; have HB := n0_; have BK101 := n1_; have GW101 := n2_; have GE101 := n3_; clear n0_ n1_ n2_ n3_ hb hbox hg) | ((with_reducible refine gate_callee (f := 56) rfl ?_); refine goesL_ (some 13) rfl rfl Tryd.func56 (by kernel_rfl) rfl #[.int .i64 a0] rfl (by (try simp only [List.map_toArray, List.map_cons, List.map_nil]); first | done | rfl | (simp only [List.length_drop, List.length_take]; rfl)) ?_; (with_reducible refine (bwords.calls a0 t102 _ A8.out).mono ?_); rintro e w' ⟨rfl, ⟨nd, rfl⟩⟩; refine ⟨_, rfl, ?_⟩; (try (rw [drewN_self w11]; generalize hq_ : World.drewN w11 _ = w11; have n0_ : Aside0 (w11.heap[gb101]? = some (.cells #[.int .i64 0, .slice none 0 0] 26 (0, 0))) := ⟨by rw [← hq_]; exact (by (with_reducible repeat (first | refine Bn_ ?_ _ | refine Bd_ ?_ | refine Ba_ ?_ _)); exact BK101.out)⟩; have n1_ : Aside0 (Below w.heap.size w w11) := ⟨by rw [← hq_]; exact (by repeat (first | (with_reducible first | exact HB.out | apply Al_ | apply Dn_ | apply D1_ | refine Bs_ ?_ GE101.out) | exact HB.out))⟩; clear BK101 HB hq_; have BK101 := n0_; have HB := n1_; clear n0_ n1_))) | ((with_reducible refine gate_dst (N := 14) rfl ?_); refine Kd.R_make (Kd.int .u64) _ 90 rfl (N := 14) rfl 24 _ _ rfl t102 rfl rfl Tryd.underlying24 (.int .u64 0) 8 info90 rfl (by decide) (by omega) 0 (ok := fun _ => True) (okp := fun _ => True) rfl (fun _ hk => hk) trivial (of_decide_eq_true (by first | (with_reducible assumption) | assumption)) (Nat.le_trans (Nat.mul_le_mul_right _ (of_decide_eq_true (by first | (with_reducible assumption) | assumption) : t102.toNat ≤ 35184372088832)) (by omega)) (Below.refl _ _) (Nat.le_refl _) ?_; intro v104 w12 ho13 hb hg_ hnew_; clear hg_ hnew_; (first | rw [← Ny103.out] at ho13 | (simp only [Int.reduceToNat] at ho13; rw [← Ny103.out] at ho13)); have n0_ := A0_ (Kd.R_lower ho13 (below_size (by repeat (first | (with_reducible first | exact HB.out | apply Al_ | apply Dn_ | apply D1_ | refine Bs_ ?_ GE101.out) | exact HB.out)))); have n1_ := A0_ (blk_below (g := gb101) (o := .cells #[.int .i64 0, .slice none 0 0] 26 (0, 0)) (by (with_reducible repeat (first | refine Bn_ ?_ _ | refine Bd_ ?_ | refine Ba_ ?_ _)); exact BK101.out) hb); have n2_ := A0_ (below_step (by repeat (first | (with_reducible first | exact HB.out | apply Al_ | apply Dn_ | apply D1_ | refine Bs_ ?_ GE101.out) | exact HB.out)) hb); clear BK101 HB; have HO105 := n0_; have BK101 := n1_; have HB := n2_; clear n0_ n1_ n2_ hb ho13; obtain ⟨Ao14, co14, eo14⟩ := Kd.R_slice HO105.out; subst eo14; have hcz15_0 : w12.cell? ⟨gb101, 0, none⟩ = some (.int .i64 0) := (Bc_ BK101.out 0).trans rfl; have hcz15_1 : w12.cell? ⟨gb101, 1, none⟩ = some (.slice none 0 0) := (Bc_ BK101.out 1).trans rfl; have hfz15_0 := Bf_ BK101.out 0; have hfz15_1 := Bf_ BK101.out 1))
     refine bodyPost_ret (results_ct rfl _ _ gb101 26 #[.int .i64 a0, .slice Ao14 y103.length co14] (0, 0) _ rfl (by (with_reducible repeat (first | refine Bn_ ?_ _ | refine Bd_ ?_ | refine Ba_ ?_ _)); refine blk_put (cs := #[.int .i64 a0, .slice none 0 0]) ?_ 1 _ rfl; (with_reducible repeat (first | refine Bn_ ?_ _ | refine Bd_ ?_ | refine Ba_ ?_ _)); refine blk_put (cs := #[.int .i64 0, .slice none 0 0]) ?_ 0 _ rfl; (with_reducible repeat (first | refine Bn_ ?_ _ | refine Bd_ ?_ | refine Ba_ ?_ _)); exact BK101.out) Tryd.underlying26 rfl (by kernel_rfl)) rfl ?_
     exact ⟨_, by first | rfl | (simp [errW_none, errW_some] <;> rfl) | (simp [*, errW_none, errW_some] <;> rfl), by (with_reducible repeat (first | apply Ra_ | apply Rn_ | apply Rd_)); exact Kd.R_mono (Rf_ (p := ⟨gb101, 1, none⟩) (Rf_ (p := ⟨gb101, 0, none⟩) (Kd.R_types HO105.out BK101.out (by decide)) K2_ (.int .i64 a0)) K2_ (.slice Ao14 y103.length co14)) (fun _ hk => trivial), by repeat (first | (with_reducible first | exact HB.out | apply Al_ | apply Dn_ | apply D1_ | refine Bs_ ?_ GE101.out) | exact HB.out)⟩
    ·
     rw [if_neg c10] at H
     exact absurd H (by simp)
   ·
    rw [if_neg c9] at H
    exact absurd H (by simp)
def iNew.f (a0 : Int) (a1 : Int) : Option (Int × Int × List Int × Int × List Int × Int) := (isizes.f a0 a1).bind fun t107 => (if t107 = true then ((igranules.f a0 a1).bind fun t108 => ((bNew.f t108).bind fun bt109 => (if 0 ≤ t108 then (if (t108 : Int).toNat ≤ 35184372088832 then (some (a0, a1, (List.replicate (t108 : Int).toNat 0), bt109.1, bt109.2.1, bt109.2.2)) else (none)) else (none)))) else (some (0, 0, ([] : List Int), 0, ([] : List Int), 2)))
def iNew.T5 : Bool × List (List Nat × List Nat) := (true, [([], []), ([], []), ([], []), ([2, 2], [2]), ([], []), ([0, 1, 3, 4], [0, 1, 3, 4]), ([], []), ([5, 0, 1, 2, 3, 4, 5], [5]), ([6, 7, 0, 1, 2, 3, 4, 5, 6, 7], [6])])
def iNew.B5 : List Nat := [0, 0, 0, 4, 0, 31, 0, 63, 255]
theorem iNew.tab5 : rtab .any (opsOf Tryd.f9 5) = iNew.T5 := by kernel_rfl
theorem iNew.bits5 : waitsOk iNew.T5.2 iNew.B5 = true := by kernel_rfl
set_option maxHeartbeats 8000000 in
set_option maxRecDepth 100000 in
theorem iNew.calls (a0 : Int) (a1 : Int) (r1 : Int) (r2 : Int) (r3 : List Int) (r4 : Int) (r5 : List Int) (r6 : Int) (w : World) (h : iNew.f a0 a1 = some (r1, r2, r3, r4, r5, r6)) :
  Calls Tryd.prog 9 #[.int .i64 a0, .int .i64 a1] w fun e w' => ∃ v2_ v4_ : Value, e = .returned (.tuple #[.agg #[.int .i64 r1, .int .i64 r2, v2_, .int .i64 r4, v4_], .int .i64 r6]) ∧ Kd.R (Kd.int .i64) 3 w' w.heap.size (fun _ => True) v2_ r3 ∧ Kd.R (Kd.int .u64) 90 w' w.heap.size (fun _ => True) v4_ r5 ∧ Below w.heap.size w w' := by
 have hu28 := Tryd.underlying28
 have hu26 := Tryd.underlying26
 have HB := A0_ (Below.refl w.heap.size w)
 have H : ((isizes.f a0 a1).bind fun t107 => (if t107 = true then ((igranules.f a0 a1).bind fun t108 => ((bNew.f t108).bind fun bt109 => (if 0 ≤ t108 then (if (t108 : Int).toNat ≤ 35184372088832 then (some (a0, a1, (List.replicate (t108 : Int).toNat 0), bt109.1, bt109.2.1, bt109.2.2)) else (none)) else (none)))) else (some (0, 0, ([] : List Int), 0, ([] : List Int), 2)))) = some (r1, r2, r3, r4, r5, r6) := h
 clear h
 replace H := Option.bind_eq_some_iff.mp H
 obtain ⟨t107, A30, H⟩ := H
 replace H : (if t107 = true then ((igranules.f a0 a1).bind fun t108 => ((bNew.f t108).bind fun bt109 => (if 0 ≤ t108 then (if (t108 : Int).toNat ≤ 35184372088832 then (some (a0, a1, (List.replicate (t108 : Int).toNat 0), bt109.1, bt109.2.1, bt109.2.2)) else (none)) else (none)))) else (some (0, 0, ([] : List Int), 0, ([] : List Int), 2))) = some (r1, r2, r3, r4, r5, r6) := H
 have A3 := A0_ A30
 clear A30
 by_cases c4 : t107 = true
 ·
  subst c4
  have H1 : ((igranules.f a0 a1).bind fun t108 => ((bNew.f t108).bind fun bt109 => (if 0 ≤ t108 then (if (t108 : Int).toNat ≤ 35184372088832 then (some (a0, a1, (List.replicate (t108 : Int).toNat 0), bt109.1, bt109.2.1, bt109.2.2)) else (none)) else (none)))) = some (r1, r2, r3, r4, r5, r6) := by rw [if_pos rfl] at H; exact H
  clear H
  have H := H1
  clear H1
  replace H := Option.bind_eq_some_iff.mp H
  obtain ⟨t108, A50, H⟩ := H
  replace H : ((bNew.f t108).bind fun bt109 => (if 0 ≤ t108 then (if (t108 : Int).toNat ≤ 35184372088832 then (some (a0, a1, (List.replicate (t108 : Int).toNat 0), bt109.1, bt109.2.1, bt109.2.2)) else (none)) else (none))) = some (r1, r2, r3, r4, r5, r6) := H
  have A5 := A0_ A50
  clear A50
  replace H := Option.bind_eq_some_iff.mp H
  obtain ⟨⟨t109, t110, t113⟩, A60, H⟩ := H
  replace H : (if 0 ≤ t108 then (if (t108 : Int).toNat ≤ 35184372088832 then (some (a0, a1, (List.replicate (t108 : Int).toNat 0), t109, t110, t113)) else (none)) else (none)) = some (r1, r2, r3, r4, r5, r6) := H
  have A6 := A0_ A60
  clear A60
  by_cases c7 : 0 ≤ t108
  ·
   rw [if_pos c7] at H
   have c7b0 := eq_true c7
   have c7b1 : decide (0 ≤ t108) = true := decide_eq_true c7
   clear c7
   by_cases c8 : (t108 : Int).toNat ≤ 35184372088832
   ·
    rw [if_pos c8] at H
    have c8b0 := eq_true c8
    have c8b1 : decide ((t108 : Int).toNat ≤ 35184372088832) = true := decide_eq_true c8
    clear c8
    obtain ⟨y115, hy115⟩ : ∃ y_ : List Int, y_ = (List.replicate (t108 : Int).toNat 0) := ⟨_, rfl⟩
    replace H : (some (a0, a1, y115, t109, t110, t113)) = some (r1, r2, r3, r4, r5, r6) := by first | (rw [hy115]; with_reducible exact H) | (have H2_ := (Option.bind_some _ _).symm.trans H; rw [hy115]; with_reducible exact H2_) | (have H2_ := (Option.bind_some _ _).symm.trans H; with_reducible exact H2_) | with_reducible exact H | (rw [hy115]; exact H) | exact H
    have Ny115 := A0_ hy115
    clear hy115
    simp only [Option.some.injEq, Prod.mk.injEq] at H
    obtain ⟨rfl, rfl, rfl, rfl, rfl, rfl⟩ := H
    go_enter Tryd.func9, Tryd.ntmps9
    try go_wp2_with (first | ((with_reducible refine gate_dst (N := 4) rfl ?_); refine box_event ?hg (N := 4) ?hd (cs := #[.int .i64 0, .int .i64 0, .slice none 0 0, .int .i64 0, .slice none 0 0]) (t := 28) ?hr ?_; (case hd => rfl); (case hg => rfl); (case hr => first | (go_simp; done) | (go_simp; rfl)); intro gb106 hg w9 hbox hb; have n0_ := A0_ (below_step (by repeat (first | (with_reducible first | exact HB.out | apply Al_ | apply Dn_ | apply D1_) | exact HB.out)) hb); have n1_ := A0_ (hbox); have n2_ := A0_ ((by rw [hg]; exact (below_size (by repeat (first | (with_reducible first | exact HB.out | apply Al_ | apply Dn_ | apply D1_) | exact HB.out))) : w.heap.size ≤ gb106)); have n3_ := A0_ ((by rw [hg]; exact (below_size (by repeat (first | (with_reducible first | exact HB.out | apply Al_ | apply Dn_ | apply D1_) | exact HB.out))) : w.heap.size ≤ gb106)); clear HB; have HB := n0_; have BK106 := n1_; have GW106 := n2_; have GE106 := n3_; clear n0_ n1_ n2_ n3_ hb hbox hg) | ((with_reducible refine gate_callee (f := 27) rfl ?_); refine goesL_ (some 11) rfl rfl Tryd.func27 (by kernel_rfl) rfl #[.int .i64 a0, .int .i64 a1] rfl (by (try simp only [List.map_toArray, List.map_cons, List.map_nil]); first | done | rfl | (simp only [List.length_drop, List.length_take]; rfl)) ?_; (with_reducible refine (isizes.calls a0 a1 true _ A3.out).mono ?_); rintro e w' ⟨rfl, ⟨nd, rfl⟩⟩; refine ⟨_, rfl, ?_⟩; (try (rw [drewN_self w9]; generalize hq_ : World.drewN w9 _ = w9; have n0_ : Aside0 (w9.heap[gb106]? = some (.cells #[.int .i64 0, .int .i64 0, .slice none 0 0, .int .i64 0, .slice none 0 0] 28 (0, 0))) := ⟨by rw [← hq_]; exact (by (with_reducible repeat (first | refine Bn_ ?_ _ | refine Bd_ ?_ | refine Ba_ ?_ _)); exact BK106.out)⟩; have n1_ : Aside0 (Below w.heap.size w w9) := ⟨by rw [← hq_]; exact (by repeat (first | (with_reducible first | exact HB.out | apply Al_ | apply Dn_ | apply D1_ | refine Bs_ ?_ GE106.out) | exact HB.out))⟩; clear BK106 HB hq_; have BK106 := n0_; have HB := n1_; clear n0_ n1_))) | ((with_reducible refine gate_callee (f := 28) rfl ?_); refine goesL_ (some 16) rfl rfl Tryd.func28 (by kernel_rfl) rfl #[.int .i64 a0, .int .i64 a1] rfl (by (try simp only [List.map_toArray, List.map_cons, List.map_nil]); first | done | rfl | (simp only [List.length_drop, List.length_take]; rfl)) ?_; (with_reducible refine (igranules.calls a0 a1 t108 _ A5.out).mono ?_); rintro e w' ⟨rfl, ⟨nd, rfl⟩⟩; refine ⟨_, rfl, ?_⟩; (try (rw [drewN_self w9]; generalize hq_ : World.drewN w9 _ = w9; have n0_ : Aside0 (w9.heap[gb106]? = some (.cells #[.int .i64 0, .int .i64 0, .slice none 0 0, .int .i64 0, .slice none 0 0] 28 (0, 0))) := ⟨by rw [← hq_]; exact (by (with_reducible repeat (first | refine Bn_ ?_ _ | refine Bd_ ?_ | refine Ba_ ?_ _)); exact BK106.out)⟩; have n1_ : Aside0 (Below w.heap.size w w9) := ⟨by rw [← hq_]; exact (by repeat (first | (with_reducible first | exact HB.out | apply Al_ | apply Dn_ | apply D1_ | refine Bs_ ?_ GE106.out) | exact HB.out))⟩; clear BK106 HB hq_; have BK106 := n0_; have HB := n1_; clear n0_ n1_))) | ((with_reducible refine gate_callee (f := 29) rfl ?_); refine goesL_ (some 19) rfl rfl Tryd.func29 (by kernel_rfl) rfl #[.int .i64 t108] rfl (by (try simp only [List.map_toArray, List.map_cons, List.map_nil]); first | done | rfl | (simp only [List.length_drop, List.length_take]; rfl)) ?_; (with_reducible refine (bNew.calls t108 t109 t110 t113 _ A6.out).mono ?_); rintro e w10 ⟨v111, rfl, ho0, hb⟩; refine ⟨_, rfl, ?_⟩; have n0_ := A0_ (Kd.R_lower ho0 (below_size (by repeat (first | (with_reducible first | exact HB.out | apply Al_ | apply Dn_ | apply D1_ | refine Bs_ ?_ GE106.out) | exact HB.out)))); have n1_ := A0_ (blk_below (g := gb106) (o := .cells #[.int .i64 0, .int .i64 0, .slice none 0 0, .int .i64 0, .slice none 0 0] 28 (0, 0)) (by (with_reducible repeat (first | refine Bn_ ?_ _ | refine Bd_ ?_ | refine Ba_ ?_ _)); exact BK106.out) hb); have n2_ := A0_ (below_step (by repeat (first | (with_reducible first | exact HB.out | apply Al_ | apply Dn_ | apply D1_ | refine Bs_ ?_ GE106.out) | exact HB.out)) hb); clear BK106 HB; have HO112 := n0_; have BK106 := n1_; have HB := n2_; clear n0_ n1_ n2_; (try clear hb); (try clear hb2); (try clear hk); (try clear hi); (try clear ho0)) | ((with_reducible refine gate_dst (N := 7) rfl ?_); refine box_event ?hg (N := 7) ?hd (cs := #[.int .i64 0, .slice none 0 0]) (t := 26) ?hr ?_; (case hd => rfl); (case hg => rfl); (case hr => first | (go_simp; done) | (go_simp; rfl)); intro gb114 hg w11 hbox hb; have n0_ := A0_ (Kd.R_below (by (with_reducible repeat (first | apply Ra_ | apply Rn_ | apply Rd_)); exact HO112.out) hb); have n1_ := A0_ (blk_below (g := gb106) (o := .cells #[.int .i64 0, .int .i64 0, .slice none 0 0, .int .i64 0, .slice none 0 0] 28 (0, 0)) (by (with_reducible repeat (first | refine Bn_ ?_ _ | refine Bd_ ?_ | refine Ba_ ?_ _)); exact BK106.out) hb); have n2_ := A0_ (below_step (by repeat (first | (with_reducible first | exact HB.out | apply Al_ | apply Dn_ | apply D1_ | refine Bs_ ?_ GE106.out) | exact HB.out)) hb); have n3_ := A0_ (hbox); have n4_ := A0_ ((by rw [hg]; exact (below_size (by repeat (first | (with_reducible first | exact HB.out | apply Al_ | apply Dn_ | apply D1_ | refine Bs_ ?_ GE106.out) | exact HB.out))) : w.heap.size ≤ gb114)); have n5_ := A0_ ((by rw [hg]; exact (below_size (by repeat (first | (with_reducible first | exact HB.out | apply Al_ | apply Dn_ | apply D1_ | refine Bs_ ?_ GE106.out) | exact HB.out))) : w.heap.size ≤ gb114)); have n6_ := A0_ ((by rw [hg]; exact Nat.ne_of_lt (blk_lt (g := gb106) (o := .cells #[.int .i64 0, .int .i64 0, .slice none 0 0, .int .i64 0, .slice none 0 0] 28 (0, 0)) (by (with_reducible repeat (first | refine Bn_ ?_ _ | refine Bd_ ?_ | refine Ba_ ?_ _)); exact BK106.out)) : gb106 ≠ gb114)); have n7_ := A0_ ((by rw [hg]; exact Nat.ne_of_gt (blk_lt (g := gb106) (o := .cells #[.int .i64 0, .int .i64 0, .slice none 0 0, .int .i64 0, .slice none 0 0] 28 (0, 0)) (by (with_reducible repeat (first | refine Bn_ ?_ _ | refine Bd_ ?_ | refine Ba_ ?_ _)); exact BK106.out)) : gb114 ≠ gb106)); clear HO112 BK106 HB; have HO112 := n0_; have BK106 := n1_; have HB := n2_; have BK114 := n3_; have GW114 := n4_; have GE114 := n5_; have NB106_114 := n6_; have NB114_106 := n7_; clear n0_ n1_ n2_ n3_ n4_ n5_ n6_ n7_ hb hbox hg; have hnb12 := NB114_106.out; have hnc12 := NB106_114.out; have hcz13_0 : w11.cell? ⟨gb114, 0, none⟩ = some (.int .i64 0) := (Bc_ BK114.out 0).trans rfl; have hcz13_1 : w11.cell? ⟨gb114, 1, none⟩ = some (.slice none 0 0) := (Bc_ BK114.out 1).trans rfl; have hfz13_0 := Bf_ BK114.out 0; have hfz13_1 := Bf_ BK114.out 1; obtain ⟨Ao14, co14, eo14⟩ := Kd.R_slice HO112.out; subst eo14))
    have n0_ : Aside0 (Kd.R (Kd.int .u64) 90 ((w11.setCell ⟨gb114, 0, none⟩ (.int .i64 t109)).setCell ⟨gb114, 1, none⟩ (.slice Ao14 t110.length co14)) w.heap.size (fun _ => True) (.slice Ao14 t110.length co14) t110) := ⟨by (with_reducible repeat (first | apply Ra_ | apply Rn_ | apply Rd_)); exact Kd.R_mono (Rf_ (p := ⟨gb114, 1, none⟩) (Rf_ (p := ⟨gb114, 0, none⟩) (Kd.R_types HO112.out BK114.out (by decide)) K2_ (.int .i64 t109)) K2_ (.slice Ao14 t110.length co14)) (fun _ hk => trivial)⟩
    have n1_ : Aside0 (((w11.setCell ⟨gb114, 0, none⟩ (.int .i64 t109)).setCell ⟨gb114, 1, none⟩ (.slice Ao14 t110.length co14)).heap[gb106]? = some (.cells #[.int .i64 0, .int .i64 0, .slice none 0 0, .int .i64 0, .slice none 0 0] 28 (0, 0))) := ⟨by (with_reducible repeat (first | refine Bn_ ?_ _ | refine Bd_ ?_ | refine Ba_ ?_ _)); refine Bz_ ?_ NB106_114.out _; (with_reducible repeat (first | refine Bn_ ?_ _ | refine Bd_ ?_ | refine Ba_ ?_ _)); refine Bz_ ?_ NB106_114.out _; (with_reducible repeat (first | refine Bn_ ?_ _ | refine Bd_ ?_ | refine Ba_ ?_ _)); exact BK106.out⟩
    have n2_ : Aside0 (((w11.setCell ⟨gb114, 0, none⟩ (.int .i64 t109)).setCell ⟨gb114, 1, none⟩ (.slice Ao14 t110.length co14)).heap[gb114]? = some (.cells #[.int .i64 t109, .slice Ao14 t110.length co14] 26 (0, 0))) := ⟨by (with_reducible repeat (first | refine Bn_ ?_ _ | refine Bd_ ?_ | refine Ba_ ?_ _)); refine blk_put (cs := #[.int .i64 t109, .slice none 0 0]) ?_ 1 _ rfl; (with_reducible repeat (first | refine Bn_ ?_ _ | refine Bd_ ?_ | refine Ba_ ?_ _)); refine blk_put (cs := #[.int .i64 0, .slice none 0 0]) ?_ 0 _ rfl; (with_reducible repeat (first | refine Bn_ ?_ _ | refine Bd_ ?_ | refine Ba_ ?_ _)); exact BK114.out⟩
    have n3_ : Aside0 (Below w.heap.size w ((w11.setCell ⟨gb114, 0, none⟩ (.int .i64 t109)).setCell ⟨gb114, 1, none⟩ (.slice Ao14 t110.length co14))) := ⟨by repeat (first | (with_reducible first | exact HB.out | apply Al_ | apply Dn_ | apply D1_ | refine Bs_ ?_ GE106.out | refine Bs_ ?_ GE114.out) | exact HB.out)⟩
    (try clear HO112)
    (try clear BK106)
    (try clear BK114)
    (try clear HB)
    generalize ((w11.setCell ⟨gb114, 0, none⟩ (.int .i64 t109)).setCell ⟨gb114, 1, none⟩ (.slice Ao14 t110.length co14)) = w15 at n0_ n1_ n2_ n3_ ⊢
    have HO112 := n0_
    have BK106 := n1_
    have BK114 := n2_
    have HB := n3_
    clear n0_ n1_ n2_ n3_
    have n0_ := A0_ (Kd.R_drew HO112.out)
    have n1_ := A0_ (blk_drew BK106.out)
    have n2_ := A0_ (blk_drew BK114.out)
    have n3_ := A0_ (D1_ HB.out)
    clear HO112
    clear BK106
    clear BK114
    clear HB
    have HO112 := n0_
    have BK106 := n1_
    have BK114 := n2_
    have HB := n3_
    clear n0_ n1_ n2_ n3_
    refine start_ (n := 9) (S := fun w' => w'.cell? ⟨gb114, 0, none⟩ = some (.int .i64 t109) ∧ w'.cell? ⟨gb114, 1, none⟩ = some (.slice Ao14 t110.length co14)) (ds := []) #[false, false, false, false, false, false, false, false, false] (by kernel_rfl) rfl rfl ⟨(Bc_ BK114.out 0).trans rfl, (Bc_ BK114.out 1).trans rfl⟩ (fun hHeld => ?_); refine with_tabW iNew.tab5 iNew.bits5 (fun HT_ HW_ => ?_)
    generalize w15.drew = w16 at HO112 BK106 BK114 HB hHeld ⊢
    refine pure_ (i := 0) (N := some 22) (v := ?_) (a' := ?_) #[true, false, false, false, false, false, false, false, false] rfl rfl (any_of HT_.out (by kernel_rfl)) (fun _ _ _ h => h) (Or.inl ⟨by rfl, ?_⟩) ?_ ?_
    rotate_left
    ·
     intro w'
     go_simp
     with_reducible rfl
    rotate_left
    ·
     simp only [Act.put, Sa_, Sz_, Ss_, i64_w, i32_w]
     rfl
    refine pure_ (i := 1) (N := some 23) (v := ?_) (a' := ?_) #[true, true, false, false, false, false, false, false, false] rfl rfl (any_of HT_.out (by kernel_rfl)) (fun _ _ _ h => h) (Or.inl ⟨by rfl, ?_⟩) ?_ ?_
    rotate_left
    ·
     intro w'
     go_simp
     with_reducible rfl
    rotate_left
    ·
     simp only [Act.put, Sa_, Sz_, Ss_, i64_w, i32_w]
     rfl
    refine pure_ (i := 2) (N := some 24) (v := ?_) (a' := ?_) #[true, true, true, false, false, false, false, false, false] rfl rfl (any_of HT_.out (by kernel_rfl)) (fun _ _ _ h => h) (Or.inl ⟨by rfl, ?_⟩) ?_ ?_
    rotate_left
    ·
     intro w'
     go_simp
     with_reducible rfl
    rotate_left
    ·
     simp only [Act.put, Sa_, Sz_, Ss_, i64_w, i32_w]
     rfl
    refine pure_ (i := 6) (N := some 28) (v := ?_) (a' := ?_) #[true, true, true, false, false, false, true, false, false] rfl rfl (any_of HT_.out (by kernel_rfl)) (fun _ _ _ h => h) (Or.inl ⟨by rfl, ?_⟩) ?_ ?_
    rotate_left
    ·
     intro w'
     go_simp
     with_reducible rfl
    rotate_left
    ·
     simp only [Act.put, Sa_, Sz_, Ss_, i64_w, i32_w]
     rfl
    refine take_ (i := 4) (N := some 26) (v := ?_) (a' := ?_) #[true, true, true, false, true, false, true, false, false] rfl rfl (take_ofW HT_.out HW_.out (by kernel_rfl)) (fun _ _ _ h => h) (Or.inl ⟨by rfl, ?_⟩) hHeld ?_ ?_
    rotate_left
    ·
     rintro w' ⟨s0, s1⟩
     go_simp
     with_reducible rfl
    rotate_left
    ·
     simp only [Act.put, Sa_, Sz_, Ss_, i64_w, i32_w]
     rfl
    refine one_ (i := 3) (N := some 25) #[true, true, true, true, true, false, true, false, false] rfl rfl (one_of HT_.out (by kernel_rfl)) (by decide) (fun K hK => ?_)
    refine Kd.R_make_step (Kd.int .i64) _ 3 (by rfl) (N := 25) rfl 23 _ _ rfl t108 rfl rfl Tryd.underlying23 (.int .i64 0) 8 info3 rfl (by decide) (by omega) 0 (ok := fun _ => True) (okp := fun _ => True) rfl (fun _ hk => hk) trivial (of_decide_eq_true (by first | (with_reducible assumption) | assumption)) (Nat.le_trans (Nat.mul_le_mul_right _ (of_decide_eq_true (by first | (with_reducible assumption) | assumption) : t108.toNat ≤ 35184372088832)) (by omega)) (Below.refl _ _) (Nat.le_refl _) ?_
    intro v116 w17 ho18 hb hg_ hnew_
    clear hg_ hnew_
    (first | rw [← Ny115.out] at ho18 | (simp only [Int.reduceToNat] at ho18; rw [← Ny115.out] at ho18))
    have n0_ := A0_ (Kd.R_below (by (with_reducible repeat (first | apply Ra_ | apply Rn_ | apply Rd_)); exact HO112.out) hb)
    have n1_ := A0_ (Kd.R_lower ho18 (below_size (by repeat (first | (with_reducible first | exact HB.out | apply Al_ | apply Dn_ | apply D1_ | refine Bs_ ?_ GE106.out | refine Bs_ ?_ GE114.out) | exact HB.out))))
    have n2_ := A0_ (blk_below (g := gb106) (o := .cells #[.int .i64 0, .int .i64 0, .slice none 0 0, .int .i64 0, .slice none 0 0] 28 (0, 0)) (by (with_reducible repeat (first | refine Bn_ ?_ _ | refine Bd_ ?_ | refine Ba_ ?_ _)); exact BK106.out) hb)
    have n3_ := A0_ (blk_below (g := gb114) (o := .cells #[.int .i64 t109, .slice Ao14 t110.length co14] 26 (0, 0)) (by (with_reducible repeat (first | refine Bn_ ?_ _ | refine Bd_ ?_ | refine Ba_ ?_ _)); exact BK114.out) hb)
    have n4_ := A0_ (below_step (by repeat (first | (with_reducible first | exact HB.out | apply Al_ | apply Dn_ | apply D1_ | refine Bs_ ?_ GE106.out | refine Bs_ ?_ GE114.out) | exact HB.out)) hb)
    clear HO112
    clear BK106
    clear BK114
    clear HB
    have HO112 := n0_
    have HO117 := n1_
    have BK106 := n2_
    have BK114 := n3_
    have HB := n4_
    clear n0_ n1_ n2_ n3_ n4_
    clear hb ho18
    obtain ⟨Ao19, co19, eo19⟩ := Kd.R_slice HO117.out
    (first | subst eo19 | (injection eo19 with f1_ f2_ f3_; have f4_ := f1_.symm; have f5_ := f3_.symm; clear f1_ f2_ f3_; subst f4_; subst f5_))
    refine hK.out _ _ ⟨(Bc_ BK114.out 0).trans rfl, (Bc_ BK114.out 1).trans rfl⟩ (fun hHeld => ?_)
    clear hK K
    refine norm_ (a' := ?_) ?_ ?_
    rotate_left
    ·
     show Act.put _ (some 25) _ = _
     simp only [Act.put, Sa_, Sz_, Ss_, i64_w, i32_w]
     rfl
    refine pure_ (i := 5) (N := some 27) (v := ?_) (a' := ?_) #[true, true, true, true, true, true, true, false, false] rfl rfl (any_of HT_.out (by kernel_rfl)) (fun _ _ _ h => h) (Or.inl ⟨by rfl, ?_⟩) ?_ ?_
    rotate_left
    ·
     intro w'
     go_simp
     with_reducible rfl
    rotate_left
    ·
     simp only [Act.put, Sa_, Sz_, Ss_, i64_w, i32_w]
     rfl
    refine one_ (i := 7) (N := none) #[true, true, true, true, true, true, true, true, false] rfl rfl (one_of HT_.out (by kernel_rfl)) (by decide) (fun K hK => ?_)
    have hs20 : w17.cell? ⟨gb106, 0, none⟩ = some (.int .i64 0) := (Bc_ BK106.out 0).trans rfl
    have hfs20 := Bf_ BK106.out 0
    have hns20_1 := NB114_106.out
    have hms20_1 := NB106_114.out
    have hs21 : w17.cell? ⟨gb106, 1, none⟩ = some (.int .i64 0) := (Bc_ BK106.out 1).trans rfl
    have hfs21 := Bf_ BK106.out 1
    have hns21_1 := NB114_106.out
    have hms21_1 := NB106_114.out
    have hs22 : w17.cell? ⟨gb106, 2, none⟩ = some (.slice none 0 0) := (Bc_ BK106.out 2).trans rfl
    have hfs22 := Bf_ BK106.out 2
    have hns22_1 := NB114_106.out
    have hms22_1 := NB106_114.out
    have hs23 : w17.cell? ⟨gb106, 3, none⟩ = some (.int .i64 0) := (Bc_ BK106.out 3).trans rfl
    have hfs23 := Bf_ BK106.out 3
    have hns23_1 := NB114_106.out
    have hms23_1 := NB106_114.out
    have hs24 : w17.cell? ⟨gb106, 4, none⟩ = some (.slice none 0 0) := (Bc_ BK106.out 4).trans rfl
    have hfs24 := Bf_ BK106.out 4
    have hns24_1 := NB114_106.out
    have hms24_1 := NB106_114.out
    refine skip_ (w1 := ?_) (by rfl) rfl ?_ ?_
    rotate_left
    ·
     go_simp
     rfl
    refine hK.out _ _ ⟨((cell_far (p := ⟨gb106, _, none⟩) NB114_106.out _).trans (((cell_far (p := ⟨gb106, _, none⟩) NB114_106.out _).trans (((cell_far (p := ⟨gb106, _, none⟩) NB114_106.out _).trans (((cell_far (p := ⟨gb106, _, none⟩) NB114_106.out _).trans (((cell_far (p := ⟨gb106, _, none⟩) NB114_106.out _).trans (hHeld.1)))))))))), ((cell_far (p := ⟨gb106, _, none⟩) NB114_106.out _).trans (((cell_far (p := ⟨gb106, _, none⟩) NB114_106.out _).trans (((cell_far (p := ⟨gb106, _, none⟩) NB114_106.out _).trans (((cell_far (p := ⟨gb106, _, none⟩) NB114_106.out _).trans (((cell_far (p := ⟨gb106, _, none⟩) NB114_106.out _).trans (hHeld.2))))))))))⟩ (fun hHeld => ?_)
    clear hK K
    refine pure_ (i := 8) (N := some 5) (v := ?_) (a' := ?_) #[true, true, true, true, true, true, true, true, true] rfl rfl (any_of HT_.out (by kernel_rfl)) (fun _ _ _ h => h) (Or.inl ⟨by rfl, ?_⟩) ?_ ?_
    rotate_left
    ·
     intro w'
     go_simp
     with_reducible rfl
    rotate_left
    ·
     simp only [Act.put, Sa_, Sz_, Ss_, i64_w, i32_w]
     rfl
    refine done_ (done_of HT_.out (by kernel_rfl)) ?_
    try go_wp2
    refine bodyPost_ret (results_ct rfl _ _ gb106 28 #[.int .i64 a0, .int .i64 a1, .slice Ao19 y115.length co19, .int .i64 t109, .slice Ao14 t110.length co14] (0, 0) _ rfl (by (with_reducible repeat (first | refine Bn_ ?_ _ | refine Bd_ ?_ | refine Ba_ ?_ _)); refine blk_put (cs := #[.int .i64 a0, .int .i64 a1, .slice Ao19 y115.length co19, .int .i64 t109, .slice none 0 0]) ?_ 4 _ rfl; (with_reducible repeat (first | refine Bn_ ?_ _ | refine Bd_ ?_ | refine Ba_ ?_ _)); refine blk_put (cs := #[.int .i64 a0, .int .i64 a1, .slice Ao19 y115.length co19, .int .i64 0, .slice none 0 0]) ?_ 3 _ rfl; (with_reducible repeat (first | refine Bn_ ?_ _ | refine Bd_ ?_ | refine Ba_ ?_ _)); refine blk_put (cs := #[.int .i64 a0, .int .i64 a1, .slice none 0 0, .int .i64 0, .slice none 0 0]) ?_ 2 _ rfl; (with_reducible repeat (first | refine Bn_ ?_ _ | refine Bd_ ?_ | refine Ba_ ?_ _)); refine blk_put (cs := #[.int .i64 a0, .int .i64 0, .slice none 0 0, .int .i64 0, .slice none 0 0]) ?_ 1 _ rfl; (with_reducible repeat (first | refine Bn_ ?_ _ | refine Bd_ ?_ | refine Ba_ ?_ _)); refine blk_put (cs := #[.int .i64 0, .int .i64 0, .slice none 0 0, .int .i64 0, .slice none 0 0]) ?_ 0 _ rfl; (with_reducible repeat (first | refine Bn_ ?_ _ | refine Bd_ ?_ | refine Ba_ ?_ _)); exact BK106.out) Tryd.underlying28 rfl (by kernel_rfl)) rfl ?_
    exact ⟨_, _, by first | rfl | (simp [errW_none, errW_some] <;> rfl) | (simp [*, errW_none, errW_some] <;> rfl), by (with_reducible repeat (first | apply Ra_ | apply Rn_ | apply Rd_)); exact Kd.R_mono (Rf_ (p := ⟨gb106, 4, none⟩) (Rf_ (p := ⟨gb106, 3, none⟩) (Rf_ (p := ⟨gb106, 2, none⟩) (Rf_ (p := ⟨gb106, 1, none⟩) (Rf_ (p := ⟨gb106, 0, none⟩) (Kd.R_types HO117.out BK106.out (by decide)) K2_ (.int .i64 a0)) K2_ (.int .i64 a1)) K2_ (.slice Ao19 y115.length co19)) K2_ (.int .i64 t109)) K2_ (.slice Ao14 t110.length co14)) (fun _ hk => trivial), by (with_reducible repeat (first | apply Ra_ | apply Rn_ | apply Rd_)); exact Kd.R_mono (Rf_ (p := ⟨gb106, 4, none⟩) (Rf_ (p := ⟨gb106, 3, none⟩) (Rf_ (p := ⟨gb106, 2, none⟩) (Rf_ (p := ⟨gb106, 1, none⟩) (Rf_ (p := ⟨gb106, 0, none⟩) (Kd.R_types HO112.out BK106.out (by decide)) K2_ (.int .i64 a0)) K2_ (.int .i64 a1)) K2_ (.slice Ao19 y115.length co19)) K2_ (.int .i64 t109)) K2_ (.slice Ao14 t110.length co14)) (fun _ hk => trivial), by repeat (first | (with_reducible first | exact HB.out | apply Al_ | apply Dn_ | apply D1_ | refine Bs_ ?_ GE106.out | refine Bs_ ?_ GE114.out) | exact HB.out)⟩
   ·
    rw [if_neg c8] at H
    exact absurd H (by simp)
  ·
   rw [if_neg c7] at H
   exact absurd H (by simp)
 ·
  replace c4 := Bool.eq_false_iff.mpr c4
  subst c4
  have H1 : (some (0, 0, ([] : List Int), 0, ([] : List Int), 2)) = some (r1, r2, r3, r4, r5, r6) := by rw [if_neg (show ¬ (false = true) by decide)] at H; exact H
  clear H
  have H := H1
  clear H1
  simp only [Option.some.injEq, Prod.mk.injEq] at H
  obtain ⟨rfl, rfl, rfl, rfl, rfl, rfl⟩ := H
  go_enter Tryd.func9, Tryd.ntmps9
  go_wp2_with (first | ((with_reducible refine gate_dst (N := 4) rfl ?_); refine box_event ?hg (N := 4) ?hd (cs := #[.int .i64 0, .int .i64 0, .slice none 0 0, .int .i64 0, .slice none 0 0]) (t := 28) ?hr ?_; (case hd => rfl); (case hg => rfl); (case hr => first | (go_simp; done) | (go_simp; rfl)); intro gb106 hg w25 hbox hb; have n0_ := A0_ (below_step (by repeat (first | (with_reducible first | exact HB.out | apply Al_ | apply Dn_ | apply D1_) | exact HB.out)) hb); have n1_ := A0_ (hbox); have n2_ := A0_ ((by rw [hg]; exact (below_size (by repeat (first | (with_reducible first | exact HB.out | apply Al_ | apply Dn_ | apply D1_) | exact HB.out))) : w.heap.size ≤ gb106)); have n3_ := A0_ ((by rw [hg]; exact (below_size (by repeat (first | (with_reducible first | exact HB.out | apply Al_ | apply Dn_ | apply D1_) | exact HB.out))) : w.heap.size ≤ gb106)); clear HB; have HB := n0_; have BK106 := n1_; have GW106 := n2_; have GE106 := n3_; clear n0_ n1_ n2_ n3_ hb hbox hg) | ((with_reducible refine gate_callee (f := 27) rfl ?_); refine goesL_ (some 11) rfl rfl Tryd.func27 (by kernel_rfl) rfl #[.int .i64 a0, .int .i64 a1] rfl (by (try simp only [List.map_toArray, List.map_cons, List.map_nil]); first | done | rfl | (simp only [List.length_drop, List.length_take]; rfl)) ?_; (with_reducible refine (isizes.calls a0 a1 false _ A3.out).mono ?_); rintro e w' ⟨rfl, ⟨nd, rfl⟩⟩; refine ⟨_, rfl, ?_⟩; (try (rw [drewN_self w25]; generalize hq_ : World.drewN w25 _ = w25; have n0_ : Aside0 (w25.heap[gb106]? = some (.cells #[.int .i64 0, .int .i64 0, .slice none 0 0, .int .i64 0, .slice none 0 0] 28 (0, 0))) := ⟨by rw [← hq_]; exact (by (with_reducible repeat (first | refine Bn_ ?_ _ | refine Bd_ ?_ | refine Ba_ ?_ _)); exact BK106.out)⟩; have n1_ : Aside0 (Below w.heap.size w w25) := ⟨by rw [← hq_]; exact (by repeat (first | (with_reducible first | exact HB.out | apply Al_ | apply Dn_ | apply D1_ | refine Bs_ ?_ GE106.out) | exact HB.out))⟩; clear BK106 HB hq_; have BK106 := n0_; have HB := n1_; clear n0_ n1_)); have hcz26_0 : w25.cell? ⟨gb106, 0, none⟩ = some (.int .i64 0) := (Bc_ BK106.out 0).trans rfl; have hcz26_1 : w25.cell? ⟨gb106, 1, none⟩ = some (.int .i64 0) := (Bc_ BK106.out 1).trans rfl; have hcz26_2 : w25.cell? ⟨gb106, 2, none⟩ = some (.slice none 0 0) := (Bc_ BK106.out 2).trans rfl; have hcz26_3 : w25.cell? ⟨gb106, 3, none⟩ = some (.int .i64 0) := (Bc_ BK106.out 3).trans rfl; have hcz26_4 : w25.cell? ⟨gb106, 4, none⟩ = some (.slice none 0 0) := (Bc_ BK106.out 4).trans rfl; have hfz26_0 := Bf_ BK106.out 0; have hfz26_1 := Bf_ BK106.out 1; have hfz26_2 := Bf_ BK106.out 2; have hfz26_3 := Bf_ BK106.out 3; have hfz26_4 := Bf_ BK106.out 4))
  refine bodyPost_ret (results_ct rfl _ _ gb106 28 #[.int .i64 0, .int .i64 0, .slice none 0 0, .int .i64 0, .slice none 0 0] (0, 0) _ rfl (by (with_reducible repeat (first | refine Bn_ ?_ _ | refine Bd_ ?_ | refine Ba_ ?_ _)); refine blk_put (cs := #[.int .i64 0, .int .i64 0, .slice none 0 0, .int .i64 0, .slice none 0 0]) ?_ 4 _ rfl; (with_reducible repeat (first | refine Bn_ ?_ _ | refine Bd_ ?_ | refine Ba_ ?_ _)); refine blk_put (cs := #[.int .i64 0, .int .i64 0, .slice none 0 0, .int .i64 0, .slice none 0 0]) ?_ 3 _ rfl; (with_reducible repeat (first | refine Bn_ ?_ _ | refine Bd_ ?_ | refine Ba_ ?_ _)); refine blk_put (cs := #[.int .i64 0, .int .i64 0, .slice none 0 0, .int .i64 0, .slice none 0 0]) ?_ 2 _ rfl; (with_reducible repeat (first | refine Bn_ ?_ _ | refine Bd_ ?_ | refine Ba_ ?_ _)); refine blk_put (cs := #[.int .i64 0, .int .i64 0, .slice none 0 0, .int .i64 0, .slice none 0 0]) ?_ 1 _ rfl; (with_reducible repeat (first | refine Bn_ ?_ _ | refine Bd_ ?_ | refine Ba_ ?_ _)); refine blk_put (cs := #[.int .i64 0, .int .i64 0, .slice none 0 0, .int .i64 0, .slice none 0 0]) ?_ 0 _ rfl; (with_reducible repeat (first | refine Bn_ ?_ _ | refine Bd_ ?_ | refine Ba_ ?_ _)); exact BK106.out) Tryd.underlying28 rfl (by kernel_rfl)) rfl ?_
  exact ⟨_, _, by first | rfl | (simp [errW_none, errW_some] <;> rfl) | (simp [*, errW_none, errW_some] <;> rfl), by first | exact Kd.R_nil _ _ _ _ _ | exact Kd.N_nil _ _ _ _ _ | exact Kd.V_nil _ _ _ _ _ | exact Kd.Q_nil _ _ _ _ _ | exact Kd.S_nil _ _ _ _ _, by first | exact Kd.R_nil _ _ _ _ _ | exact Kd.N_nil _ _ _ _ _ | exact Kd.V_nil _ _ _ _ _ | exact Kd.Q_nil _ _ _ _ _ | exact Kd.S_nil _ _ _ _ _, by repeat (first | (with_reducible first | exact HB.out | apply Al_ | apply Dn_ | apply D1_ | refine Bs_ ?_ GE106.out) | exact HB.out)⟩
def bCheck.j0 : Nat → Bool → Int → List Int → Option (Int)
 | 0, _, _, _ => none
 | k + 1, x20, x119000, x119001 => if x20 = true then (some 3) else (if (Int.tmod x119000 64) > 0 then (if 0 ≤ (wrap64 ((x119001.length : Int) - 1)) then (if (wrap64 ((x119001.length : Int) - 1)) < (x119001.length : Int) then (if 0 ≤ (Int.tmod x119000 64) then (if (shr .u64 (rd x119001 (wrap64 ((x119001.length : Int) - 1))) (Int.tmod x119000 64)) = 0 then (some 0) else (some 3)) else (none)) else (none)) else (none)) else (some 0))
def bCheck.f (k : Nat) (a0_0 : Int) (l0_1 : List Int) : Option (Int) := if a0_0 < 0 then (bCheck.j0 k true a0_0 l0_1) else (if a0_0 > 4096 then (bCheck.j0 k true a0_0 l0_1) else ((bwords.f a0_0).bind fun t119 => (bCheck.j0 k ((l0_1.length : Int) != t119) a0_0 l0_1)))
set_option maxHeartbeats 8000000 in
set_option maxRecDepth 100000 in
theorem bCheck.calls (k : Nat) (a0_0 : Int) (A0_1 : Option Addr) (c0_1 : Nat) (l0_1 : List Int) (r : Int) (w : World) (hr0_1 : Kd.C (Kd.int .u64) w A0_1 l0_1.length l0_1) (hc0_1 : l0_1.length ≤ c0_1) (h : bCheck.f k a0_0 l0_1 = some r) :
  Calls Tryd.prog 57 #[.agg #[.int .i64 a0_0, .slice A0_1 l0_1.length c0_1]] w fun e w' => e = .returned (.int .i64 r) ∧ Below w.heap.size w w' := by
 have hu26 := Tryd.underlying26
 have HR0_1 := A0_ hr0_1
 have HC0_1 := A0_ hc0_1
 clear hr0_1 hc0_1
 have HB := A0_ (Below.refl w.heap.size w)
 have H : (if a0_0 < 0 then (bCheck.j0 k true a0_0 l0_1) else (if a0_0 > 4096 then (bCheck.j0 k true a0_0 l0_1) else ((bwords.f a0_0).bind fun t119 => (bCheck.j0 k ((l0_1.length : Int) != t119) a0_0 l0_1)))) = some r := h
 clear h
 have HC2 := A0_ H
 clear H
 go_enter Tryd.func57, Tryd.ntmps57
 go_upto_region 1 with (first | ((with_reducible refine gate_dst (N := 1) rfl ?_); (try (refine gate_guard (by rfl) ?_; dsimp only)); refine box_event ?hg (N := 1) ?hd (cs := #[.int .i64 a0_0, .slice A0_1 l0_1.length c0_1]) (t := 26) ?hr ?_; (case hd => rfl); (case hg => rfl); (case hr => first | (go_simp; done) | (go_simp; rfl)); intro gb118 hg w3 hbox hb; have n0_ := A0_ (below_step (by repeat (first | (with_reducible first | exact HB.out | apply Al_ | apply Dn_ | apply D1_) | exact HB.out)) hb); have n1_ := A0_ (hbox); have n2_ := A0_ ((by rw [hg]; exact (below_size (by repeat (first | (with_reducible first | exact HB.out | apply Al_ | apply Dn_ | apply D1_) | exact HB.out))) : w.heap.size ≤ gb118)); have n3_ := A0_ ((by rw [hg]; exact (below_size (by repeat (first | (with_reducible first | exact HB.out | apply Al_ | apply Dn_ | apply D1_) | exact HB.out))) : w.heap.size ≤ gb118)); clear HB; have HB := n0_; have BK118 := n1_; have GW118 := n2_; have GE118 := n3_; clear n0_ n1_ n2_ n3_ hb hbox hg))
 repeat (go_quiet (first | ((with_reducible refine gate_dst (N := 1) rfl ?_); (try (refine gate_guard (by rfl) ?_; dsimp only)); refine box_event ?hg (N := 1) ?hd (cs := #[.int .i64 a0_0, .slice A0_1 l0_1.length c0_1]) (t := 26) ?hr ?_; (case hd => rfl); (case hg => rfl); (case hr => first | (go_simp; done) | (go_simp; rfl)); intro gb118 hg w3 hbox hb; have n0_ := A0_ (below_step (by repeat (first | (with_reducible first | exact HB.out | apply Al_ | apply Dn_ | apply D1_) | exact HB.out)) hb); have n1_ := A0_ (hbox); have n2_ := A0_ ((by rw [hg]; exact (below_size (by repeat (first | (with_reducible first | exact HB.out | apply Al_ | apply Dn_ | apply D1_) | exact HB.out))) : w.heap.size ≤ gb118)); have n3_ := A0_ ((by rw [hg]; exact (below_size (by repeat (first | (with_reducible first | exact HB.out | apply Al_ | apply Dn_ | apply D1_) | exact HB.out))) : w.heap.size ≤ gb118)); clear HB; have HB := n0_; have BK118 := n1_; have GW118 := n2_; have GE118 := n3_; clear n0_ n1_ n2_ n3_ hb hbox hg)); go_upto_region 1 with (first | ((with_reducible refine gate_dst (N := 1) rfl ?_); (try (refine gate_guard (by rfl) ?_; dsimp only)); refine box_event ?hg (N := 1) ?hd (cs := #[.int .i64 a0_0, .slice A0_1 l0_1.length c0_1]) (t := 26) ?hr ?_; (case hd => rfl); (case hg => rfl); (case hr => first | (go_simp; done) | (go_simp; rfl)); intro gb118 hg w3 hbox hb; have n0_ := A0_ (below_step (by repeat (first | (with_reducible first | exact HB.out | apply Al_ | apply Dn_ | apply D1_) | exact HB.out)) hb); have n1_ := A0_ (hbox); have n2_ := A0_ ((by rw [hg]; exact (below_size (by repeat (first | (with_reducible first | exact HB.out | apply Al_ | apply Dn_ | apply D1_) | exact HB.out))) : w.heap.size ≤ gb118)); have n3_ := A0_ ((by rw [hg]; exact (below_size (by repeat (first | (with_reducible first | exact HB.out | apply Al_ | apply Dn_ | apply D1_) | exact HB.out))) : w.heap.size ≤ gb118)); clear HB; have HB := n0_; have BK118 := n1_; have GW118 := n2_; have GE118 := n3_; clear n0_ n1_ n2_ n3_ hb hbox hg)))
 (try simp only [Act.put, Sa_, Sz_, Ss_])
 go_cut [20] (fun v20 wc => ∃ (kq : Nat) (x20_1 : Bool), v20 = .bool x20_1 ∧ Aside0 (bCheck.j0 kq x20_1 a0_0 l0_1 = some r) ∧ Aside0 (kq ≤ k) ∧ Aside0 (wc.heap[gb118]? = some (.cells #[.int .i64 a0_0, (.slice A0_1 l0_1.length c0_1)] 26 (0, 0))) ∧ Aside0 (Below w.heap.size w wc))
 case first =>
  have H := HC2.out
  clear HC2
  by_cases c4 : a0_0 < 0
  ·
   rw [if_pos c4] at H
   have c4b0 : decide (a0_0 < 0) = true := decide_eq_true c4
   clear c4
   (first | rw [c4b0] | (simp only [i64_w, i32_w]; rw [c4b0]) | skip)
   have H' := A0_ H
   clear H
   have hcz5_0 : w3.cell? ⟨gb118, 0, none⟩ = some (.int .i64 a0_0) := (Bc_ BK118.out 0).trans rfl
   have hcz5_1 : w3.cell? ⟨gb118, 1, none⟩ = some (.slice A0_1 l0_1.length c0_1) := (Bc_ BK118.out 1).trans rfl
   have hfz5_0 := Bf_ BK118.out 0
   have hfz5_1 := Bf_ BK118.out 1
   go_wp2
   repeat (go_quiet (fail); try go_wp2)
   go_meet
   case rel => exact ⟨_, (true), (by first | rfl | (simp; done) | (simp [*]; done)), H', ⟨by first | omega | exact Nat.le_refl _⟩, ⟨by (with_reducible repeat (first | refine Bn_ ?_ _ | refine Bd_ ?_ | refine Ba_ ?_ _)); exact BK118.out⟩, ⟨by repeat (first | (with_reducible first | exact HB.out | apply Al_ | apply Dn_ | apply D1_ | refine Bs_ ?_ GE118.out) | exact HB.out)⟩⟩
  ·
   rw [if_neg c4] at H
   have c4b0 : decide (a0_0 < 0) = false := decide_eq_false c4
   clear c4
   (first | rw [c4b0] | (simp only [i64_w, i32_w]; rw [c4b0]) | skip)
   by_cases c6 : a0_0 > 4096
   ·
    rw [if_pos c6] at H
    have c6b0 : decide (4096 < a0_0) = true := decide_eq_true c6
    clear c6
    have H' := A0_ H
    clear H
    have hcz7_0 : w3.cell? ⟨gb118, 0, none⟩ = some (.int .i64 a0_0) := (Bc_ BK118.out 0).trans rfl
    have hcz7_1 : w3.cell? ⟨gb118, 1, none⟩ = some (.slice A0_1 l0_1.length c0_1) := (Bc_ BK118.out 1).trans rfl
    have hfz7_0 := Bf_ BK118.out 0
    have hfz7_1 := Bf_ BK118.out 1
    go_wp2
    repeat (go_quiet (fail); try go_wp2)
    go_meet
    case rel => exact ⟨_, (true), (by first | rfl | (simp; done) | (simp [*]; done)), H', ⟨by first | omega | exact Nat.le_refl _⟩, ⟨by (with_reducible repeat (first | refine Bn_ ?_ _ | refine Bd_ ?_ | refine Ba_ ?_ _)); exact BK118.out⟩, ⟨by repeat (first | (with_reducible first | exact HB.out | apply Al_ | apply Dn_ | apply D1_ | refine Bs_ ?_ GE118.out) | exact HB.out)⟩⟩
   ·
    rw [if_neg c6] at H
    have c6b0 : decide (4096 < a0_0) = false := decide_eq_false c6
    clear c6
    replace H := Option.bind_eq_some_iff.mp H
    obtain ⟨t119, A80, H⟩ := H
    replace H : (bCheck.j0 k ((l0_1.length : Int) != t119) a0_0 l0_1) = some r := H
    have A8 := A0_ A80
    clear A80
    have H' := A0_ H
    clear H
    have hcz9_0 : w3.cell? ⟨gb118, 0, none⟩ = some (.int .i64 a0_0) := (Bc_ BK118.out 0).trans rfl
    have hcz9_1 : w3.cell? ⟨gb118, 1, none⟩ = some (.slice A0_1 l0_1.length c0_1) := (Bc_ BK118.out 1).trans rfl
    have hfz9_0 := Bf_ BK118.out 0
    have hfz9_1 := Bf_ BK118.out 1
    go_wp2_with (first | (go_at_call 56; (with_reducible refine (bwords.calls a0_0 t119 _ A8.out).mono ?_); rintro e w' ⟨rfl, ⟨nd, rfl⟩⟩; (try first | exact ⟨rfl, _, World.drewN_drewN _ _ _⟩ | exact ⟨rfl, _, Eq.trans (World.drewN_drewN _ _ _) (congrArg (World.drewN _) (Nat.add_assoc _ _ _))⟩)))
    repeat (go_quiet (first | (go_at_call 56; (with_reducible refine (bwords.calls a0_0 t119 _ A8.out).mono ?_); rintro e w' ⟨rfl, ⟨nd, rfl⟩⟩; (try first | exact ⟨rfl, _, World.drewN_drewN _ _ _⟩ | exact ⟨rfl, _, Eq.trans (World.drewN_drewN _ _ _) (congrArg (World.drewN _) (Nat.add_assoc _ _ _))⟩))); try go_wp2_with (first | (go_at_call 56; (with_reducible refine (bwords.calls a0_0 t119 _ A8.out).mono ?_); rintro e w' ⟨rfl, ⟨nd, rfl⟩⟩; (try first | exact ⟨rfl, _, World.drewN_drewN _ _ _⟩ | exact ⟨rfl, _, Eq.trans (World.drewN_drewN _ _ _) (congrArg (World.drewN _) (Nat.add_assoc _ _ _))⟩))))
    go_meet
    case rel => exact ⟨_, (((l0_1.length : Int) != t119)), (by first | rfl | (simp; done) | (simp [*]; done)), H', ⟨by first | omega | exact Nat.le_refl _⟩, ⟨by (with_reducible repeat (first | refine Bn_ ?_ _ | refine Bd_ ?_ | refine Ba_ ?_ _)); exact BK118.out⟩, ⟨by repeat (first | (with_reducible first | exact HB.out | apply Al_ | apply Dn_ | apply D1_ | refine Bs_ ?_ GE118.out) | exact HB.out)⟩⟩
 case rest =>
  clear HC2
  try clear p2
  try clear c4
  try clear c4b0
  try clear c5
  try clear c6
  try clear c6b0
  try clear hcz5_0
  try clear hcz5_1
  try clear hcz7_0
  try clear hcz7_1
  try clear hcz9_0
  try clear hcz9_1
  try clear hfz5_0
  try clear hfz5_1
  try clear hfz7_0
  try clear hfz7_1
  try clear hfz9_0
  try clear hfz9_1
  obtain ⟨kq, x20_1, rfl, HA, HJ1, BK118, HB⟩ := hcut
  cases kq with
  | zero => exact absurd HA.out (by simp [bCheck.j0])
  | succ kj1 =>
   have H := HA.out
   clear HA
   simp only [bCheck.j0] at H
   by_cases c10 : x20_1 = true
   ·
    subst c10
    have H1 : (some 3) = some r := by rw [if_pos rfl] at H; exact H
    clear H
    have H := H1
    clear H1
    obtain rfl := Option.some.inj H
    go_wp2
    repeat (go_quiet (fail); try go_wp2)
    go_ret
    exact ⟨by first | rfl | (simp [errW_none, errW_some] <;> rfl) | (simp [*, errW_none, errW_some] <;> rfl), by repeat (first | (with_reducible first | exact HB.out | apply Al_ | apply Dn_ | apply D1_ | refine Bs_ ?_ GE118.out) | exact HB.out)⟩
   ·
    replace c10 := Bool.eq_false_iff.mpr c10
    subst c10
    have H1 : (if (Int.tmod a0_0 64) > 0 then (if 0 ≤ (wrap64 ((l0_1.length : Int) - 1)) then (if (wrap64 ((l0_1.length : Int) - 1)) < (l0_1.length : Int) then (if 0 ≤ (Int.tmod a0_0 64) then (if (shr .u64 (rd l0_1 (wrap64 ((l0_1.length : Int) - 1))) (Int.tmod a0_0 64)) = 0 then (some 0) else (some 3)) else (none)) else (none)) else (none)) else (some 0)) = some r := by rw [if_neg (show ¬ (false = true) by decide)] at H; exact H
    clear H
    have H := H1
    clear H1
    by_cases c11 : (Int.tmod a0_0 64) > 0
    ·
     rw [if_pos c11] at H
     have c11b0 : decide (0 < (Int.tmod a0_0 64)) = true := decide_eq_true c11
     clear c11
     obtain ⟨ji12, hji12⟩ : ∃ j_ : Int, (wrap64 ((l0_1.length : Int) - 1)) = j_ := ⟨_, rfl⟩
     replace H : (if 0 ≤ (ji12) then (if (ji12) < (l0_1.length : Int) then (if 0 ≤ (Int.tmod a0_0 64) then (if (shr .u64 (rd l0_1 (ji12)) (Int.tmod a0_0 64)) = 0 then (some 0) else (some 3)) else (none)) else (none)) else (none)) = some r := by first | (rw [hji12] at H; exact H) | (simp only [hji12] at H ⊢; exact H)
     have hji12w : (IntKind.i64.wrap ((l0_1.length : Int) - 1)) = ji12 := (i64_w _).trans hji12
     by_cases c13 : 0 ≤ (ji12)
     ·
      rw [if_pos c13] at H
      have c13b0 : decide (0 ≤ (ji12)) = true := decide_eq_true c13
      clear c13
      by_cases c14 : (ji12) < (l0_1.length : Int)
      ·
       rw [if_pos c14] at H
       have c14b0 : decide ((ji12) < (l0_1.length : Int)) = true := decide_eq_true c14
       clear c14
       obtain ⟨ji15, hji15⟩ : ∃ j_ : Int, (Int.tmod a0_0 64) = j_ := ⟨_, rfl⟩
       replace H : (if 0 ≤ (ji15) then (if (shr .u64 (rd l0_1 (ji12)) (ji15)) = 0 then (some 0) else (some 3)) else (none)) = some r := by first | (rw [hji15] at H; exact H) | (simp only [hji15] at H ⊢; exact H)
       (try rw [hji15] at c11b0)
       by_cases c16 : 0 ≤ (ji15)
       ·
        rw [if_pos c16] at H
        have c16b0 := eq_true c16
        have c16b1 : decide (0 ≤ (ji15)) = true := decide_eq_true c16
        clear c16
        obtain ⟨ji17, hji17⟩ : ∃ j_ : Int, (shr .u64 (rd l0_1 (ji12)) (ji15)) = j_ := ⟨_, rfl⟩
        replace H : (if (ji17) = 0 then (some 0) else (some 3)) = some r := by first | (rw [hji17] at H; exact H) | (simp only [hji17] at H ⊢; exact H)
        have hji17_ : ((rd l0_1 (ji12)) / 2 ^ min (ji15).toNat 64) = ji17 := hji17
        have hji17z : (ji15) ≤ 64 → ((rd l0_1 (ji12)) / 2 ^ (ji15).toNat) = ji17 := shr_small hji17
        by_cases c18 : (ji17) = 0
        ·
         rw [if_pos c18] at H
         have c18b0 : ((ji17) == 0) = true := beq_iff_eq.mpr c18
         have c18b1 : ((ji17) != 0) = false := bne_eq_false_iff_eq.mpr c18
         clear c18
         obtain rfl := Option.some.inj H
         have hcz19_0 : wc.cell? ⟨gb118, 0, none⟩ = some (.int .i64 a0_0) := (Bc_ BK118.out 0).trans rfl
         have hcz19_1 : wc.cell? ⟨gb118, 1, none⟩ = some (.slice A0_1 l0_1.length c0_1) := (Bc_ BK118.out 1).trans rfl
         have hfz19_0 := Bf_ BK118.out 0
         have hfz19_1 := Bf_ BK118.out 1
         have p120 : 0 ≤ ((ji12) : Int) := of_decide_eq_true (by first | (with_reducible assumption) | assumption)
         have q120 : (ji12) < (l0_1.length : Int) := of_decide_eq_true (by first | (with_reducible assumption) | assumption)
         obtain ⟨ad120, e120, hx120_0⟩ := Kd.at_int HR0_1.out (ji12) p120 q120
         cases e120
         replace hx120_0 := (HB.out.cell (World.block_lt_of_cell? w _ hx120_0)).trans hx120_0
         replace p120 := eq_true p120
         replace q120 := eq_true q120
         go_wp2
         repeat (go_quiet (fail); try go_wp2)
         go_ret
         exact ⟨by first | rfl | (simp [errW_none, errW_some] <;> rfl) | (simp only [← hji12, ← hji15, ← hji17]; first | rfl | (simp [errW_none, errW_some] <;> rfl)) | (simp [*, errW_none, errW_some] <;> rfl), by repeat (first | (with_reducible first | exact HB.out | apply Al_ | apply Dn_ | apply D1_ | refine Bs_ ?_ GE118.out) | exact HB.out)⟩
        ·
         rw [if_neg c18] at H
         have c18b0 : ((ji17) == 0) = false := beq_eq_false_iff_ne.mpr c18
         have c18b1 : ((ji17) != 0) = true := bne_iff_ne.mpr c18
         obtain rfl := Option.some.inj H
         have hcz20_0 : wc.cell? ⟨gb118, 0, none⟩ = some (.int .i64 a0_0) := (Bc_ BK118.out 0).trans rfl
         have hcz20_1 : wc.cell? ⟨gb118, 1, none⟩ = some (.slice A0_1 l0_1.length c0_1) := (Bc_ BK118.out 1).trans rfl
         have hfz20_0 := Bf_ BK118.out 0
         have hfz20_1 := Bf_ BK118.out 1
         have p120 : 0 ≤ ((ji12) : Int) := of_decide_eq_true (by first | (with_reducible assumption) | assumption)
         have q120 : (ji12) < (l0_1.length : Int) := of_decide_eq_true (by first | (with_reducible assumption) | assumption)
         obtain ⟨ad120, e120, hx120_0⟩ := Kd.at_int HR0_1.out (ji12) p120 q120
         cases e120
         replace hx120_0 := (HB.out.cell (World.block_lt_of_cell? w _ hx120_0)).trans hx120_0
         replace p120 := eq_true p120
         replace q120 := eq_true q120
         go_wp2
         repeat (go_quiet (fail); try go_wp2)
         go_ret
         exact ⟨by first | rfl | (simp [errW_none, errW_some] <;> rfl) | (simp only [← hji12, ← hji15, ← hji17]; first | rfl | (simp [errW_none, errW_some] <;> rfl)) | (simp [*, errW_none, errW_some] <;> rfl), by repeat (first | (with_reducible first | exact HB.out | apply Al_ | apply Dn_ | apply D1_ | refine Bs_ ?_ GE118.out) | exact HB.out)⟩
       ·
        rw [if_neg c16] at H
        exact absurd H (by simp)
      ·
       rw [if_neg c14] at H
       exact absurd H (by simp)
     ·
      rw [if_neg c13] at H
      exact absurd H (by simp)
    ·
     rw [if_neg c11] at H
     have c11b0 : decide (0 < (Int.tmod a0_0 64)) = false := decide_eq_false c11
     clear c11
     obtain rfl := Option.some.inj H
     have hcz21_0 : wc.cell? ⟨gb118, 0, none⟩ = some (.int .i64 a0_0) := (Bc_ BK118.out 0).trans rfl
     have hcz21_1 : wc.cell? ⟨gb118, 1, none⟩ = some (.slice A0_1 l0_1.length c0_1) := (Bc_ BK118.out 1).trans rfl
     have hfz21_0 := Bf_ BK118.out 0
     have hfz21_1 := Bf_ BK118.out 1
     go_wp2
     repeat (go_quiet (fail); try go_wp2)
     go_ret
     exact ⟨by first | rfl | (simp [errW_none, errW_some] <;> rfl) | (simp [*, errW_none, errW_some] <;> rfl), by repeat (first | (with_reducible first | exact HB.out | apply Al_ | apply Dn_ | apply D1_ | refine Bs_ ?_ GE118.out) | exact HB.out)⟩
def bGet.f (k : Nat) (a0_0 : Int) (l0_1 : List Int) (a1 : Int) : Option (Bool) := (bCheck.f k a0_0 l0_1).bind fun t122 => (if t122 = 0 then (if a1 ≥ 0 then (if a1 < a0_0 then (if 0 ≤ (wrap64 (Int.tdiv a1 64)) then (if (wrap64 (Int.tdiv a1 64)) < (l0_1.length : Int) then (if 0 ≤ (Int.tmod a1 64) then (some ((Go.bits .and .u64 (shr .u64 (rd l0_1 (wrap64 (Int.tdiv a1 64))) (Int.tmod a1 64)) 1) == 1)) else (none)) else (none)) else (none)) else (some false)) else (some false)) else (some false))
set_option maxHeartbeats 8000000 in
set_option maxRecDepth 100000 in
theorem bGet.calls (k : Nat) (a0_0 : Int) (A0_1 : Option Addr) (c0_1 : Nat) (l0_1 : List Int) (a1 : Int) (r : Bool) (w : World) (hr0_1 : Kd.C (Kd.int .u64) w A0_1 l0_1.length l0_1) (hc0_1 : l0_1.length ≤ c0_1) (h : bGet.f k a0_0 l0_1 a1 = some r) :
  Calls Tryd.prog 41 #[.agg #[.int .i64 a0_0, .slice A0_1 l0_1.length c0_1], .int .i64 a1] w fun e w' => e = .returned (.bool r) ∧ Below w.heap.size w w' := by
 have hu26 := Tryd.underlying26
 have HR0_1 := A0_ hr0_1
 have HC0_1 := A0_ hc0_1
 clear hr0_1 hc0_1
 have HB := A0_ (Below.refl w.heap.size w)
 have H : ((bCheck.f k a0_0 l0_1).bind fun t122 => (if t122 = 0 then (if a1 ≥ 0 then (if a1 < a0_0 then (if 0 ≤ (wrap64 (Int.tdiv a1 64)) then (if (wrap64 (Int.tdiv a1 64)) < (l0_1.length : Int) then (if 0 ≤ (Int.tmod a1 64) then (some ((Go.bits .and .u64 (shr .u64 (rd l0_1 (wrap64 (Int.tdiv a1 64))) (Int.tmod a1 64)) 1) == 1)) else (none)) else (none)) else (none)) else (some false)) else (some false)) else (some false))) = some r := h
 clear h
 replace H := Option.bind_eq_some_iff.mp H
 obtain ⟨t122, A30, H⟩ := H
 replace H : (if t122 = 0 then (if a1 ≥ 0 then (if a1 < a0_0 then (if 0 ≤ (wrap64 (Int.tdiv a1 64)) then (if (wrap64 (Int.tdiv a1 64)) < (l0_1.length : Int) then (if 0 ≤ (Int.tmod a1 64) then (some ((Go.bits .and .u64 (shr .u64 (rd l0_1 (wrap64 (Int.tdiv a1 64))) (Int.tmod a1 64)) 1) == 1)) else (none)) else (none)) else (none)) else (some false)) else (some false)) else (some false)) = some r := H
 have A3 := A0_ A30
 clear A30
 by_cases c4 : t122 = 0
 ·
  rw [if_pos c4] at H
  have c4b0 : (t122 == 0) = true := beq_iff_eq.mpr c4
  have c4b1 : (t122 != 0) = false := bne_eq_false_iff_eq.mpr c4
  clear c4
  by_cases c5 : a1 ≥ 0
  ·
   rw [if_pos c5] at H
   have c5b0 : decide (0 ≤ a1) = true := decide_eq_true c5
   clear c5
   by_cases c6 : a1 < a0_0
   ·
    rw [if_pos c6] at H
    have c6b0 : decide (a1 < a0_0) = true := decide_eq_true c6
    clear c6
    obtain ⟨ji7, hji7⟩ : ∃ j_ : Int, (wrap64 (Int.tdiv a1 64)) = j_ := ⟨_, rfl⟩
    replace H : (if 0 ≤ (ji7) then (if (ji7) < (l0_1.length : Int) then (if 0 ≤ (Int.tmod a1 64) then (some ((Go.bits .and .u64 (shr .u64 (rd l0_1 (ji7)) (Int.tmod a1 64)) 1) == 1)) else (none)) else (none)) else (none)) = some r := by first | (rw [hji7] at H; exact H) | (simp only [hji7] at H ⊢; exact H)
    (try rw [hji7] at A3)
    have hji7w : (IntKind.i64.wrap (Int.tdiv a1 64)) = ji7 := (i64_w _).trans hji7
    by_cases c8 : 0 ≤ (ji7)
    ·
     rw [if_pos c8] at H
     have c8b0 : decide (0 ≤ (ji7)) = true := decide_eq_true c8
     clear c8
     by_cases c9 : (ji7) < (l0_1.length : Int)
     ·
      rw [if_pos c9] at H
      have c9b0 : decide ((ji7) < (l0_1.length : Int)) = true := decide_eq_true c9
      clear c9
      obtain ⟨ji10, hji10⟩ : ∃ j_ : Int, (Int.tmod a1 64) = j_ := ⟨_, rfl⟩
      replace H : (if 0 ≤ (ji10) then (some ((Go.bits .and .u64 (shr .u64 (rd l0_1 (ji7)) (ji10)) 1) == 1)) else (none)) = some r := by first | (rw [hji10] at H; exact H) | (simp only [hji10] at H ⊢; exact H)
      (try rw [hji10] at A3)
      by_cases c11 : 0 ≤ (ji10)
      ·
       rw [if_pos c11] at H
       have c11b0 := eq_true c11
       have c11b1 : decide (0 ≤ (ji10)) = true := decide_eq_true c11
       clear c11
       obtain ⟨ji12, hji12⟩ : ∃ j_ : Int, (shr .u64 (rd l0_1 (ji7)) (ji10)) = j_ := ⟨_, rfl⟩
       replace H : (some ((Go.bits .and .u64 (ji12) 1) == 1)) = some r := by first | (rw [hji12] at H; exact H) | (simp only [hji12] at H ⊢; exact H)
       (try rw [hji12] at A3)
       have hji12_ : ((rd l0_1 (ji7)) / 2 ^ min (ji10).toNat 64) = ji12 := hji12
       have hji12z : (ji10) ≤ 64 → ((rd l0_1 (ji7)) / 2 ^ (ji10).toNat) = ji12 := shr_small hji12
       obtain rfl := Option.some.inj H
       go_enter Tryd.func41, Tryd.ntmps41
       go_wp2_with (first | ((with_reducible refine gate_dst (N := 2) rfl ?_); refine box_event ?hg (N := 2) ?hd (cs := #[.int .i64 a0_0, .slice A0_1 l0_1.length c0_1]) (t := 26) ?hr ?_; (case hd => rfl); (case hg => rfl); (case hr => first | (go_simp; done) | (go_simp; rfl)); intro gb121 hg w13 hbox hb; have n0_ := A0_ (below_step (by repeat (first | (with_reducible first | exact HB.out | apply Al_ | apply Dn_ | apply D1_) | exact HB.out)) hb); have n1_ := A0_ (hbox); have n2_ := A0_ ((by rw [hg]; exact (below_size (by repeat (first | (with_reducible first | exact HB.out | apply Al_ | apply Dn_ | apply D1_) | exact HB.out))) : w.heap.size ≤ gb121)); have n3_ := A0_ ((by rw [hg]; exact (below_size (by repeat (first | (with_reducible first | exact HB.out | apply Al_ | apply Dn_ | apply D1_) | exact HB.out))) : w.heap.size ≤ gb121)); clear HB; have HB := n0_; have BK121 := n1_; have GW121 := n2_; have GE121 := n3_; clear n0_ n1_ n2_ n3_ hb hbox hg; have hcz14_0 : w13.cell? ⟨gb121, 0, none⟩ = some (.int .i64 a0_0) := (Bc_ BK121.out 0).trans rfl; have hcz14_1 : w13.cell? ⟨gb121, 1, none⟩ = some (.slice A0_1 l0_1.length c0_1) := (Bc_ BK121.out 1).trans rfl; have hfz14_0 := Bf_ BK121.out 0; have hfz14_1 := Bf_ BK121.out 1) | ((with_reducible refine gate_callee (f := 57) rfl ?_); refine goesL_ (some 6) rfl rfl Tryd.func57 (by kernel_rfl) rfl #[.agg #[.int .i64 a0_0, .slice A0_1 l0_1.length c0_1]] rfl (by (try simp only [List.map_toArray, List.map_cons, List.map_nil]); first | done | rfl | (simp only [List.length_drop, List.length_take]; rfl)) ?_; (with_reducible refine (bCheck.calls k a0_0 _ _ l0_1 t122 _ ?side1 ?side2 A3.out).mono ?_); (case side1 => repeat (first | exact (Kd.C_below HR0_1.out HB.out) | (with_reducible first | refine Kd.C_alloc ?_ _ | refine Kd.C_drewN ?_ _ | refine Kd.C_drew ?_))); (case side2 => exact HC0_1.out); rintro e w15 ⟨rfl, hb⟩; refine ⟨_, rfl, ?_⟩; have n0_ := A0_ (blk_below (g := gb121) (o := .cells #[.int .i64 a0_0, .slice A0_1 l0_1.length c0_1] 26 (0, 0)) (by (with_reducible repeat (first | refine Bn_ ?_ _ | refine Bd_ ?_ | refine Ba_ ?_ _)); exact BK121.out) hb); have n1_ := A0_ (below_step (by repeat (first | (with_reducible first | exact HB.out | apply Al_ | apply Dn_ | apply D1_ | refine Bs_ ?_ GE121.out) | exact HB.out)) hb); clear BK121 HB; have BK121 := n0_; have HB := n1_; clear n0_ n1_; (try clear hb); (try clear hb2); (try clear hk); (try clear hi); have hcz16_0 : w15.cell? ⟨gb121, 0, none⟩ = some (.int .i64 a0_0) := (Bc_ BK121.out 0).trans rfl; have hcz16_1 : w15.cell? ⟨gb121, 1, none⟩ = some (.slice A0_1 l0_1.length c0_1) := (Bc_ BK121.out 1).trans rfl; have hfz16_0 := Bf_ BK121.out 0; have hfz16_1 := Bf_ BK121.out 1; have p123 : 0 ≤ ((ji7) : Int) := of_decide_eq_true (by first | (with_reducible assumption) | assumption); have q123 : (ji7) < (l0_1.length : Int) := of_decide_eq_true (by first | (with_reducible assumption) | assumption); obtain ⟨ad123, e123, hx123_0⟩ := Kd.at_int HR0_1.out (ji7) p123 q123; cases e123; replace hx123_0 := (HB.out.cell (World.block_lt_of_cell? w _ hx123_0)).trans hx123_0; replace p123 := eq_true p123; replace q123 := eq_true q123))
       go_ret
       exact ⟨by first | rfl | (simp [errW_none, errW_some] <;> rfl) | (simp only [← hji7, ← hji10, ← hji12]; first | rfl | (simp [errW_none, errW_some] <;> rfl)) | (simp [*, errW_none, errW_some] <;> rfl), by repeat (first | (with_reducible first | exact HB.out | apply Al_ | apply Dn_ | apply D1_ | refine Bs_ ?_ GE121.out) | exact HB.out)⟩
      ·
       rw [if_neg c11] at H
       exact absurd H (by simp)
     ·
      rw [if_neg c9] at H
      exact absurd H (by simp)
    ·
     rw [if_neg c8] at H
     exact absurd H (by simp)
   ·
    rw [if_neg c6] at H
    have c6b0 : decide (a1 < a0_0) = false := decide_eq_false c6
    clear c6
    obtain rfl := Option.some.inj H
    go_enter Tryd.func41, Tryd.ntmps41
    go_wp2_with (first | ((with_reducible refine gate_dst (N := 2) rfl ?_); refine box_event ?hg (N := 2) ?hd (cs := #[.int .i64 a0_0, .slice A0_1 l0_1.length c0_1]) (t := 26) ?hr ?_; (case hd => rfl); (case hg => rfl); (case hr => first | (go_simp; done) | (go_simp; rfl)); intro gb121 hg w17 hbox hb; have n0_ := A0_ (below_step (by repeat (first | (with_reducible first | exact HB.out | apply Al_ | apply Dn_ | apply D1_) | exact HB.out)) hb); have n1_ := A0_ (hbox); have n2_ := A0_ ((by rw [hg]; exact (below_size (by repeat (first | (with_reducible first | exact HB.out | apply Al_ | apply Dn_ | apply D1_) | exact HB.out))) : w.heap.size ≤ gb121)); have n3_ := A0_ ((by rw [hg]; exact (below_size (by repeat (first | (with_reducible first | exact HB.out | apply Al_ | apply Dn_ | apply D1_) | exact HB.out))) : w.heap.size ≤ gb121)); clear HB; have HB := n0_; have BK121 := n1_; have GW121 := n2_; have GE121 := n3_; clear n0_ n1_ n2_ n3_ hb hbox hg; have hcz18_0 : w17.cell? ⟨gb121, 0, none⟩ = some (.int .i64 a0_0) := (Bc_ BK121.out 0).trans rfl; have hcz18_1 : w17.cell? ⟨gb121, 1, none⟩ = some (.slice A0_1 l0_1.length c0_1) := (Bc_ BK121.out 1).trans rfl; have hfz18_0 := Bf_ BK121.out 0; have hfz18_1 := Bf_ BK121.out 1) | ((with_reducible refine gate_callee (f := 57) rfl ?_); refine goesL_ (some 6) rfl rfl Tryd.func57 (by kernel_rfl) rfl #[.agg #[.int .i64 a0_0, .slice A0_1 l0_1.length c0_1]] rfl (by (try simp only [List.map_toArray, List.map_cons, List.map_nil]); first | done | rfl | (simp only [List.length_drop, List.length_take]; rfl)) ?_; (with_reducible refine (bCheck.calls k a0_0 _ _ l0_1 t122 _ ?side1 ?side2 A3.out).mono ?_); (case side1 => repeat (first | exact (Kd.C_below HR0_1.out HB.out) | (with_reducible first | refine Kd.C_alloc ?_ _ | refine Kd.C_drewN ?_ _ | refine Kd.C_drew ?_))); (case side2 => exact HC0_1.out); rintro e w19 ⟨rfl, hb⟩; refine ⟨_, rfl, ?_⟩; have n0_ := A0_ (blk_below (g := gb121) (o := .cells #[.int .i64 a0_0, .slice A0_1 l0_1.length c0_1] 26 (0, 0)) (by (with_reducible repeat (first | refine Bn_ ?_ _ | refine Bd_ ?_ | refine Ba_ ?_ _)); exact BK121.out) hb); have n1_ := A0_ (below_step (by repeat (first | (with_reducible first | exact HB.out | apply Al_ | apply Dn_ | apply D1_ | refine Bs_ ?_ GE121.out) | exact HB.out)) hb); clear BK121 HB; have BK121 := n0_; have HB := n1_; clear n0_ n1_; (try clear hb); (try clear hb2); (try clear hk); (try clear hi); have hcz20_0 : w19.cell? ⟨gb121, 0, none⟩ = some (.int .i64 a0_0) := (Bc_ BK121.out 0).trans rfl; have hcz20_1 : w19.cell? ⟨gb121, 1, none⟩ = some (.slice A0_1 l0_1.length c0_1) := (Bc_ BK121.out 1).trans rfl; have hfz20_0 := Bf_ BK121.out 0; have hfz20_1 := Bf_ BK121.out 1))
    go_ret
    exact ⟨by first | rfl | (simp [errW_none, errW_some] <;> rfl) | (simp [*, errW_none, errW_some] <;> rfl), by repeat (first | (with_reducible first | exact HB.out | apply Al_ | apply Dn_ | apply D1_ | refine Bs_ ?_ GE121.out) | exact HB.out)⟩
  ·
   rw [if_neg c5] at H
   have c5b0 : decide (0 ≤ a1) = false := decide_eq_false c5
   clear c5
   obtain rfl := Option.some.inj H
   go_enter Tryd.func41, Tryd.ntmps41
   go_wp2_with (first | ((with_reducible refine gate_dst (N := 2) rfl ?_); refine box_event ?hg (N := 2) ?hd (cs := #[.int .i64 a0_0, .slice A0_1 l0_1.length c0_1]) (t := 26) ?hr ?_; (case hd => rfl); (case hg => rfl); (case hr => first | (go_simp; done) | (go_simp; rfl)); intro gb121 hg w21 hbox hb; have n0_ := A0_ (below_step (by repeat (first | (with_reducible first | exact HB.out | apply Al_ | apply Dn_ | apply D1_) | exact HB.out)) hb); have n1_ := A0_ (hbox); have n2_ := A0_ ((by rw [hg]; exact (below_size (by repeat (first | (with_reducible first | exact HB.out | apply Al_ | apply Dn_ | apply D1_) | exact HB.out))) : w.heap.size ≤ gb121)); have n3_ := A0_ ((by rw [hg]; exact (below_size (by repeat (first | (with_reducible first | exact HB.out | apply Al_ | apply Dn_ | apply D1_) | exact HB.out))) : w.heap.size ≤ gb121)); clear HB; have HB := n0_; have BK121 := n1_; have GW121 := n2_; have GE121 := n3_; clear n0_ n1_ n2_ n3_ hb hbox hg; have hcz22_0 : w21.cell? ⟨gb121, 0, none⟩ = some (.int .i64 a0_0) := (Bc_ BK121.out 0).trans rfl; have hcz22_1 : w21.cell? ⟨gb121, 1, none⟩ = some (.slice A0_1 l0_1.length c0_1) := (Bc_ BK121.out 1).trans rfl; have hfz22_0 := Bf_ BK121.out 0; have hfz22_1 := Bf_ BK121.out 1) | ((with_reducible refine gate_callee (f := 57) rfl ?_); refine goesL_ (some 6) rfl rfl Tryd.func57 (by kernel_rfl) rfl #[.agg #[.int .i64 a0_0, .slice A0_1 l0_1.length c0_1]] rfl (by (try simp only [List.map_toArray, List.map_cons, List.map_nil]); first | done | rfl | (simp only [List.length_drop, List.length_take]; rfl)) ?_; (with_reducible refine (bCheck.calls k a0_0 _ _ l0_1 t122 _ ?side1 ?side2 A3.out).mono ?_); (case side1 => repeat (first | exact (Kd.C_below HR0_1.out HB.out) | (with_reducible first | refine Kd.C_alloc ?_ _ | refine Kd.C_drewN ?_ _ | refine Kd.C_drew ?_))); (case side2 => exact HC0_1.out); rintro e w23 ⟨rfl, hb⟩; refine ⟨_, rfl, ?_⟩; have n0_ := A0_ (blk_below (g := gb121) (o := .cells #[.int .i64 a0_0, .slice A0_1 l0_1.length c0_1] 26 (0, 0)) (by (with_reducible repeat (first | refine Bn_ ?_ _ | refine Bd_ ?_ | refine Ba_ ?_ _)); exact BK121.out) hb); have n1_ := A0_ (below_step (by repeat (first | (with_reducible first | exact HB.out | apply Al_ | apply Dn_ | apply D1_ | refine Bs_ ?_ GE121.out) | exact HB.out)) hb); clear BK121 HB; have BK121 := n0_; have HB := n1_; clear n0_ n1_; (try clear hb); (try clear hb2); (try clear hk); (try clear hi)))
   go_ret
   exact ⟨by first | rfl | (simp [errW_none, errW_some] <;> rfl) | (simp [*, errW_none, errW_some] <;> rfl), by repeat (first | (with_reducible first | exact HB.out | apply Al_ | apply Dn_ | apply D1_ | refine Bs_ ?_ GE121.out) | exact HB.out)⟩
 ·
  rw [if_neg c4] at H
  have c4b0 : (t122 == 0) = false := beq_eq_false_iff_ne.mpr c4
  have c4b1 : (t122 != 0) = true := bne_iff_ne.mpr c4
  obtain rfl := Option.some.inj H
  go_enter Tryd.func41, Tryd.ntmps41
  go_wp2_with (first | ((with_reducible refine gate_dst (N := 2) rfl ?_); refine box_event ?hg (N := 2) ?hd (cs := #[.int .i64 a0_0, .slice A0_1 l0_1.length c0_1]) (t := 26) ?hr ?_; (case hd => rfl); (case hg => rfl); (case hr => first | (go_simp; done) | (go_simp; rfl)); intro gb121 hg w24 hbox hb; have n0_ := A0_ (below_step (by repeat (first | (with_reducible first | exact HB.out | apply Al_ | apply Dn_ | apply D1_) | exact HB.out)) hb); have n1_ := A0_ (hbox); have n2_ := A0_ ((by rw [hg]; exact (below_size (by repeat (first | (with_reducible first | exact HB.out | apply Al_ | apply Dn_ | apply D1_) | exact HB.out))) : w.heap.size ≤ gb121)); have n3_ := A0_ ((by rw [hg]; exact (below_size (by repeat (first | (with_reducible first | exact HB.out | apply Al_ | apply Dn_ | apply D1_) | exact HB.out))) : w.heap.size ≤ gb121)); clear HB; have HB := n0_; have BK121 := n1_; have GW121 := n2_; have GE121 := n3_; clear n0_ n1_ n2_ n3_ hb hbox hg; have hcz25_0 : w24.cell? ⟨gb121, 0, none⟩ = some (.int .i64 a0_0) := (Bc_ BK121.out 0).trans rfl; have hcz25_1 : w24.cell? ⟨gb121, 1, none⟩ = some (.slice A0_1 l0_1.length c0_1) := (Bc_ BK121.out 1).trans rfl; have hfz25_0 := Bf_ BK121.out 0; have hfz25_1 := Bf_ BK121.out 1) | ((with_reducible refine gate_callee (f := 57) rfl ?_); refine goesL_ (some 6) rfl rfl Tryd.func57 (by kernel_rfl) rfl #[.agg #[.int .i64 a0_0, .slice A0_1 l0_1.length c0_1]] rfl (by (try simp only [List.map_toArray, List.map_cons, List.map_nil]); first | done | rfl | (simp only [List.length_drop, List.length_take]; rfl)) ?_; (with_reducible refine (bCheck.calls k a0_0 _ _ l0_1 t122 _ ?side1 ?side2 A3.out).mono ?_); (case side1 => repeat (first | exact (Kd.C_below HR0_1.out HB.out) | (with_reducible first | refine Kd.C_alloc ?_ _ | refine Kd.C_drewN ?_ _ | refine Kd.C_drew ?_))); (case side2 => exact HC0_1.out); rintro e w26 ⟨rfl, hb⟩; refine ⟨_, rfl, ?_⟩; have n0_ := A0_ (blk_below (g := gb121) (o := .cells #[.int .i64 a0_0, .slice A0_1 l0_1.length c0_1] 26 (0, 0)) (by (with_reducible repeat (first | refine Bn_ ?_ _ | refine Bd_ ?_ | refine Ba_ ?_ _)); exact BK121.out) hb); have n1_ := A0_ (below_step (by repeat (first | (with_reducible first | exact HB.out | apply Al_ | apply Dn_ | apply D1_ | refine Bs_ ?_ GE121.out) | exact HB.out)) hb); clear BK121 HB; have BK121 := n0_; have HB := n1_; clear n0_ n1_; (try clear hb); (try clear hb2); (try clear hk); (try clear hi)))
  go_ret
  exact ⟨by first | rfl | (simp [errW_none, errW_some] <;> rfl) | (simp [*, errW_none, errW_some] <;> rfl), by repeat (first | (with_reducible first | exact HB.out | apply Al_ | apply Dn_ | apply D1_ | refine Bs_ ?_ GE121.out) | exact HB.out)⟩
end Go.Proofs.YtnjbdcnefienhaaDoor.P

namespace Go.Proofs.YtnjbdcnefienhaaDoor.P
open Go.RowKit Go.Proofs.YtnjbdcnefienhaaDoorW.PrintWords Go.Proofs.YtnjbdcnefienhaaDoorW.PrintLast Go.Proofs.YtnjbdcnefienhaaDoorW.PrintMore
attribute [local go_sem] max2_int min2_int max_two min_two max_three min_three max_four min_four   -- for this text's walks alone
set_option linter.unusedVariables false
set_option linter.unusedSimpArgs false
mutual
def xCheck.j0 : Nat → List (S49) → Int → Bool → Option (Int)
 | 0, _, _, _ => none
 | k + 1, x0, x1, x13 => if x13 = true then (some 2) else (xCheck.l0 k x1 0 x0 (x0.length : Int) 0)
def xCheck.l0 : Nat → Int → Int → List (S49) → Int → Int → Option (Int)
 | 0, _, _, _, _, _ => none
 | k + 1, x1, x5, x14, x15, x16 => if x16 < x15 then (if 0 ≤ x16 then (if x16 < (x14.length : Int) then (if ((rd_T49 x14 x16).f1) ≤ 0 then (some 1) else (if ((rd_T49 x14 x16).f0) < 0 then (xCheck.j2 k x1 x5 x14 x15 x16 true ((rd_T49 x14 x16).f0) ((rd_T49 x14 x16).f1)) else (xCheck.j2 k x1 x5 x14 x15 x16 (decide (((rd_T49 x14 x16).f1) > (wrap64 (x1 - ((rd_T49 x14 x16).f0))))) ((rd_T49 x14 x16).f0) ((rd_T49 x14 x16).f1)))) else (none)) else (none)) else (some 0)
def xCheck.j2 : Nat → Int → Int → List (S49) → Int → Int → Bool → Int → Int → Option (Int)
 | 0, _, _, _, _, _, _, _, _ => none
 | k + 1, x1, x5, x14, x15, x16, x24, x303000, x303001 => if x24 = true then (some 2) else (if x303000 < x5 then (some 3) else (xCheck.l0 k x1 (wrap64 ((wrap64 (x303000 + x303001)) + 1)) x14 x15 (wrap64 (x16 + 1))))
end
def xCheck.f (k : Nat) (l0 : List (S49)) (a1 : Int) : Option (Int) := if a1 < 0 then (xCheck.j0 k l0 a1 true) else (xCheck.j0 k l0 a1 (decide (a1 > 4096)))
set_option maxHeartbeats 8000000 in
set_option maxRecDepth 100000 in
theorem xCheck.calls (k : Nat) (A0 : Option Addr) (c0 : Nat) (l0 : List (S49)) (a1 : Int) (r : Int) (w : World) (hr0 : Kd.C k49 w A0 l0.length l0) (hc0 : l0.length ≤ c0) (h : xCheck.f k l0 a1 = some r) :
  Calls Tryd.prog 48 #[.slice A0 l0.length c0, .int .i64 a1] w fun e w' => e = .returned (.int .i64 r) ∧ Below w.heap.size w w' := by
 have hu49 := Tryd.underlying49
 have HR0 := A0_ hr0
 have HC0 := A0_ hc0
 clear hr0 hc0
 have HB := A0_ (Below.refl w.heap.size w)
 have H : (if a1 < 0 then (xCheck.j0 k l0 a1 true) else (xCheck.j0 k l0 a1 (decide (a1 > 4096)))) = some r := h
 clear h
 have HC3 := A0_ H
 clear H
 go_enter Tryd.func48, Tryd.ntmps48
 go_upto_region 1 with (fail)
 go_cut [13] (fun v13 wc => ∃ (kq : Nat) (x13_2 : Bool), v13 = .bool x13_2 ∧ Aside0 (xCheck.j0 kq l0 a1 x13_2 = some r) ∧ Aside0 (kq ≤ k) ∧ Aside0 (Below w.heap.size w wc))
 case first =>
  have H := HC3.out
  clear HC3
  by_cases c4 : a1 < 0
  ·
   rw [if_pos c4] at H
   have c4b0 : decide (a1 < 0) = true := decide_eq_true c4
   clear c4
   (first | rw [c4b0] | (simp only [i64_w, i32_w]; rw [c4b0]) | skip)
   have H' := A0_ H
   clear H
   go_wp2
   go_meet
   case rel => exact ⟨_, (true), (by first | rfl | (simp; done) | (simp [*]; done)), H', ⟨by first | omega | exact Nat.le_refl _⟩, ⟨by repeat (first | (with_reducible first | exact HB.out | apply Al_ | apply Dn_ | apply D1_) | exact HB.out)⟩⟩
  ·
   rw [if_neg c4] at H
   have c4b0 : decide (a1 < 0) = false := decide_eq_false c4
   clear c4
   (first | rw [c4b0] | (simp only [i64_w, i32_w]; rw [c4b0]) | skip)
   have H' := A0_ H
   clear H
   go_wp2
   go_meet
   case rel => exact ⟨_, (decide (a1 > 4096)), (by first | rfl | (simp; done) | (simp [*]; done)), H', ⟨by first | omega | exact Nat.le_refl _⟩, ⟨by repeat (first | (with_reducible first | exact HB.out | apply Al_ | apply Dn_ | apply D1_) | exact HB.out)⟩⟩
 case rest =>
  clear HC3
  try clear p2
  try clear c4
  try clear c4b0
  obtain ⟨kq, x13_2, rfl, HA, HJ2, HB⟩ := hcut
  cases kq with
  | zero => exact absurd HA.out (by simp [xCheck.j0])
  | succ kj2 =>
   have H := HA.out
   clear HA
   simp only [xCheck.j0] at H
   by_cases c5 : x13_2 = true
   ·
    subst c5
    have H1 : (some 2) = some r := by rw [if_pos rfl] at H; exact H
    clear H
    have H := H1
    clear H1
    obtain rfl := Option.some.inj H
    go_wp2
    go_ret
    exact ⟨by first | rfl | (simp [errW_none, errW_some] <;> rfl) | (simp [*, errW_none, errW_some] <;> rfl), by repeat (first | (with_reducible first | exact HB.out | apply Al_ | apply Dn_ | apply D1_) | exact HB.out)⟩
   ·
    replace c5 := Bool.eq_false_iff.mpr c5
    subst c5
    have H1 : (xCheck.l0 kj2 a1 0 l0 (l0.length : Int) 0) = some r := by rw [if_neg (show ¬ (false = true) by decide)] at H; exact H
    clear H
    have H := H1
    clear H1
    have H' := A0_ H
    clear H
    go_wp2
    go_loopg [5, 16] kj2 (fun kq v5 v16 w' => ∃ (x5_2 : Int) (x16_2 : Int), v5 = .int .i64 x5_2 ∧ v16 = .int .i64 x16_2 ∧ Aside0 (xCheck.l0 kq a1 x5_2 l0 (l0.length : Int) x16_2 = some r) ∧ Aside0 (kq ≤ kj2) ∧ Aside0 (Below w.heap.size w w'))
    case atStart => exact ⟨(0), (0), (by first | rfl | (simp; done) | (simp [*]; done)), (by first | rfl | (simp; done) | (simp [*]; done)), H', ⟨Nat.le_refl _⟩, ⟨by repeat (first | (with_reducible first | exact HB.out | apply Al_ | apply Dn_ | apply D1_) | exact HB.out)⟩⟩
    case round =>
     clear H'
     try clear p2
     try clear c4
     try clear c4b0
     try clear c5
     try clear p2
     obtain ⟨x5_2, x16_2, rfl, rfl, HA, HK2, HB⟩ := hrel
     cases gk with
     | zero => exact absurd HA.out (by simp [xCheck.l0])
     | succ k2 =>
      have H := HA.out
      clear HA
      simp only [xCheck.l0] at H
      by_cases c6 : x16_2 < (l0.length : Int)
      ·
       rw [if_pos c6] at H
       have c6b0 : decide (x16_2 < (l0.length : Int)) = true := decide_eq_true c6
       clear c6
       by_cases c7 : 0 ≤ x16_2
       ·
        rw [if_pos c7] at H
        have c7b0 : decide (0 ≤ x16_2) = true := decide_eq_true c7
        clear c7
        by_cases c8 : x16_2 < (l0.length : Int)
        ·
         rw [if_pos c8] at H
         have c8b0 : decide (x16_2 < (l0.length : Int)) = true := decide_eq_true c8
         clear c8
         by_cases c9 : ((rd_T49 l0 x16_2).f1) ≤ 0
         ·
          rw [if_pos c9] at H
          have c9b0 : decide (((rd_T49 l0 x16_2).f1) ≤ 0) = true := decide_eq_true c9
          clear c9
          obtain rfl := Option.some.inj H
          have p301 : 0 ≤ (x16_2 : Int) := of_decide_eq_true (by first | (with_reducible assumption) | assumption)
          have q301 : x16_2 < (l0.length : Int) := of_decide_eq_true (by first | (with_reducible assumption) | assumption)
          obtain ⟨ad301, e301, hx301_0, hx301_1⟩ := at_T49 HR0.out x16_2 p301 q301
          cases e301
          replace hx301_0 := (HB.out.cell (World.block_lt_of_cell? w _ hx301_0)).trans hx301_0
          replace hx301_1 := (HB.out.cell (World.block_lt_of_cell? w _ hx301_1)).trans hx301_1
          replace p301 := eq_true p301
          replace q301 := eq_true q301
          go_wp2_with (first | ((with_reducible refine gate_dst (N := 7) rfl ?_); refine box_event ?hg (N := 7) ?hd (cs := #[.int .i64 0, .int .i64 0]) (t := 49) ?hr ?_; (case hd => rfl); (case hg => rfl); (case hr => first | (go_simp; done) | (go_simp; rfl)); intro gb302 hg w10 hbox hb; have n0_ := A0_ (below_step (by repeat (first | (with_reducible first | exact HB.out | apply Al_ | apply Dn_ | apply D1_) | exact HB.out)) hb); have n1_ := A0_ (hbox); have n2_ := A0_ ((by rw [hg]; exact (below_size (by repeat (first | (with_reducible first | exact HB.out | apply Al_ | apply Dn_ | apply D1_) | exact HB.out))) : w.heap.size ≤ gb302)); have n3_ := A0_ ((by rw [hg]; exact (below_size (by repeat (first | (with_reducible first | exact HB.out | apply Al_ | apply Dn_ | apply D1_) | exact HB.out))) : w.heap.size ≤ gb302)); clear HB; have HB := n0_; have BK302 := n1_; have GW302 := n2_; have GE302 := n3_; clear n0_ n1_ n2_ n3_ hb hbox hg; have hcz11_0 : w10.cell? ⟨gb302, 0, none⟩ = some (.int .i64 0) := (Bc_ BK302.out 0).trans rfl; have hcz11_1 : w10.cell? ⟨gb302, 1, none⟩ = some (.int .i64 0) := (Bc_ BK302.out 1).trans rfl; have hfz11_0 := Bf_ BK302.out 0; have hfz11_1 := Bf_ BK302.out 1))
          go_ret
          exact ⟨by first | rfl | (simp [errW_none, errW_some] <;> rfl) | (simp [*, errW_none, errW_some] <;> rfl), by repeat (first | (with_reducible first | exact HB.out | apply Al_ | apply Dn_ | apply D1_ | refine Bs_ ?_ GE302.out) | exact HB.out)⟩
         ·
          rw [if_neg c9] at H
          have c9b0 : decide (((rd_T49 l0 x16_2).f1) ≤ 0) = false := decide_eq_false c9
          clear c9
          have HC12 := A0_ H
          clear H
          have p301 : 0 ≤ (x16_2 : Int) := of_decide_eq_true (by first | (with_reducible assumption) | assumption)
          have q301 : x16_2 < (l0.length : Int) := of_decide_eq_true (by first | (with_reducible assumption) | assumption)
          obtain ⟨ad301, e301, hx301_0, hx301_1⟩ := at_T49 HR0.out x16_2 p301 q301
          cases e301
          replace hx301_0 := (HB.out.cell (World.block_lt_of_cell? w _ hx301_0)).trans hx301_0
          replace hx301_1 := (HB.out.cell (World.block_lt_of_cell? w _ hx301_1)).trans hx301_1
          replace p301 := eq_true p301
          replace q301 := eq_true q301
          go_upto_region 9 with (first | ((with_reducible refine gate_dst (N := 7) rfl ?_); refine box_event ?hg (N := 7) ?hd (cs := #[.int .i64 0, .int .i64 0]) (t := 49) ?hr ?_; (case hd => rfl); (case hg => rfl); (case hr => first | (go_simp; done) | (go_simp; rfl)); intro gb302 hg w13 hbox hb; have n0_ := A0_ (below_step (by repeat (first | (with_reducible first | exact HB.out | apply Al_ | apply Dn_ | apply D1_) | exact HB.out)) hb); have n1_ := A0_ (hbox); have n2_ := A0_ ((by rw [hg]; exact (below_size (by repeat (first | (with_reducible first | exact HB.out | apply Al_ | apply Dn_ | apply D1_) | exact HB.out))) : w.heap.size ≤ gb302)); have n3_ := A0_ ((by rw [hg]; exact (below_size (by repeat (first | (with_reducible first | exact HB.out | apply Al_ | apply Dn_ | apply D1_) | exact HB.out))) : w.heap.size ≤ gb302)); clear HB; have HB := n0_; have BK302 := n1_; have GW302 := n2_; have GE302 := n3_; clear n0_ n1_ n2_ n3_ hb hbox hg; have hcz14_0 : w13.cell? ⟨gb302, 0, none⟩ = some (.int .i64 0) := (Bc_ BK302.out 0).trans rfl; have hcz14_1 : w13.cell? ⟨gb302, 1, none⟩ = some (.int .i64 0) := (Bc_ BK302.out 1).trans rfl; have hfz14_0 := Bf_ BK302.out 0; have hfz14_1 := Bf_ BK302.out 1))
          (try simp only [Act.put, Sa_, Sz_, Ss_])
          go_cut [24] (fun v24 wc => ∃ (kq : Nat) (x24_11 : Bool), v24 = .bool x24_11 ∧ Aside0 (xCheck.j2 kq a1 x5_2 l0 (l0.length : Int) x16_2 x24_11 ((rd_T49 l0 x16_2).f0) ((rd_T49 l0 x16_2).f1) = some r) ∧ Aside0 (kq ≤ k2) ∧ Aside0 (wc.heap[gb302]? = some (.cells #[.int .i64 ((rd_T49 l0 x16_2).f0), .int .i64 ((rd_T49 l0 x16_2).f1)] 49 (0, 0))) ∧ Aside0 (Below w.heap.size w wc))
          case first =>
           have H := HC12.out
           clear HC12
           by_cases c15 : ((rd_T49 l0 x16_2).f0) < 0
           ·
            rw [if_pos c15] at H
            have c15b0 : decide (((rd_T49 l0 x16_2).f0) < 0) = true := decide_eq_true c15
            clear c15
            (first | rw [c15b0] | (simp only [i64_w, i32_w]; rw [c15b0]) | skip)
            have H' := A0_ H
            clear H
            have hcz16_0 : w13.cell? ⟨gb302, 0, none⟩ = some (.int .i64 0) := (Bc_ BK302.out 0).trans rfl
            have hcz16_1 : w13.cell? ⟨gb302, 1, none⟩ = some (.int .i64 0) := (Bc_ BK302.out 1).trans rfl
            have hfz16_0 := Bf_ BK302.out 0
            have hfz16_1 := Bf_ BK302.out 1
            go_wp2
            go_meet
            case rel => exact ⟨_, (true), (by first | rfl | (simp; done) | (simp [*]; done)), H', ⟨by have := HJ2.out; have := HK2.out; first | omega | exact Nat.le_refl _⟩, ⟨by (with_reducible repeat (first | refine Bn_ ?_ _ | refine Bd_ ?_ | refine Ba_ ?_ _)); refine blk_put (cs := #[.int .i64 ((rd_T49 l0 x16_2).f0), .int .i64 0]) ?_ 1 _ rfl; (with_reducible repeat (first | refine Bn_ ?_ _ | refine Bd_ ?_ | refine Ba_ ?_ _)); refine blk_put (cs := #[.int .i64 0, .int .i64 0]) ?_ 0 _ rfl; (with_reducible repeat (first | refine Bn_ ?_ _ | refine Bd_ ?_ | refine Ba_ ?_ _)); exact BK302.out⟩, ⟨by repeat (first | (with_reducible first | exact HB.out | apply Al_ | apply Dn_ | apply D1_ | refine Bs_ ?_ GE302.out) | exact HB.out)⟩⟩
           ·
            rw [if_neg c15] at H
            have c15b0 : decide (((rd_T49 l0 x16_2).f0) < 0) = false := decide_eq_false c15
            clear c15
            (first | rw [c15b0] | (simp only [i64_w, i32_w]; rw [c15b0]) | skip)
            have H' := A0_ H
            clear H
            have hcz17_0 : w13.cell? ⟨gb302, 0, none⟩ = some (.int .i64 0) := (Bc_ BK302.out 0).trans rfl
            have hcz17_1 : w13.cell? ⟨gb302, 1, none⟩ = some (.int .i64 0) := (Bc_ BK302.out 1).trans rfl
            have hfz17_0 := Bf_ BK302.out 0
            have hfz17_1 := Bf_ BK302.out 1
            go_wp2
            go_meet
            case rel => exact ⟨_, (decide (((rd_T49 l0 x16_2).f1) > (wrap64 (a1 - ((rd_T49 l0 x16_2).f0))))), (by first | rfl | (simp; done) | (simp [*]; done)), H', ⟨by have := HJ2.out; have := HK2.out; first | omega | exact Nat.le_refl _⟩, ⟨by (with_reducible repeat (first | refine Bn_ ?_ _ | refine Bd_ ?_ | refine Ba_ ?_ _)); refine blk_put (cs := #[.int .i64 ((rd_T49 l0 x16_2).f0), .int .i64 0]) ?_ 1 _ rfl; (with_reducible repeat (first | refine Bn_ ?_ _ | refine Bd_ ?_ | refine Ba_ ?_ _)); refine blk_put (cs := #[.int .i64 0, .int .i64 0]) ?_ 0 _ rfl; (with_reducible repeat (first | refine Bn_ ?_ _ | refine Bd_ ?_ | refine Ba_ ?_ _)); exact BK302.out⟩, ⟨by repeat (first | (with_reducible first | exact HB.out | apply Al_ | apply Dn_ | apply D1_ | refine Bs_ ?_ GE302.out) | exact HB.out)⟩⟩
          case rest =>
           clear HC12
           try clear c1
           try clear p2
           try clear p3
           try clear q3
           try clear hx3
           try clear c4
           try clear c4b0
           try clear c5
           try clear c6
           try clear c6b0
           try clear p6
           try clear c7
           try clear c7b0
           try clear c8
           try clear c8b0
           try clear c9
           try clear c9b0
           try clear c15
           try clear c15b0
           try clear hcz11_0
           try clear hcz11_1
           try clear hcz14_0
           try clear hcz14_1
           try clear hcz16_0
           try clear hcz16_1
           try clear hcz17_0
           try clear hcz17_1
           try clear hfz11_0
           try clear hfz11_1
           try clear hfz14_0
           try clear hfz14_1
           try clear hfz16_0
           try clear hfz16_1
           try clear hfz17_0
           try clear hfz17_1
           try clear hx301_0
           try clear hx301_1
           try clear p2
           try clear p301
           try clear q301
           obtain ⟨kq, x24_11, rfl, HA, HJ11, BK302, HB⟩ := hcut
           cases kq with
           | zero => exact absurd HA.out (by simp [xCheck.j2])
           | succ kj11 =>
            have H := HA.out
            clear HA
            simp only [xCheck.j2] at H
            by_cases c18 : x24_11 = true
            ·
             subst c18
             have H1 : (some 2) = some r := by rw [if_pos rfl] at H; exact H
             clear H
             have H := H1
             clear H1
             obtain rfl := Option.some.inj H
             go_wp2
             go_ret
             exact ⟨by first | rfl | (simp [errW_none, errW_some] <;> rfl) | (simp [*, errW_none, errW_some] <;> rfl), by repeat (first | (with_reducible first | exact HB.out | apply Al_ | apply Dn_ | apply D1_ | refine Bs_ ?_ GE302.out) | exact HB.out)⟩
            ·
             replace c18 := Bool.eq_false_iff.mpr c18
             subst c18
             have H1 : (if ((rd_T49 l0 x16_2).f0) < x5_2 then (some 3) else (xCheck.l0 kj11 a1 (wrap64 ((wrap64 (((rd_T49 l0 x16_2).f0) + ((rd_T49 l0 x16_2).f1))) + 1)) l0 (l0.length : Int) (wrap64 (x16_2 + 1)))) = some r := by rw [if_neg (show ¬ (false = true) by decide)] at H; exact H
             clear H
             have H := H1
             clear H1
             by_cases c19 : ((rd_T49 l0 x16_2).f0) < x5_2
             ·
              rw [if_pos c19] at H
              have c19b0 : decide (((rd_T49 l0 x16_2).f0) < x5_2) = true := decide_eq_true c19
              clear c19
              obtain rfl := Option.some.inj H
              have hcz20_0 : wc.cell? ⟨gb302, 0, none⟩ = some (.int .i64 ((rd_T49 l0 x16_2).f0)) := (Bc_ BK302.out 0).trans rfl
              have hcz20_1 : wc.cell? ⟨gb302, 1, none⟩ = some (.int .i64 ((rd_T49 l0 x16_2).f1)) := (Bc_ BK302.out 1).trans rfl
              have hfz20_0 := Bf_ BK302.out 0
              have hfz20_1 := Bf_ BK302.out 1
              go_wp2
              go_ret
              exact ⟨by first | rfl | (simp [errW_none, errW_some] <;> rfl) | (simp [*, errW_none, errW_some] <;> rfl), by repeat (first | (with_reducible first | exact HB.out | apply Al_ | apply Dn_ | apply D1_ | refine Bs_ ?_ GE302.out) | exact HB.out)⟩
             ·
              rw [if_neg c19] at H
              have c19b0 : decide (((rd_T49 l0 x16_2).f0) < x5_2) = false := decide_eq_false c19
              clear c19
              have H' := A0_ H
              clear H
              have hcz21_0 : wc.cell? ⟨gb302, 0, none⟩ = some (.int .i64 ((rd_T49 l0 x16_2).f0)) := (Bc_ BK302.out 0).trans rfl
              have hcz21_1 : wc.cell? ⟨gb302, 1, none⟩ = some (.int .i64 ((rd_T49 l0 x16_2).f1)) := (Bc_ BK302.out 1).trans rfl
              have hfz21_0 := Bf_ BK302.out 0
              have hfz21_1 := Bf_ BK302.out 1
              go_wp2
              go_roundg kj11
              case measure => have := HJ2.out; have := HK2.out; have := HJ11.out; omega
              case rel => exact ⟨(wrap64 ((wrap64 (((rd_T49 l0 x16_2).f0) + ((rd_T49 l0 x16_2).f1))) + 1)), (wrap64 (x16_2 + 1)), (by first | rfl | (simp; done) | (simp [*]; done)), (by first | rfl | (simp; done) | (simp [*]; done)), H', ⟨by have := HJ2.out; have := HK2.out; have := HJ11.out; omega⟩, ⟨by repeat (first | (with_reducible first | exact HB.out | apply Al_ | apply Dn_ | apply D1_ | refine Bs_ ?_ GE302.out) | exact HB.out)⟩⟩
        ·
         rw [if_neg c8] at H
         exact absurd H (by simp)
       ·
        rw [if_neg c7] at H
        exact absurd H (by simp)
      ·
       rw [if_neg c6] at H
       have c6b0 : decide (x16_2 < (l0.length : Int)) = false := decide_eq_false c6
       clear c6
       obtain rfl := Option.some.inj H
       go_wp2
       go_ret
       exact ⟨by first | rfl | (simp [errW_none, errW_some] <;> rfl) | (simp [*, errW_none, errW_some] <;> rfl), by repeat (first | (with_reducible first | exact HB.out | apply Al_ | apply Dn_ | apply D1_) | exact HB.out)⟩
def bmask.f (a0 : Int) (a1 : Int) (a2 : Int) : Option (Int) := if (mx (wrap64 (a1 - (wrap64 (a0 * 64)))) 0) ≥ (mn (wrap64 (a2 - (wrap64 (a0 * 64)))) 64) then (some 0) else (if 0 ≤ (wrap64 (64 - (wrap64 ((mn (wrap64 (a2 - (wrap64 (a0 * 64)))) 64) - (mx (wrap64 (a1 - (wrap64 (a0 * 64)))) 0))))) then (some (shl .u64 (shr .u64 18446744073709551615 (wrap64 (64 - (wrap64 ((mn (wrap64 (a2 - (wrap64 (a0 * 64)))) 64) - (mx (wrap64 (a1 - (wrap64 (a0 * 64)))) 0)))))) (mx (wrap64 (a1 - (wrap64 (a0 * 64)))) 0))) else (none))
def bfits.f (a0_0 : Int) (a0_1 : Int) (a1 : Int) : Option (Bool) := if a0_0 ≥ 0 then (if a0_1 ≥ 0 then (if a0_0 ≤ a1 then (some (decide (a0_1 ≤ (wrap64 (a1 - a0_0))))) else (some false)) else (some false)) else (some false)
set_option maxHeartbeats 8000000 in
set_option maxRecDepth 100000 in
theorem bfits.calls (a0_0 : Int) (a0_1 : Int) (a1 : Int) (r : Bool) (w : World) (h : bfits.f a0_0 a0_1 a1 = some r) :
  Calls Tryd.prog 80 #[.agg #[.int .i64 a0_0, .int .i64 a0_1], .int .i64 a1] w fun e w' => e = .returned (.bool r) ∧ Below w.heap.size w w' := by
 have hu49 := Tryd.underlying49
 have HB := A0_ (Below.refl w.heap.size w)
 have H : (if a0_0 ≥ 0 then (if a0_1 ≥ 0 then (if a0_0 ≤ a1 then (some (decide (a0_1 ≤ (wrap64 (a1 - a0_0))))) else (some false)) else (some false)) else (some false)) = some r := h
 clear h
 by_cases c3 : a0_0 ≥ 0
 ·
  rw [if_pos c3] at H
  have c3b0 : decide (0 ≤ a0_0) = true := decide_eq_true c3
  clear c3
  by_cases c4 : a0_1 ≥ 0
  ·
   rw [if_pos c4] at H
   have c4b0 : decide (0 ≤ a0_1) = true := decide_eq_true c4
   clear c4
   by_cases c5 : a0_0 ≤ a1
   ·
    rw [if_pos c5] at H
    have c5b0 : decide (a0_0 ≤ a1) = true := decide_eq_true c5
    clear c5
    obtain rfl := Option.some.inj H
    go_enter Tryd.func80, Tryd.ntmps80
    go_wp2_with (first | ((with_reducible refine gate_dst (N := 2) rfl ?_); refine box_event ?hg (N := 2) ?hd (cs := #[.int .i64 a0_0, .int .i64 a0_1]) (t := 49) ?hr ?_; (case hd => rfl); (case hg => rfl); (case hr => first | (go_simp; done) | (go_simp; rfl)); intro gb303 hg w6 hbox hb; have n0_ := A0_ (below_step (by repeat (first | (with_reducible first | exact HB.out | apply Al_ | apply Dn_ | apply D1_) | exact HB.out)) hb); have n1_ := A0_ (hbox); have n2_ := A0_ ((by rw [hg]; exact (below_size (by repeat (first | (with_reducible first | exact HB.out | apply Al_ | apply Dn_ | apply D1_) | exact HB.out))) : w.heap.size ≤ gb303)); have n3_ := A0_ ((by rw [hg]; exact (below_size (by repeat (first | (with_reducible first | exact HB.out | apply Al_ | apply Dn_ | apply D1_) | exact HB.out))) : w.heap.size ≤ gb303)); clear HB; have HB := n0_; have BK303 := n1_; have GW303 := n2_; have GE303 := n3_; clear n0_ n1_ n2_ n3_ hb hbox hg; have hcz7_0 : w6.cell? ⟨gb303, 0, none⟩ = some (.int .i64 a0_0) := (Bc_ BK303.out 0).trans rfl; have hcz7_1 : w6.cell? ⟨gb303, 1, none⟩ = some (.int .i64 a0_1) := (Bc_ BK303.out 1).trans rfl; have hfz7_0 := Bf_ BK303.out 0; have hfz7_1 := Bf_ BK303.out 1))
    go_ret
    exact ⟨by first | rfl | (simp [errW_none, errW_some] <;> rfl) | (simp [*, errW_none, errW_some] <;> rfl), by repeat (first | (with_reducible first | exact HB.out | apply Al_ | apply Dn_ | apply D1_ | refine Bs_ ?_ GE303.out) | exact HB.out)⟩
   ·
    rw [if_neg c5] at H
    have c5b0 : decide (a0_0 ≤ a1) = false := decide_eq_false c5
    clear c5
    obtain rfl := Option.some.inj H
    go_enter Tryd.func80, Tryd.ntmps80
    go_wp2_with (first | ((with_reducible refine gate_dst (N := 2) rfl ?_); refine box_event ?hg (N := 2) ?hd (cs := #[.int .i64 a0_0, .int .i64 a0_1]) (t := 49) ?hr ?_; (case hd => rfl); (case hg => rfl); (case hr => first | (go_simp; done) | (go_simp; rfl)); intro gb303 hg w8 hbox hb; have n0_ := A0_ (below_step (by repeat (first | (with_reducible first | exact HB.out | apply Al_ | apply Dn_ | apply D1_) | exact HB.out)) hb); have n1_ := A0_ (hbox); have n2_ := A0_ ((by rw [hg]; exact (below_size (by repeat (first | (with_reducible first | exact HB.out | apply Al_ | apply Dn_ | apply D1_) | exact HB.out))) : w.heap.size ≤ gb303)); have n3_ := A0_ ((by rw [hg]; exact (below_size (by repeat (first | (with_reducible first | exact HB.out | apply Al_ | apply Dn_ | apply D1_) | exact HB.out))) : w.heap.size ≤ gb303)); clear HB; have HB := n0_; have BK303 := n1_; have GW303 := n2_; have GE303 := n3_; clear n0_ n1_ n2_ n3_ hb hbox hg; have hcz9_0 : w8.cell? ⟨gb303, 0, none⟩ = some (.int .i64 a0_0) := (Bc_ BK303.out 0).trans rfl; have hcz9_1 : w8.cell? ⟨gb303, 1, none⟩ = some (.int .i64 a0_1) := (Bc_ BK303.out 1).trans rfl; have hfz9_0 := Bf_ BK303.out 0; have hfz9_1 := Bf_ BK303.out 1))
    go_ret
    exact ⟨by first | rfl | (simp [errW_none, errW_some] <;> rfl) | (simp [*, errW_none, errW_some] <;> rfl), by repeat (first | (with_reducible first | exact HB.out | apply Al_ | apply Dn_ | apply D1_ | refine Bs_ ?_ GE303.out) | exact HB.out)⟩
  ·
   rw [if_neg c4] at H
   have c4b0 : decide (0 ≤ a0_1) = false := decide_eq_false c4
   clear c4
   obtain rfl := Option.some.inj H
   go_enter Tryd.func80, Tryd.ntmps80
   go_wp2_with (first | ((with_reducible refine gate_dst (N := 2) rfl ?_); refine box_event ?hg (N := 2) ?hd (cs := #[.int .i64 a0_0, .int .i64 a0_1]) (t := 49) ?hr ?_; (case hd => rfl); (case hg => rfl); (case hr => first | (go_simp; done) | (go_simp; rfl)); intro gb303 hg w10 hbox hb; have n0_ := A0_ (below_step (by repeat (first | (with_reducible first | exact HB.out | apply Al_ | apply Dn_ | apply D1_) | exact HB.out)) hb); have n1_ := A0_ (hbox); have n2_ := A0_ ((by rw [hg]; exact (below_size (by repeat (first | (with_reducible first | exact HB.out | apply Al_ | apply Dn_ | apply D1_) | exact HB.out))) : w.heap.size ≤ gb303)); have n3_ := A0_ ((by rw [hg]; exact (below_size (by repeat (first | (with_reducible first | exact HB.out | apply Al_ | apply Dn_ | apply D1_) | exact HB.out))) : w.heap.size ≤ gb303)); clear HB; have HB := n0_; have BK303 := n1_; have GW303 := n2_; have GE303 := n3_; clear n0_ n1_ n2_ n3_ hb hbox hg; have hcz11_0 : w10.cell? ⟨gb303, 0, none⟩ = some (.int .i64 a0_0) := (Bc_ BK303.out 0).trans rfl; have hcz11_1 : w10.cell? ⟨gb303, 1, none⟩ = some (.int .i64 a0_1) := (Bc_ BK303.out 1).trans rfl; have hfz11_0 := Bf_ BK303.out 0; have hfz11_1 := Bf_ BK303.out 1))
   go_ret
   exact ⟨by first | rfl | (simp [errW_none, errW_some] <;> rfl) | (simp [*, errW_none, errW_some] <;> rfl), by repeat (first | (with_reducible first | exact HB.out | apply Al_ | apply Dn_ | apply D1_ | refine Bs_ ?_ GE303.out) | exact HB.out)⟩
 ·
  rw [if_neg c3] at H
  have c3b0 : decide (0 ≤ a0_0) = false := decide_eq_false c3
  clear c3
  obtain rfl := Option.some.inj H
  go_enter Tryd.func80, Tryd.ntmps80
  go_wp2_with (first | ((with_reducible refine gate_dst (N := 2) rfl ?_); refine box_event ?hg (N := 2) ?hd (cs := #[.int .i64 a0_0, .int .i64 a0_1]) (t := 49) ?hr ?_; (case hd => rfl); (case hg => rfl); (case hr => first | (go_simp; done) | (go_simp; rfl)); intro gb303 hg w12 hbox hb; have n0_ := A0_ (below_step (by repeat (first | (with_reducible first | exact HB.out | apply Al_ | apply Dn_ | apply D1_) | exact HB.out)) hb); have n1_ := A0_ (hbox); have n2_ := A0_ ((by rw [hg]; exact (below_size (by repeat (first | (with_reducible first | exact HB.out | apply Al_ | apply Dn_ | apply D1_) | exact HB.out))) : w.heap.size ≤ gb303)); have n3_ := A0_ ((by rw [hg]; exact (below_size (by repeat (first | (with_reducible first | exact HB.out | apply Al_ | apply Dn_ | apply D1_) | exact HB.out))) : w.heap.size ≤ gb303)); clear HB; have HB := n0_; have BK303 := n1_; have GW303 := n2_; have GE303 := n3_; clear n0_ n1_ n2_ n3_ hb hbox hg; have hcz13_0 : w12.cell? ⟨gb303, 0, none⟩ = some (.int .i64 a0_0) := (Bc_ BK303.out 0).trans rfl; have hcz13_1 : w12.cell? ⟨gb303, 1, none⟩ = some (.int .i64 a0_1) := (Bc_ BK303.out 1).trans rfl; have hfz13_0 := Bf_ BK303.out 0; have hfz13_1 := Bf_ BK303.out 1))
  go_ret
  exact ⟨by first | rfl | (simp [errW_none, errW_some] <;> rfl) | (simp [*, errW_none, errW_some] <;> rfl), by repeat (first | (with_reducible first | exact HB.out | apply Al_ | apply Dn_ | apply D1_ | refine Bs_ ?_ GE303.out) | exact HB.out)⟩
end Go.Proofs.YtnjbdcnefienhaaDoor.P

namespace Go.Proofs.YtnjbdcnefienhaaDoor.P
open Go.RowKit Go.Proofs.YtnjbdcnefienhaaDoorW.PrintWords Go.Proofs.YtnjbdcnefienhaaDoorW.PrintLast Go.Proofs.YtnjbdcnefienhaaDoorW.PrintMore
def mkW (i lo hi : Int) : Int := (bmask.f i lo hi).getD 0
def good (size : Int) (ws : List Int) : Bool := decide (bCheck.f 1 size ws = some 0)
def fit (s c size : Int) : Bool := decide (bfits.f s c size = some true)
def bChange (op : BinOp) (size : Int) (ws : List Int) (s c : Int) : Int × List Int × Int :=
  if good size ws then (if fit s c size then (size, ws.mapIdx fun i w => Go.bits op .u64 w (mkW i s (wrap64 (s + c))), 0) else (0, [], 2)) else (0, [], 3)
def bSet.f (size : Int) (ws : List Int) (s c : Int) : Option (Int × List Int × Int) := some (bChange .or size ws s c)
def bClear.f (size : Int) (ws : List Int) (s c : Int) : Option (Int × List Int × Int) := some (bChange .andNot size ws s c)
def cutW (ws : List Int) (lo size : Int) (i : Nat) : Nat := (Go.bits .and .u64 (rd ws i) (mkW i lo size)).toNat
def elemsW (ws : List Int) (lo size : Int) (i : Nat) : List Int := (bitsOf (cutW ws lo size i)).map fun (b : Nat) => ((i * 64 + b : Nat) : Int)
def elems (ws : List Int) (lo size : Int) : List Int := (List.range ws.length).flatMap (elemsW ws lo size)
def bElems (size : Int) (ws : List Int) (lo : Int) : List Int := if good size ws then elems ws lo size else []
def joinE (l : List S49) (x : Int) : List S49 :=
  match l.getLast? with
  | some e => if wrap64 (e.f0 + e.f1) = x then l.dropLast ++ [⟨e.f0, wrap64 (e.f1 + 1)⟩] else l ++ [⟨x, 1⟩]
  | none => [⟨x, 1⟩]
def bExtents.f (size : Int) (ws : List Int) : Option (List S49) := some ((bElems size ws 0).foldl joinE [])
theorem w64 (x : Int) (h0 : -9223372036854775808 ≤ x) (h1 : x ≤ 9223372036854775807) : wrap64 x = x := by unfold wrap64; omega
theorem words_eq (n : Int) (h0 : 0 ≤ n) (h1 : n ≤ 4096) : bwords.f n = some ((n + 63) / 64) := by
  unfold bwords.f
  rw [w64 (n + 64) (by omega) (by omega), w64 (n + 64 - 1) (by omega) (by omega), Int.tdiv_eq_ediv_of_nonneg (by omega), w64 _ (by omega) (by omega)]
  congr 2; omega
structure Good (size : Int) (ws : List Int) : Prop where
  lo : 0 ≤ size
  hi : size ≤ 4096
  len : (ws.length : Int) = (size + 63) / 64
  last : 0 < size % 64 → rd ws ((ws.length : Int) - 1) / 2 ^ (size % 64).toNat = 0
theorem check_j (b : Bool) (size : Int) (ws : List Int) (k : Nat) : b = true → bCheck.j0 (k + 1) b size ws = some 3 := by
  intro h; simp only [bCheck.j0]; rw [if_pos h]
theorem check_any (k : Nat) (size : Int) (ws : List Int) : (Good size ws ∧ bCheck.f (k + 1) size ws = some 0) ∨ (¬ Good size ws ∧ bCheck.f (k + 1) size ws = some 3) := by
  unfold bCheck.f
  by_cases h1 : size < 0
  · rw [if_pos h1]; exact .inr ⟨fun g => by have := g.lo; omega, check_j _ _ _ _ rfl⟩
  rw [if_neg h1]
  by_cases h2 : size > 4096
  · rw [if_pos h2]; exact .inr ⟨fun g => by have := g.hi; omega, check_j _ _ _ _ rfl⟩
  rw [if_neg h2, words_eq size (by omega) (by omega)]
  simp only [Option.bind_some]
  by_cases h3 : (ws.length : Int) = (size + 63) / 64
  · rw [show ((ws.length : Int) != (size + 63) / 64) = false from by simpa using h3]
    simp only [bCheck.j0]
    rw [if_neg (by decide), Int.tmod_eq_emod_of_nonneg (by omega)]
    by_cases h4 : size % 64 > 0
    · rw [if_pos h4, w64 ((ws.length : Int) - 1) (by omega) (by omega), if_pos (by omega), if_pos (by omega), if_pos (by omega)]
      have hs : shr .u64 (rd ws ((ws.length : Int) - 1)) (size % 64) = rd ws ((ws.length : Int) - 1) / 2 ^ (size % 64).toNat := by
        unfold shr; rw [Nat.min_eq_left (by simp only [IntKind.bits]; omega)]
      rw [hs]
      by_cases h5 : rd ws ((ws.length : Int) - 1) / 2 ^ (size % 64).toNat = 0
      · rw [if_pos h5]; exact .inl ⟨⟨by omega, by omega, h3, fun _ => h5⟩, rfl⟩
      · rw [if_neg h5]; exact .inr ⟨fun g => h5 (g.last h4), rfl⟩
    · rw [if_neg h4]; exact .inl ⟨⟨by omega, by omega, h3, fun h => absurd h h4⟩, rfl⟩
  · rw [show ((ws.length : Int) != (size + 63) / 64) = true from by simpa using h3]
    exact .inr ⟨fun g => h3 g.len, check_j _ _ _ _ rfl⟩
theorem good_yes {size : Int} {ws : List Int} (h : Good size ws) (k : Nat) : bCheck.f (k + 1) size ws = some 0 := by
  rcases check_any k size ws with h' | h'
  · exact h'.2
  · exact absurd h h'.1
theorem good_no {size : Int} {ws : List Int} (h : ¬ Good size ws) (k : Nat) : bCheck.f (k + 1) size ws = some 3 := by
  rcases check_any k size ws with h' | h'
  · exact absurd h'.1 h
  · exact h'.2
theorem good_iff (size : Int) (ws : List Int) : good size ws = true ↔ Good size ws := by
  unfold good
  rw [decide_eq_true_iff]
  rcases check_any 0 size ws with ⟨h, e⟩ | ⟨h, e⟩
  · exact ⟨fun _ => h, fun _ => e⟩
  · exact ⟨fun h' => by rw [e] at h'; simp at h', fun h' => absurd h' h⟩
theorem Good.len_le {size : Int} {ws : List Int} (h : Good size ws) : ws.length ≤ 64 := by have := h.len; have := h.hi; omega
def Fits (s c size : Int) : Prop := 0 ≤ s ∧ 0 ≤ c ∧ s ≤ size ∧ c ≤ wrap64 (size - s)
instance (s c size : Int) : Decidable (Fits s c size) := by unfold Fits; infer_instance
theorem fits_eq (s c size : Int) : bfits.f s c size = some (decide (Fits s c size)) := by
  unfold bfits.f Fits
  by_cases h1 : s ≥ 0
  · rw [if_pos h1]
    by_cases h2 : c ≥ 0
    · rw [if_pos h2]
      by_cases h3 : s ≤ size
      · rw [if_pos h3]; congr 1; simp [show 0 ≤ s from h1, show 0 ≤ c from h2, h3]
      · rw [if_neg h3]; congr 1; simp [h3]
    · rw [if_neg h2]; congr 1; simp [show ¬ 0 ≤ c from h2]
  · rw [if_neg h1]; congr 1; simp [show ¬ 0 ≤ s from h1]
theorem fit_eq (s c size : Int) : fit s c size = decide (Fits s c size) := by unfold fit; rw [fits_eq]; by_cases h : Fits s c size <;> simp [h]
theorem Fits.bounds {s c size : Int} (h : Fits s c size) (h0 : 0 ≤ size) (h1 : size ≤ 4096) : 0 ≤ s ∧ 0 ≤ c ∧ s + c ≤ size := by
  obtain ⟨a, b, d, e⟩ := h
  rw [w64 (size - s) (by omega) (by omega)] at e
  omega
theorem mx_eq (a b : Int) : mx a b = max a b := by unfold mx; omega
theorem mn_eq (a b : Int) : mn a b = min a b := by unfold mn; omega
def maskN (a b : Nat) : Nat := if b ≤ a then 0 else (2 ^ (b - a) - 1) * 2 ^ a
theorem mask_eq (i : Nat) (lo hi : Int) (hi0 : i ≤ 64) (l0 : 0 ≤ lo) (l1 : lo ≤ 9223372036854775807) (h0 : 0 ≤ hi) (h1 : hi ≤ 4096) :
    bmask.f i lo hi = some ((maskN (lo - i * 64).toNat (min (hi - i * 64) 64).toNat : Nat) : Int) := by
  have e1 : wrap64 ((i : Int) * 64) = i * 64 := w64 _ (by omega) (by omega)
  have e2 : wrap64 (lo - (i : Int) * 64) = lo - i * 64 := w64 _ (by omega) (by omega)
  have e3 : wrap64 (hi - (i : Int) * 64) = hi - i * 64 := w64 _ (by omega) (by omega)
  unfold bmask.f
  rw [e1, e2, e3, mx_eq, mn_eq]
  unfold maskN
  by_cases h : max (lo - (i : Int) * 64) 0 ≥ min (hi - (i : Int) * 64) 64
  · rw [if_pos h, if_pos (show (min (hi - (i : Int) * 64) 64).toNat ≤ (lo - (i : Int) * 64).toNat by omega)]; rfl
  · rw [if_neg h, if_neg (show ¬ (min (hi - (i : Int) * 64) 64).toNat ≤ (lo - (i : Int) * 64).toNat by omega)]
    have e4 : wrap64 (min (hi - (i : Int) * 64) 64 - max (lo - (i : Int) * 64) 0) = min (hi - (i : Int) * 64) 64 - max (lo - (i : Int) * 64) 0 := w64 _ (by omega) (by omega)
    rw [e4]
    have e5 : wrap64 (64 - (min (hi - (i : Int) * 64) 64 - max (lo - (i : Int) * 64) 0)) = 64 - (min (hi - (i : Int) * 64) 64 - max (lo - (i : Int) * 64) 0) := w64 _ (by omega) (by omega)
    rw [e5, if_pos (by omega)]
    obtain ⟨a, ha⟩ : ∃ a : Nat, max (lo - (i : Int) * 64) 0 = a := ⟨(max (lo - (i : Int) * 64) 0).toNat, by omega⟩
    obtain ⟨b, hb⟩ : ∃ b : Nat, min (hi - (i : Int) * 64) 64 = b := ⟨(min (hi - (i : Int) * 64) 64).toNat, by omega⟩
    rw [ha, hb]
    have hab : a < b ∧ b ≤ 64 := by omega
    rw [show (lo - (i : Int) * 64).toNat = a from by omega, Int.toNat_natCast]
    have e6 : (64 - ((b : Int) - a)).toNat = 64 - (b - a) := by omega
    have e7 : shr .u64 18446744073709551615 (64 - ((b : Int) - a)) = ((2 ^ (b - a) - 1 : Nat) : Int) := by
      unfold shr
      rw [e6, Nat.min_eq_left (by simp only [IntKind.bits]; omega)]
      have : (18446744073709551615 : Int) = ((2 ^ 64 - 1 : Nat) : Int) := by decide
      rw [this]
      have h2 : (2 : Int) ^ (64 - (b - a)) = ((2 ^ (64 - (b - a)) : Nat) : Int) := by simp
      rw [h2, ← Int.natCast_ediv]
      congr 1
      have h3 : 2 ^ 64 = 2 ^ (b - a) * 2 ^ (64 - (b - a)) := by rw [← Nat.pow_add]; congr 1; omega
      rw [h3]
      have hp : 0 < 2 ^ (64 - (b - a)) := Nat.pow_pos (by decide)
      have hq : 0 < 2 ^ (b - a) := Nat.pow_pos (by decide)
      generalize 2 ^ (64 - (b - a)) = P at hp
      generalize 2 ^ (b - a) = Q at hq
      refine Nat.div_eq_of_lt_le ?_ ?_
      · rw [Nat.sub_mul]; omega
      · rw [Nat.sub_add_cancel hq]; exact Nat.sub_lt (Nat.mul_pos hq hp) (by decide)
    rw [e7]
    unfold shl
    rw [Int.toNat_natCast, Nat.min_eq_left (by simp only [IntKind.bits]; omega)]
    have h2 : (2 : Int) ^ a = ((2 ^ a : Nat) : Int) := by simp
    rw [h2, ← Int.natCast_mul]
    congr 1
    have hlt : (2 ^ (b - a) - 1) * 2 ^ a < 18446744073709551616 := by
      have : (2 ^ (b - a) - 1) * 2 ^ a < 2 ^ (b - a) * 2 ^ a := Nat.mul_lt_mul_of_pos_right (Nat.sub_lt (Nat.pow_pos (by decide)) (by decide)) (Nat.pow_pos (by decide))
      rw [← Nat.pow_add] at this
      exact Nat.lt_of_lt_of_le this (by rw [show 18446744073709551616 = 2 ^ 64 from by decide]; exact Nat.pow_le_pow_right (by decide) (by omega))
    generalize (2 ^ (b - a) - 1) * 2 ^ a = M at hlt
    rw [IntKind.wrap_u64]
    omega
theorem mkW_eq (i : Nat) (lo hi : Int) (hi0 : i ≤ 64) (l0 : 0 ≤ lo) (l1 : lo ≤ 9223372036854775807) (h0 : 0 ≤ hi) (h1 : hi ≤ 4096) :
    mkW i lo hi = ((maskN (lo - i * 64).toNat (min (hi - i * 64) 64).toNat : Nat) : Int) := by
  unfold mkW; rw [mask_eq i lo hi hi0 l0 l1 h0 h1]; rfl
theorem mask_some (i : Nat) (lo hi : Int) (hi0 : i ≤ 64) (l0 : 0 ≤ lo) (l1 : lo ≤ 9223372036854775807) (h0 : 0 ≤ hi) (h1 : hi ≤ 4096) : bmask.f i lo hi = some (mkW i lo hi) := by
  rw [mkW_eq i lo hi hi0 l0 l1 h0 h1, mask_eq i lo hi hi0 l0 l1 h0 h1]
end Go.Proofs.YtnjbdcnefienhaaDoor.P

namespace Go.Proofs.YtnjbdcnefienhaaDoor.P
open Go.RowKit Go.Proofs.YtnjbdcnefienhaaDoorW.PrintWords Go.Proofs.YtnjbdcnefienhaaDoorW.PrintLast Go.Proofs.YtnjbdcnefienhaaDoorW.PrintMore
attribute [local go_sem] max2_int min2_int max_two min_two max_three min_three max_four min_four
set_option maxHeartbeats 8000000 in
set_option maxRecDepth 100000 in
theorem bmask.same (a0 : Int) (a1 : Int) (a2 : Int) (r : Int) (w : World) (h : bmask.f a0 a1 a2 = some r) :
  Calls Tryd.prog 78 #[.int .i64 a0, .int .i64 a1, .int .i64 a2] w fun e w' => e = .returned (.int .u64 r) ∧ w' = w := by
 have H : (if (mx (wrap64 (a1 - (wrap64 (a0 * 64)))) 0) ≥ (mn (wrap64 (a2 - (wrap64 (a0 * 64)))) 64) then (some 0) else (if 0 ≤ (wrap64 (64 - (wrap64 ((mn (wrap64 (a2 - (wrap64 (a0 * 64)))) 64) - (mx (wrap64 (a1 - (wrap64 (a0 * 64)))) 0))))) then (some (shl .u64 (shr .u64 18446744073709551615 (wrap64 (64 - (wrap64 ((mn (wrap64 (a2 - (wrap64 (a0 * 64)))) 64) - (mx (wrap64 (a1 - (wrap64 (a0 * 64)))) 0)))))) (mx (wrap64 (a1 - (wrap64 (a0 * 64)))) 0))) else (none))) = some r := h
 clear h
 obtain ⟨ji4, hji4⟩ : ∃ j_ : Int, (mx (wrap64 (a1 - (wrap64 (a0 * 64)))) 0) = j_ := ⟨_, rfl⟩
 replace H : (if (ji4) ≥ (mn (wrap64 (a2 - (wrap64 (a0 * 64)))) 64) then (some 0) else (if 0 ≤ (wrap64 (64 - (wrap64 ((mn (wrap64 (a2 - (wrap64 (a0 * 64)))) 64) - (ji4))))) then (some (shl .u64 (shr .u64 18446744073709551615 (wrap64 (64 - (wrap64 ((mn (wrap64 (a2 - (wrap64 (a0 * 64)))) 64) - (ji4)))))) (ji4))) else (none))) = some r := by first | (rw [hji4] at H; exact H) | (simp only [hji4] at H ⊢; exact H)
 (try (have hji4l : 0 ≤ ji4 := by (rw [← hji4]; unfold mx; (repeat' split) <;> omega)))
 (try (have hji4m : 0 ≤ ji4 := by omega))
 have hji4_ : (if (wrap64 (a1 - (wrap64 (a0 * 64)))) < 0 then 0 else (wrap64 (a1 - (wrap64 (a0 * 64))))) = ji4 := hji4
 obtain ⟨ji5, hji5⟩ : ∃ j_ : Int, (mn (wrap64 (a2 - (wrap64 (a0 * 64)))) 64) = j_ := ⟨_, rfl⟩
 replace H : (if (ji4) ≥ (ji5) then (some 0) else (if 0 ≤ (wrap64 (64 - (wrap64 ((ji5) - (ji4))))) then (some (shl .u64 (shr .u64 18446744073709551615 (wrap64 (64 - (wrap64 ((ji5) - (ji4)))))) (ji4))) else (none))) = some r := by first | (rw [hji5] at H; exact H) | (simp only [hji5] at H ⊢; exact H)
 (try (have hji5h : ji5 ≤ 64 := by (rw [← hji5]; unfold mn; (repeat' split) <;> omega)))
 (try (have hji5g : ji5 ≤ 64 := by omega))
 have hji5_ : (if 64 < (wrap64 (a2 - (wrap64 (a0 * 64)))) then 64 else (wrap64 (a2 - (wrap64 (a0 * 64))))) = ji5 := hji5
 by_cases c6 : (ji4) ≥ (ji5)
 ·
  rw [if_pos c6] at H
  have c6b0 : decide ((ji5) ≤ (ji4)) = true := decide_eq_true c6
  clear c6
  obtain rfl := Option.some.inj H
  go_enter Tryd.func78, Tryd.ntmps78
  go_wp2
  go_ret
  exact ⟨by first | rfl | (simp; done) | (simp only [← hji4, ← hji5] <;> (first | rfl | simp)) | (simp [*]; done), rfl⟩
 ·
  rw [if_neg c6] at H
  have c6b0 : decide ((ji5) ≤ (ji4)) = false := decide_eq_false c6
  clear c6
  obtain ⟨ji7, hji7⟩ : ∃ j_ : Int, (wrap64 (64 - (wrap64 ((ji5) - (ji4))))) = j_ := ⟨_, rfl⟩
  replace H : (if 0 ≤ (ji7) then (some (shl .u64 (shr .u64 18446744073709551615 (ji7)) (ji4))) else (none)) = some r := by first | (rw [hji7] at H; exact H) | (simp only [hji7] at H ⊢; exact H)
  have hji7w : (IntKind.i64.wrap (64 - (wrap64 ((ji5) - (ji4))))) = ji7 := (i64_w _).trans hji7
  by_cases c8 : 0 ≤ (ji7)
  ·
   rw [if_pos c8] at H
   have c8b0 := eq_true c8
   have c8b1 : decide (0 ≤ (ji7)) = true := decide_eq_true c8
   clear c8
   obtain ⟨ji9, hji9⟩ : ∃ j_ : Int, (shr .u64 18446744073709551615 (ji7)) = j_ := ⟨_, rfl⟩
   replace H : (some (shl .u64 (ji9) (ji4))) = some r := by first | (rw [hji9] at H; exact H) | (simp only [hji9] at H ⊢; exact H)
   have hji9_ : (18446744073709551615 / 2 ^ min (ji7).toNat 64) = ji9 := hji9
   have hji9z : (ji7) ≤ 64 → (18446744073709551615 / 2 ^ (ji7).toNat) = ji9 := shr_small hji9
   obtain ⟨ji10, hji10⟩ : ∃ j_ : Int, (shl .u64 (ji9) (ji4)) = j_ := ⟨_, rfl⟩
   replace H : (some ji10) = some r := by first | (rw [hji10] at H; exact H) | (simp only [hji10] at H ⊢; exact H)
   have hji10_ : (IntKind.u64.wrap ((ji9) * 2 ^ min (ji4).toNat 64)) = ji10 := hji10
   have hji10z : (ji4) ≤ 64 → (IntKind.u64.wrap ((ji9) * 2 ^ (ji4).toNat)) = ji10 := shl_small hji10
   obtain rfl := Option.some.inj H
   go_enter Tryd.func78, Tryd.ntmps78
   go_wp2
   go_ret
   exact ⟨by first | rfl | (simp; done) | (simp only [← hji4, ← hji5, ← hji7, ← hji9, ← hji10] <;> (first | rfl | simp)) | (simp [*]; done), rfl⟩
  ·
   rw [if_neg c8] at H
   exact absurd H (by simp)
theorem set_op (a b : Int) (w : World) : Calls Tryd.prog 65 #[.int .u64 a, .int .u64 b] w fun e w' => e = .returned (.int .u64 (Go.bits .or .u64 a b)) ∧ w' = w := by
  go_enter Tryd.func65, Tryd.ntmps65
  go_wp2
  go_ret
  exact ⟨rfl, rfl⟩
theorem clear_op (a b : Int) (w : World) : Calls Tryd.prog 67 #[.int .u64 a, .int .u64 b] w fun e w' => e = .returned (.int .u64 (Go.bits .andNot .u64 a b)) ∧ w' = w := by
  go_enter Tryd.func67, Tryd.ntmps67
  go_wp2
  go_ret
  exact ⟨rfl, rfl⟩
theorem clone_nil (c : Nat) (w : World) : Calls Tryd.prog 81 #[.slice none 0 c] w fun e w' => e = .returned (.slice none 0 0) ∧ w' = w := by
  have q : ∀ (w : World) (a : Option Addr) (n c n' c' : Nat), (binOp .eql 24 (.slice a n c) (.slice none n' c')).run Tryd.prog w = .ok (.bool a.isNone) w := fun w a n c n' c' => Lib.run_eql_slice_nil w _ _ a n c n' c' Tryd.underlying24
  go_enter Tryd.func81, Tryd.ntmps81
  go_wp2
  go_ret
  exact ⟨rfl, rfl⟩
theorem infoU64 : (Tryd.prog.info? 90).map (fun i => (i.zero, i.size, i.bytes)) = some (some (.int .u64 0), 1, 8) := by kernel_rfl
set_option maxHeartbeats 2000000 in
set_option maxRecDepth 100000 in
theorem clone_row (ad : Addr) (n c : Nat) (zs : List Int) (w : World) (hz : zs.length = n) (hbig : n * 8 ≤ 140737488355328) (hc0 : ∀ j, j < n → w.cell? (ad.add j) = some (.int .u64 (zs.getD j 0))) :
    Calls Tryd.prog 81 #[.slice (some ad) n c] w fun e w' => ∃ v', e = .returned v' ∧ w'.ownsRow w.heap.size 90 1 v' n (nums .u64 zs) ∧ Below w.heap.size w w' := by
  obtain ⟨i0, hi, hz0, hz1, hz2⟩ := info_parts infoU64
  have q : ∀ (w : World) (a : Option Addr) (n c n' c' : Nat), (binOp .eql 24 (.slice a n c) (.slice none n' c')).run Tryd.prog w = .ok (.bool a.isNone) w := fun w a n c n' c' => Lib.run_eql_slice_nil w _ _ a n c n' c' Tryd.underlying24
  have A : Aside0 (∀ j, j < n → w.cell? (ad.add j) = some (.int .u64 (zs.getD j 0))) := ⟨hc0⟩
  have hzl := Aside0.mk hz
  clear hc0 hz
  go_enter Tryd.func81, Tryd.ntmps81
  go_wp2_with (at_builtin; refine wpList_append_own _ rfl _ _ 24 rfl w.heap.size 90 i0 (.int .u64 0) 1 8 Tryd.underlying24 hi hz0 hz1 hz2 rfl (by decide) _ _ _ rfl (World.ownsRow_made w #[] 0 (Nat.le_refl _) (Nat.zero_le _) rfl) ad n c (nums .u64 zs) rfl ?qc1 ?qc2 ?qc3 ?qc4 ?qc5 ?qc6 ?_)
  case qc1 => rw [nums_length, hzl.out]; omega
  case qc2 =>
    intro j u hj
    have hjn : j < n := by
      have := (List.getElem?_eq_some_iff.1 hj).1
      rw [nums_length, hzl.out] at this
      exact this
    refine Lib.cell?_alloc_some _ ?_
    rw [A.out j hjn]
    have e : (nums .u64 zs)[j]? = some (Value.int .u64 (zs.getD j 0)) := by
      have := hzl.out
      simp [nums, List.getD, List.getElem?_eq_getElem (show j < zs.length by omega)]
    rw [e] at hj
    exact hj
  case qc3 => intro u hu; obtain ⟨x, _, rfl⟩ := List.mem_map.1 hu; rfl
  case qc4 => unfold maxLen; omega
  case qc5 => omega
  case qc6 => simp
  intro v' w1 hown hgrow _
  go_wp2
  go_ret
  refine ⟨v', rfl, by simpa using hown, ?_⟩
  exact ((Below.refl _ w).alloc (Nat.le_refl _) _).grown hgrow (by simp) (by intro k hk; simp [Value.ownBlock] at hk; omega)
theorem blk_of_below {W W' : World} {g : Nat} {o : Obj} (h : W.heap[g]? = some o) (hb : Below W.heap.size W W') : W'.heap[g]? = some o :=
  (hb.block g (Array.getElem?_eq_some_iff.1 h).1).trans h
theorem new4 (w : World) (o0 o1 o2 o3 : Obj) : ∃ W, (((w.alloc o0).alloc o1).alloc o2).alloc o3 = W ∧ Below w.heap.size w W ∧ W.heap.size = w.heap.size + 1 + 1 + 1 + 1 ∧
    W.heap[w.heap.size]? = some o0 ∧ W.heap[w.heap.size + 1]? = some o1 ∧ W.heap[w.heap.size + 1 + 1]? = some o2 ∧ W.heap[w.heap.size + 1 + 1 + 1]? = some o3 := by
  have a : ∀ (W : World) (o : Obj) (k : Nat) (x : Obj), W.heap[k]? = some x → (W.alloc o).heap[k]? = some x := fun W o k x h => (Below.heap_alloc W o k (Array.getElem?_eq_some_iff.1 h).1).trans h
  have n : ∀ (W : World) (o : Obj) (k : Nat), W.heap.size = k → (W.alloc o).heap[k]? = some o := fun W o k h => by rw [← h]; exact heap_alloc_new W o
  refine ⟨_, rfl, below_alloc (below_alloc (below_alloc (below_alloc (Below.refl _ _) _) _) _) _, by simp, ?_, ?_, ?_, ?_⟩
  · exact a _ _ _ _ (a _ _ _ _ (a _ _ _ _ (n _ _ _ rfl)))
  · exact a _ _ _ _ (a _ _ _ _ (n _ _ _ (by simp)))
  · exact a _ _ _ _ (n _ _ _ (by simp))
  · exact n _ _ _ (by simp)
theorem cells2 {W : World} {g : Nat} {a b : Value} {t : TypeId} (h : W.heap[g]? = some (.cells #[a, b] t (0, 0))) : W.cell? ⟨g, 0, none⟩ = some a ∧ W.cell? ⟨g, 1, none⟩ = some b ∧ W.frozen? ⟨g, 0, none⟩ = false ∧ W.frozen? ⟨g, 1, none⟩ = false :=
  ⟨(blk_cell h 0).trans rfl, (blk_cell h 1).trans rfl, blk_frozen h 0, blk_frozen h 1⟩
theorem new3 (w : World) (o0 o1 o2 : Obj) : ∃ W, ((w.alloc o0).alloc o1).alloc o2 = W ∧ Below w.heap.size w W ∧ W.heap.size = w.heap.size + 1 + 1 + 1 ∧
    W.heap[w.heap.size]? = some o0 ∧ W.heap[w.heap.size + 1]? = some o1 ∧ W.heap[w.heap.size + 1 + 1]? = some o2 := by
  have a : ∀ (W : World) (o : Obj) (k : Nat) (x : Obj), W.heap[k]? = some x → (W.alloc o).heap[k]? = some x := fun W o k x h => (Below.heap_alloc W o k (Array.getElem?_eq_some_iff.1 h).1).trans h
  have n : ∀ (W : World) (o : Obj) (k : Nat), W.heap.size = k → (W.alloc o).heap[k]? = some o := fun W o k h => by rw [← h]; exact heap_alloc_new W o
  refine ⟨_, rfl, below_alloc (below_alloc (below_alloc (Below.refl _ _) _) _) _, by simp, ?_, ?_, ?_⟩
  · exact a _ _ _ _ (a _ _ _ _ (n _ _ _ rfl))
  · exact a _ _ _ _ (n _ _ _ (by simp))
  · exact n _ _ _ (by simp)
set_option maxHeartbeats 2000000 in
set_option maxRecDepth 100000 in
theorem apply_bad (size : Int) (A : Option Addr) (c : Nat) (ws : List Int) (st ct : Int) (w : World) (hr : Kd.C (Kd.int .u64) w A ws.length ws) (hc : ws.length ≤ c) (e0 : Int) (he0 : bCheck.f 1 size ws = some e0) (hne : (e0 != 0) = true) (v : Value) :
    Calls Tryd.prog 66 #[.agg #[v], .agg #[.int .i64 size, .slice A ws.length c], .agg #[.int .i64 st, .int .i64 ct]] w fun e w' => e = .returned (.tuple #[.agg #[.int .i64 0, .slice none 0 0], .int .i64 e0]) ∧ Below w.heap.size w w' := by
  have HR := Aside0.mk hr
  have HC := Aside0.mk hc
  have HE := Aside0.mk he0
  clear hr hc he0
  go_enter Tryd.func66, Tryd.ntmps66
  go_wp2_with fail
  obtain ⟨W, hW, hB, hS, -, -, -, h3⟩ := new4 w (Obj.cells #[v] 104) (Obj.cells #[Value.int IntKind.i64 size, Value.slice A ws.length c] 26) (Obj.cells #[Value.int IntKind.i64 st, Value.int IntKind.i64 ct] 49) (Obj.cells #[Value.int IntKind.i64 0, Value.slice none 0 0] 26)
  rw [hW]
  have HB := Aside0.mk hB
  have B3 := Aside0.mk h3
  clear hW hB hS h3
  refine (bCheck.calls 1 size _ c ws e0 W (Kd.C_below HR.out HB.out) HC.out HE.out).mono ?_
  rintro e w1 ⟨rfl, hb1⟩
  obtain ⟨c30, c31, f30, f31⟩ := cells2 (blk_of_below B3.out hb1)
  have HB1 := Aside0.mk (below_step HB.out hb1)
  have HZ := Aside0.mk (Nat.le_trans HB.out.size hb1.size)
  clear hb1
  go_wp2_with fail
  refine bodyPost_ret (v := .tuple #[.agg #[.int .i64 0, .slice none 0 0], .int .i64 e0]) ?_ rfl ⟨rfl, ?_⟩
  · simp [results, Tryd.results66, go_sem, *]
  · exact (HB1.out.setCell (p := ⟨w.heap.size + 1 + 1 + 1, 0, none⟩) (show w.heap.size ≤ w.heap.size + 1 + 1 + 1 by omega) _).setCell (p := ⟨w.heap.size + 1 + 1 + 1, 1, none⟩) (show w.heap.size ≤ w.heap.size + 1 + 1 + 1 by omega) _
set_option maxHeartbeats 2000000 in
set_option maxRecDepth 100000 in
theorem apply_out (size : Int) (A : Option Addr) (c : Nat) (ws : List Int) (st ct : Int) (w : World) (hr : Kd.C (Kd.int .u64) w A ws.length ws) (hc : ws.length ≤ c) (he0 : bCheck.f 1 size ws = some 0) (hf : bfits.f st ct size = some false) (v : Value) :
    Calls Tryd.prog 66 #[.agg #[v], .agg #[.int .i64 size, .slice A ws.length c], .agg #[.int .i64 st, .int .i64 ct]] w fun e w' => e = .returned (.tuple #[.agg #[.int .i64 0, .slice none 0 0], .int .i64 2]) ∧ Below w.heap.size w w' := by
  have HR := Aside0.mk hr
  have HC := Aside0.mk hc
  have HE := Aside0.mk he0
  have HF := Aside0.mk hf
  clear hr hc he0 hf
  go_enter Tryd.func66, Tryd.ntmps66
  go_wp2_with fail
  obtain ⟨W, hW, hB, hS, -, h1, h2, h3⟩ := new4 w (Obj.cells #[v] 104) (Obj.cells #[Value.int IntKind.i64 size, Value.slice A ws.length c] 26) (Obj.cells #[Value.int IntKind.i64 st, Value.int IntKind.i64 ct] 49) (Obj.cells #[Value.int IntKind.i64 0, Value.slice none 0 0] 26)
  rw [hW]
  have HB := Aside0.mk hB
  have B1 := Aside0.mk h1
  have B2 := Aside0.mk h2
  have B3 := Aside0.mk h3
  clear hW hB hS h1 h2 h3
  refine (bCheck.calls 1 size _ c ws 0 W (Kd.C_below HR.out HB.out) HC.out HE.out).mono ?_
  rintro e w1 ⟨rfl, hb1⟩
  obtain ⟨c10, c11, f10, f11⟩ := cells2 (blk_of_below B1.out hb1)
  obtain ⟨c20, c21, f20, f21⟩ := cells2 (blk_of_below B2.out hb1)
  have B3' := Aside0.mk (blk_of_below B3.out hb1)
  have HB1 := Aside0.mk (below_step HB.out hb1)
  clear hb1 f10 f11 f20 f21
  go_wp2_with fail
  refine (bfits.calls st ct size false w1 HF.out).mono ?_
  rintro e w2 ⟨rfl, hb2⟩
  obtain ⟨c30, c31, f30, f31⟩ := cells2 (blk_of_below B3'.out hb2)
  have HB2 := Aside0.mk (below_step HB1.out hb2)
  clear hb2 c10 c11 c20 c21
  go_wp2_with fail
  refine bodyPost_ret (v := .tuple #[.agg #[.int .i64 0, .slice none 0 0], .int .i64 2]) ?_ rfl ⟨rfl, ?_⟩
  · simp [results, Tryd.results66, go_sem, *]
  · exact (HB2.out.setCell (p := ⟨w.heap.size + 1 + 1 + 1, 0, none⟩) (show w.heap.size ≤ w.heap.size + 1 + 1 + 1 by omega) _).setCell (p := ⟨w.heap.size + 1 + 1 + 1, 1, none⟩) (show w.heap.size ≤ w.heap.size + 1 + 1 + 1 by omega) _
def part (F : Nat → Int → Int) (ws : List Int) (k : Nat) : List Int := (ws.mapIdx F).take k ++ ws.drop k
theorem part_zero (F : Nat → Int → Int) (ws : List Int) : part F ws 0 = ws := by simp [part]
theorem part_all (F : Nat → Int → Int) (ws : List Int) : part F ws ws.length = ws.mapIdx F := by simp [part, List.take_of_length_le]
theorem part_length (F : Nat → Int → Int) (ws : List Int) (k : Nat) (hk : k ≤ ws.length) : (part F ws k).length = ws.length := by simp [part]; omega
theorem part_at (F : Nat → Int → Int) (ws : List Int) (k : Nat) (hk : k < ws.length) : (part F ws k)[k]? = some (ws.getD k 0) := by
  simp [part, List.getElem?_append, Nat.min_eq_left (Nat.le_of_lt hk), hk]
theorem part_succ (F : Nat → Int → Int) (ws : List Int) (k : Nat) (hk : k < ws.length) : (part F ws k).set k (F k (ws.getD k 0)) = part F ws (k + 1) := by
  apply List.ext_getElem?
  intro i
  rw [List.getElem?_set]
  have hl := part_length F ws k (by omega)
  by_cases hi : k = i
  · subst hi
    rw [if_pos rfl, if_pos (by omega)]
    simp [part, List.getElem?_append, hk, show k + 1 ≤ ws.length by omega]
  · rw [if_neg hi]
    unfold part
    by_cases hik : i < k
    · rw [List.getElem?_append_left (by simp; omega), List.getElem?_append_left (by simp; omega), List.getElem?_take_of_lt hik, List.getElem?_take_of_lt (by omega)]
    · rw [List.getElem?_append_right (by simp; omega), List.getElem?_append_right (by simp; omega)]
      simp only [List.length_take, List.length_mapIdx, Nat.min_eq_left (Nat.le_of_lt hk), Nat.min_eq_left (show k + 1 ≤ ws.length by omega), List.getElem?_drop]
      congr 1; omega
set_option maxHeartbeats 4000000 in
set_option maxRecDepth 100000 in
theorem set_ok (size : Int) (A : Option Addr) (c : Nat) (ws : List Int) (st ct : Int) (w : World) (hr : Kd.C (Kd.int .u64) w A ws.length ws) (hc : ws.length ≤ c) (he0 : bCheck.f 1 size ws = some 0) (hf : bfits.f st ct size = some true)
    (hlen : ws.length ≤ 100) (hm : ∀ k : Nat, k < ws.length → bmask.f k st (wrap64 (st + ct)) = some (mkW k st (wrap64 (st + ct)))) :
    Calls Tryd.prog 66 #[.agg #[.func (.func 65) #[] #[]], .agg #[.int .i64 size, .slice A ws.length c], .agg #[.int .i64 st, .int .i64 ct]] w fun e w' => ∃ v1_ : Value, e = .returned (.tuple #[.agg #[.int .i64 size, v1_], .int .i64 0]) ∧ Kd.R (Kd.int .u64) 90 w' w.heap.size (fun _ => True) v1_ (ws.mapIdx fun i x => Go.bits .or .u64 x (mkW i st (wrap64 (st + ct)))) ∧ Below w.heap.size w w' := by
  have HR := Aside0.mk hr
  have HC := Aside0.mk hc
  have HE := Aside0.mk he0
  have HF := Aside0.mk hf
  have HM := Aside0.mk hm
  clear hr hc he0 hf hm
  go_enter Tryd.func66, Tryd.ntmps66
  go_wp2_with fail
  obtain ⟨W, hW, hB, hS, h0, h1, h2, h3⟩ := new4 w (Obj.cells #[Value.func (.func 65) #[] #[]] 104) (Obj.cells #[Value.int IntKind.i64 size, Value.slice A ws.length c] 26) (Obj.cells #[Value.int IntKind.i64 st, Value.int IntKind.i64 ct] 49) (Obj.cells #[Value.int IntKind.i64 0, Value.slice none 0 0] 26)
  rw [hW]
  have HB := Aside0.mk hB
  have B0 := Aside0.mk h0
  have B1 := Aside0.mk h1
  have B2 := Aside0.mk h2
  have B3 := Aside0.mk h3
  clear hW hB hS h0 h1 h2 h3
  refine (bCheck.calls 1 size _ c ws 0 W (Kd.C_below HR.out HB.out) HC.out HE.out).mono ?_
  rintro e w1 ⟨rfl, hb1⟩
  obtain ⟨c10, c11, f10, f11⟩ := cells2 (blk_of_below B1.out hb1)
  obtain ⟨c20, c21, f20, f21⟩ := cells2 (blk_of_below B2.out hb1)
  have B0' := Aside0.mk (blk_of_below B0.out hb1)
  have B1' := Aside0.mk (blk_of_below B1.out hb1)
  have B2' := Aside0.mk (blk_of_below B2.out hb1)
  have B3' := Aside0.mk (blk_of_below B3.out hb1)
  have HB1 := Aside0.mk (below_step HB.out hb1)
  clear hb1 f10 f11 f20 f21 B0 B1 B2 B3
  go_wp2_with fail
  refine (bfits.calls st ct size true w1 HF.out).mono ?_
  rintro e w2 ⟨rfl, hb2⟩
  have B0 := Aside0.mk (blk_of_below B0'.out hb2)
  have B1 := Aside0.mk (blk_of_below B1'.out hb2)
  have B2 := Aside0.mk (blk_of_below B2'.out hb2)
  have B3 := Aside0.mk (blk_of_below B3'.out hb2)
  have HB2 := Aside0.mk (below_step HB1.out hb2)
  clear hb2 c10 c11 c20 c21 B0' B1' B2' B3'
  obtain ⟨c10, c11, f10, f11⟩ := cells2 B1.out
  clear f10 f11
  go_wp2_with fail
  have hclone : Calls Tryd.prog 81 #[.slice A ws.length c] w2 fun e w' => ∃ A2 c2, e = .returned (.slice A2 ws.length c2) ∧ w'.ownsRow w2.heap.size 90 1 (.slice A2 ws.length c2) ws.length (nums .u64 ws) ∧ Below w2.heap.size w2 w' := by
    cases A with
    | none =>
      have h0 : ws.length = 0 := by
        rcases Nat.eq_zero_or_pos ws.length with h | h
        · exact h
        · obtain ⟨ad, e, _⟩ := HR.out.2.2 h
          cases e
      have hn : ws = [] := List.eq_nil_of_length_eq_zero h0
      subst hn
      exact (clone_nil c w2).mono fun e w' ⟨he, hw⟩ => ⟨none, 0, he, by rw [hw]; exact own_nil _ _ _ _, by rw [hw]; exact Below.refl _ _⟩
    | some ad =>
      refine (clone_row ad ws.length c ws w2 rfl (by omega) ?_).mono ?_
      · intro j hj
        obtain ⟨ad', e, h⟩ := (Kd.C_below HR.out HB2.out).2.2 (by omega)
        cases e
        obtain ⟨cs, hl, hk, hcell⟩ := h j _ (List.getElem?_eq_getElem hj)
        have hcs : cs = [Value.int .u64 ws[j]] := hk
        subst hcs
        have := hcell 0 _ rfl
        simpa [List.getD, hj, show (Kd.int .u64).sz = 1 from rfl] using this
      · rintro e w' ⟨v', he, ho, hb⟩
        obtain ⟨A2, c2, hv⟩ := own_slice ho
        subst hv
        exact ⟨A2, c2, he, ho, hb⟩
  refine hclone.mono ?_
  clear hclone
  rintro e w3 ⟨A2, c2, rfl, ho3, hb3⟩
  have HO3 := Aside0.mk ho3
  have HB3 := Aside0.mk hb3
  have HL : Aside0 (w.heap.size + 1 + 1 + 1 < w2.heap.size) := ⟨(Array.getElem?_eq_some_iff.1 B3.out).1⟩
  clear ho3 hb3 c10 c11
  go_wp2_with fail
  have hw64 : IntKind.i64.wrap (st + ct) = wrap64 (st + ct) := i64_w _
  obtain ⟨F, hF⟩ : ∃ F : Nat → Int → Int, F = fun (i : Nat) (x : Int) => Go.bits .or .u64 x (mkW i st (wrap64 (st + ct))) := ⟨_, rfl⟩
  have HFe := Aside0.mk hF
  have HW := Aside0.mk hw64
  clear hF hw64
  go_loopw [28] (fun i wr => ∃ k : Nat, k ≤ ws.length ∧ i = .int .i64 k ∧ wr.ownsRow w2.heap.size 90 1 (.slice A2 ws.length c2) ws.length (nums .u64 (part F ws k)) ∧ Below w2.heap.size w2 wr)
    (fun i _ => ws.length - (intOf i).toNat)
  case atStart => exact ⟨0, Nat.zero_le _, rfl, by rw [part_zero]; exact HO3.out, HB3.out⟩
  case round =>
    obtain ⟨k, hk, rfl, ho, hb⟩ := hrel
    have HO := Aside0.mk ho
    have HBr := Aside0.mk hb
    clear ho hb
    by_cases hlt : k < ws.length
    · obtain ⟨g, cap, hv, -⟩ := HO.out.form (by omega)
      injection hv with hA _ hcap
      subst hA
      subst hcap
      have hfn : wr.cell? ⟨w.heap.size, 0, none⟩ = some (.func (.func 65) #[] #[]) := (blk_cell ((HBr.out.block _ (by have := HL.out; omega)).trans B0.out) 0).trans rfl
      obtain ⟨c20, c21, -, -⟩ := cells2 ((HBr.out.block _ (by have := HL.out; omega)).trans B2.out)
      have hxk : wr.cell? ⟨g, k, none⟩ = some (.int .u64 (ws.getD k 0)) := by
        rw [HO.out.cellAt k (by omega)]
        simp [nums, part_at F ws k hlt]
      have hxf : wr.frozen? ⟨g, k, none⟩ = false := HO.out.frozenAt k
      obtain ⟨x, hx⟩ : ∃ x, x = ws.getD k 0 := ⟨_, rfl⟩
      rw [← hx] at hxk
      have HX := Aside0.mk hx
      clear hx
      go_wp2_with fail
      go_still_tail 19, (by kernel_rfl)
      refine wpStill_step (fun K hK => ?_)
      go_simp
      rw [HW.out]
      refine ⟨_, bmask.same k st _ _ _ (HM.out k hlt), hK _ ?_⟩
      clear hK K
      refine wpStill_step (fun K hK => ?_)
      go_simp
      refine ⟨_, set_op _ _ _, hK _ ?_⟩
      clear hK K
      repeat still_step
      refine wpStill_nil ?_
      change wpList _ _ _ _ _ wr.drew
      have hd1 : wr.drew.cell? ⟨g, k, none⟩ = some (.int .u64 x) := hxk
      have hd2 : wr.drew.frozen? ⟨g, k, none⟩ = false := hxf
      have hst := (HO.out.drew).stored k (.int .u64 (Go.bits .or .u64 x (mkW k st (wrap64 (st + ct)))))
      obtain ⟨hst1, hst2⟩ := hst
      have HO2 : Aside0 ((wr.drew.setCell ⟨g, k, none⟩ (.int .u64 (Go.bits .or .u64 x (mkW k st (wrap64 (st + ct)))))).ownsRow w2.heap.size 90 1 (.slice (some ⟨g, 0, none⟩) ws.length c2) ws.length (nums .u64 (part F ws (k + 1)))) := ⟨by
        have e : (nums .u64 (part F ws k)).set k (.int .u64 (Go.bits .or .u64 x (mkW k st (wrap64 (st + ct))))) = nums .u64 (part F ws (k + 1)) := by
          rw [← part_succ F ws k hlt, HFe.out, HX.out]
          simp [nums, List.map_set]
        rw [← e]; exact hst1⟩
      have HB2' : Aside0 (Below w2.heap.size w2 (wr.drew.setCell ⟨g, k, none⟩ (.int .u64 (Go.bits .or .u64 x (mkW k st (wrap64 (st + ct))))))) := ⟨(below_drew1 HBr.out).setCell (p := ⟨g, k, none⟩) (own_base HO.out g rfl) _⟩
      clear hst1 hst2 hxk hxf
      go_wp2
      go_roundw
      case rel => exact ⟨k + 1, by omega, by go_num, HO2.out, HB2'.out⟩
      case measure => simp [intOf]; omega
    · obtain rfl : k = ws.length := by omega
      obtain ⟨c10, c11, -, -⟩ := cells2 ((HBr.out.block _ (by have := HL.out; omega)).trans B1.out)
      obtain ⟨c30, c31, f30, f31⟩ := cells2 ((HBr.out.block _ (by have := HL.out; omega)).trans B3.out)
      go_wp2
      refine bodyPost_ret (v := .tuple #[.agg #[.int .i64 size, .slice A2 ws.length c2], .int .i64 0]) ?_ rfl ⟨_, rfl, ?_, ?_⟩
      · simp [results, Tryd.results66, go_sem, *]
      · have hrow : wr.ownsRow w.heap.size 90 1 (.slice A2 ws.length c2) (ws.mapIdx F).length (encs (Value.int .u64) (ws.mapIdx F)) := by
          have := own_weaken HO.out HB2.out.size
          rw [part_all] at this
          rw [List.length_mapIdx]
          exact this
        rw [← HFe.out]
        exact Kd.R_mono (Kd.R_far (p := ⟨w.heap.size + 1 + 1 + 1, 1, none⟩) (Kd.R_far (p := ⟨w.heap.size + 1 + 1 + 1, 0, none⟩) (Kd.R_types (Kd.R_of_own (ok := fun _ => True) hrow (fun _ _ => trivial)) ((HBr.out.block _ (by have := HL.out; omega)).trans B3.out) (by decide)) (fun k hk => hk.2) _) (fun k hk => hk.2) _) (fun _ _ => trivial)
      · exact ((HB2.out.trans (HBr.out.mono HB2.out.size)).setCell (p := ⟨w.heap.size + 1 + 1 + 1, 0, none⟩) (show w.heap.size ≤ w.heap.size + 1 + 1 + 1 by omega) _).setCell (p := ⟨w.heap.size + 1 + 1 + 1, 1, none⟩) (show w.heap.size ≤ w.heap.size + 1 + 1 + 1 by omega) _
theorem set_apply (size : Int) (A : Option Addr) (c : Nat) (ws : List Int) (st ct : Int) (w : World) (hr : Kd.C (Kd.int .u64) w A ws.length ws) (hc : ws.length ≤ c) :
    Calls Tryd.prog 66 #[.agg #[.func (.func 65) #[] #[]], .agg #[.int .i64 size, .slice A ws.length c], .agg #[.int .i64 st, .int .i64 ct]] w fun e w' => ∃ v1_ : Value, e = .returned (.tuple #[.agg #[.int .i64 (bChange .or size ws st ct).1, v1_], .int .i64 (bChange .or size ws st ct).2.2]) ∧ Kd.R (Kd.int .u64) 90 w' w.heap.size (fun _ => True) v1_ (bChange .or size ws st ct).2.1 ∧ Below w.heap.size w w' := by
  by_cases hg : Good size ws
  · by_cases hf : Fits st ct size
    · have e : bChange .or size ws st ct = (size, ws.mapIdx fun i x => Go.bits .or .u64 x (mkW i st (wrap64 (st + ct))), 0) := by
        unfold bChange
        rw [if_pos ((good_iff _ _).2 hg), fit_eq, if_pos (by simpa using hf)]
      rw [e]
      have hb := hf.bounds hg.lo hg.hi
      have hw : wrap64 (st + ct) = st + ct := w64 _ (by have := hg.hi; omega) (by have := hg.hi; omega)
      have hl := hg.len_le
      have hh := hg.hi
      exact set_ok size A c ws st ct w hr hc (good_yes hg 0) (by rw [fits_eq]; simp [hf]) (by omega) (fun k hk => by rw [hw]; exact mask_some k st (st + ct) (by omega) (by omega) (by omega) (by omega) (by omega))
    · have e : bChange .or size ws st ct = (0, [], 2) := by
        unfold bChange
        rw [if_pos ((good_iff _ _).2 hg), fit_eq, if_neg (by simpa using hf)]
      rw [e]
      exact (apply_out size A c ws st ct w hr hc (good_yes hg 0) (by rw [fits_eq]; simp [hf]) _).mono fun e w' ⟨he, hb⟩ => ⟨_, he, Kd.R_nil _ _ _ _ _, hb⟩
  · have e : bChange .or size ws st ct = (0, [], 3) := by
      unfold bChange
      rw [if_neg (fun h => hg ((good_iff _ _).1 h))]
    rw [e]
    exact (apply_bad size A c ws st ct w hr hc 3 (good_no hg 0) rfl _).mono fun e w' ⟨he, hb⟩ => ⟨_, he, Kd.R_nil _ _ _ _ _, hb⟩
set_option maxHeartbeats 2000000 in
set_option maxRecDepth 100000 in
theorem bSet.calls (a0_0 : Int) (A0_1 : Option Addr) (c0_1 : Nat) (l0_1 : List Int) (a1_0 : Int) (a1_1 : Int) (r1 : Int) (r2 : List Int) (r3 : Int) (w : World) (hr0_1 : Kd.C (Kd.int .u64) w A0_1 l0_1.length l0_1) (hc0_1 : l0_1.length ≤ c0_1) (h : bSet.f a0_0 l0_1 a1_0 a1_1 = some (r1, r2, r3)) :
  Calls Tryd.prog 42 #[.agg #[.int .i64 a0_0, .slice A0_1 l0_1.length c0_1], .agg #[.int .i64 a1_0, .int .i64 a1_1]] w fun e w' => ∃ v1_ : Value, e = .returned (.tuple #[.agg #[.int .i64 r1, v1_], .int .i64 r3]) ∧ Kd.R (Kd.int .u64) 90 w' w.heap.size (fun _ => True) v1_ r2 ∧ Below w.heap.size w w' := by
  obtain ⟨rfl, rfl, rfl⟩ : (bChange .or a0_0 l0_1 a1_0 a1_1).1 = r1 ∧ (bChange .or a0_0 l0_1 a1_0 a1_1).2.1 = r2 ∧ (bChange .or a0_0 l0_1 a1_0 a1_1).2.2 = r3 := by
    have := Option.some.inj h
    rw [this]; exact ⟨rfl, rfl, rfl⟩
  have HR := Aside0.mk hr0_1
  have HC := Aside0.mk hc0_1
  have HA := fun (W : World) (hb : Below w.heap.size w W) => set_apply a0_0 A0_1 c0_1 l0_1 a1_0 a1_1 W (Kd.C_below HR.out hb) HC.out
  generalize bChange .or a0_0 l0_1 a1_0 a1_1 = q at HA ⊢
  have HQ := Aside0.mk HA
  clear hr0_1 hc0_1 h HA
  go_enter Tryd.func42, Tryd.ntmps42
  go_wp2_with fail
  obtain ⟨W, hW, hB, -, -, -, h2⟩ := new3 w (Obj.cells #[Value.int IntKind.i64 a0_0, Value.slice A0_1 l0_1.length c0_1] 26) (Obj.cells #[Value.int IntKind.i64 a1_0, Value.int IntKind.i64 a1_1] 49) (Obj.cells #[Value.int IntKind.i64 0, Value.slice none 0 0] 26)
  rw [hW]
  have HB := Aside0.mk hB
  have B2 := Aside0.mk h2
  clear hW hB h2
  refine (HQ.out W HB.out).mono ?_
  rintro e w1 ⟨v1, rfl, hR, hb1⟩
  obtain ⟨A2, c2, rfl⟩ : ∃ A2 c2, v1 = .slice A2 q.2.1.length c2 := by
    obtain ⟨inner, ho, -⟩ := hR.2
    exact own_slice ho
  obtain ⟨c30, c31, f30, f31⟩ := cells2 (blk_of_below B2.out hb1)
  have HB1 := Aside0.mk (below_step HB.out hb1)
  have HRR := Aside0.mk (Kd.R_types (Kd.R_lower hR HB.out.size) (blk_of_below B2.out hb1) (by decide))
  clear hb1 hR
  go_wp2_with fail
  refine bodyPost_ret (v := .tuple #[.agg #[.int .i64 q.1, .slice A2 q.2.1.length c2], .int .i64 q.2.2]) ?_ rfl ⟨_, rfl, ?_, ?_⟩
  · simp [results, Tryd.results42, go_sem, *]
  · exact Kd.R_mono (Kd.R_far (p := ⟨w.heap.size + 1 + 1, 1, none⟩) (Kd.R_far (p := ⟨w.heap.size + 1 + 1, 0, none⟩) HRR.out (fun k hk => hk.2) _) (fun k hk => hk.2) _) (fun _ _ => trivial)
  · exact (HB1.out.setCell (p := ⟨w.heap.size + 1 + 1, 0, none⟩) (show w.heap.size ≤ w.heap.size + 1 + 1 by omega) _).setCell (p := ⟨w.heap.size + 1 + 1, 1, none⟩) (show w.heap.size ≤ w.heap.size + 1 + 1 by omega) _
set_option maxHeartbeats 4000000 in
set_option maxRecDepth 100000 in
theorem clear_ok (size : Int) (A : Option Addr) (c : Nat) (ws : List Int) (st ct : Int) (w : World) (hr : Kd.C (Kd.int .u64) w A ws.length ws) (hc : ws.length ≤ c) (he0 : bCheck.f 1 size ws = some 0) (hf : bfits.f st ct size = some true)
    (hlen : ws.length ≤ 100) (hm : ∀ k : Nat, k < ws.length → bmask.f k st (wrap64 (st + ct)) = some (mkW k st (wrap64 (st + ct)))) :
    Calls Tryd.prog 66 #[.agg #[.func (.func 67) #[] #[]], .agg #[.int .i64 size, .slice A ws.length c], .agg #[.int .i64 st, .int .i64 ct]] w fun e w' => ∃ v1_ : Value, e = .returned (.tuple #[.agg #[.int .i64 size, v1_], .int .i64 0]) ∧ Kd.R (Kd.int .u64) 90 w' w.heap.size (fun _ => True) v1_ (ws.mapIdx fun i x => Go.bits .andNot .u64 x (mkW i st (wrap64 (st + ct)))) ∧ Below w.heap.size w w' := by
  have HR := Aside0.mk hr
  have HC := Aside0.mk hc
  have HE := Aside0.mk he0
  have HF := Aside0.mk hf
  have HM := Aside0.mk hm
  clear hr hc he0 hf hm
  go_enter Tryd.func66, Tryd.ntmps66
  go_wp2_with fail
  obtain ⟨W, hW, hB, hS, h0, h1, h2, h3⟩ := new4 w (Obj.cells #[Value.func (.func 67) #[] #[]] 104) (Obj.cells #[Value.int IntKind.i64 size, Value.slice A ws.length c] 26) (Obj.cells #[Value.int IntKind.i64 st, Value.int IntKind.i64 ct] 49) (Obj.cells #[Value.int IntKind.i64 0, Value.slice none 0 0] 26)
  rw [hW]
  have HB := Aside0.mk hB
  have B0 := Aside0.mk h0
  have B1 := Aside0.mk h1
  have B2 := Aside0.mk h2
  have B3 := Aside0.mk h3
  clear hW hB hS h0 h1 h2 h3
  refine (bCheck.calls 1 size _ c ws 0 W (Kd.C_below HR.out HB.out) HC.out HE.out).mono ?_
  rintro e w1 ⟨rfl, hb1⟩
  obtain ⟨c10, c11, f10, f11⟩ := cells2 (blk_of_below B1.out hb1)
  obtain ⟨c20, c21, f20, f21⟩ := cells2 (blk_of_below B2.out hb1)
  have B0' := Aside0.mk (blk_of_below B0.out hb1)
  have B1' := Aside0.mk (blk_of_below B1.out hb1)
  have B2' := Aside0.mk (blk_of_below B2.out hb1)
  have B3' := Aside0.mk (blk_of_below B3.out hb1)
  have HB1 := Aside0.mk (below_step HB.out hb1)
  clear hb1 f10 f11 f20 f21 B0 B1 B2 B3
  go_wp2_with fail
  refine (bfits.calls st ct size true w1 HF.out).mono ?_
  rintro e w2 ⟨rfl, hb2⟩
  have B0 := Aside0.mk (blk_of_below B0'.out hb2)
  have B1 := Aside0.mk (blk_of_below B1'.out hb2)
  have B2 := Aside0.mk (blk_of_below B2'.out hb2)
  have B3 := Aside0.mk (blk_of_below B3'.out hb2)
  have HB2 := Aside0.mk (below_step HB1.out hb2)
  clear hb2 c10 c11 c20 c21 B0' B1' B2' B3'
  obtain ⟨c10, c11, f10, f11⟩ := cells2 B1.out
  clear f10 f11
  go_wp2_with fail
  have hclone : Calls Tryd.prog 81 #[.slice A ws.length c] w2 fun e w' => ∃ A2 c2, e = .returned (.slice A2 ws.length c2) ∧ w'.ownsRow w2.heap.size 90 1 (.slice A2 ws.length c2) ws.length (nums .u64 ws) ∧ Below w2.heap.size w2 w' := by
    cases A with
    | none =>
      have h0 : ws.length = 0 := by
        rcases Nat.eq_zero_or_pos ws.length with h | h
        · exact h
        · obtain ⟨ad, e, _⟩ := HR.out.2.2 h
          cases e
      have hn : ws = [] := List.eq_nil_of_length_eq_zero h0
      subst hn
      exact (clone_nil c w2).mono fun e w' ⟨he, hw⟩ => ⟨none, 0, he, by rw [hw]; exact own_nil _ _ _ _, by rw [hw]; exact Below.refl _ _⟩
    | some ad =>
      refine (clone_row ad ws.length c ws w2 rfl (by omega) ?_).mono ?_
      · intro j hj
        obtain ⟨ad', e, h⟩ := (Kd.C_below HR.out HB2.out).2.2 (by omega)
        cases e
        obtain ⟨cs, hl, hk, hcell⟩ := h j _ (List.getElem?_eq_getElem hj)
        have hcs : cs = [Value.int .u64 ws[j]] := hk
        subst hcs
        have := hcell 0 _ rfl
        simpa [List.getD, hj, show (Kd.int .u64).sz = 1 from rfl] using this
      · rintro e w' ⟨v', he, ho, hb⟩
        obtain ⟨A2, c2, hv⟩ := own_slice ho
        subst hv
        exact ⟨A2, c2, he, ho, hb⟩
  refine hclone.mono ?_
  clear hclone
  rintro e w3 ⟨A2, c2, rfl, ho3, hb3⟩
  have HO3 := Aside0.mk ho3
  have HB3 := Aside0.mk hb3
  have HL : Aside0 (w.heap.size + 1 + 1 + 1 < w2.heap.size) := ⟨(Array.getElem?_eq_some_iff.1 B3.out).1⟩
  clear ho3 hb3 c10 c11
  go_wp2_with fail
  have hw64 : IntKind.i64.wrap (st + ct) = wrap64 (st + ct) := i64_w _
  obtain ⟨F, hF⟩ : ∃ F : Nat → Int → Int, F = fun (i : Nat) (x : Int) => Go.bits .andNot .u64 x (mkW i st (wrap64 (st + ct))) := ⟨_, rfl⟩
  have HFe := Aside0.mk hF
  have HW := Aside0.mk hw64
  clear hF hw64
  go_loopw [28] (fun i wr => ∃ k : Nat, k ≤ ws.length ∧ i = .int .i64 k ∧ wr.ownsRow w2.heap.size 90 1 (.slice A2 ws.length c2) ws.length (nums .u64 (part F ws k)) ∧ Below w2.heap.size w2 wr)
    (fun i _ => ws.length - (intOf i).toNat)
  case atStart => exact ⟨0, Nat.zero_le _, rfl, by rw [part_zero]; exact HO3.out, HB3.out⟩
  case round =>
    obtain ⟨k, hk, rfl, ho, hb⟩ := hrel
    have HO := Aside0.mk ho
    have HBr := Aside0.mk hb
    clear ho hb
    by_cases hlt : k < ws.length
    · obtain ⟨g, cap, hv, -⟩ := HO.out.form (by omega)
      injection hv with hA _ hcap
      subst hA
      subst hcap
      have hfn : wr.cell? ⟨w.heap.size, 0, none⟩ = some (.func (.func 67) #[] #[]) := (blk_cell ((HBr.out.block _ (by have := HL.out; omega)).trans B0.out) 0).trans rfl
      obtain ⟨c20, c21, -, -⟩ := cells2 ((HBr.out.block _ (by have := HL.out; omega)).trans B2.out)
      have hxk : wr.cell? ⟨g, k, none⟩ = some (.int .u64 (ws.getD k 0)) := by
        rw [HO.out.cellAt k (by omega)]
        simp [nums, part_at F ws k hlt]
      have hxf : wr.frozen? ⟨g, k, none⟩ = false := HO.out.frozenAt k
      obtain ⟨x, hx⟩ : ∃ x, x = ws.getD k 0 := ⟨_, rfl⟩
      rw [← hx] at hxk
      have HX := Aside0.mk hx
      clear hx
      go_wp2_with fail
      go_still_tail 19, (by kernel_rfl)
      refine wpStill_step (fun K hK => ?_)
      go_simp
      rw [HW.out]
      refine ⟨_, bmask.same k st _ _ _ (HM.out k hlt), hK _ ?_⟩
      clear hK K
      refine wpStill_step (fun K hK => ?_)
      go_simp
      refine ⟨_, clear_op _ _ _, hK _ ?_⟩
      clear hK K
      repeat still_step
      refine wpStill_nil ?_
      change wpList _ _ _ _ _ wr.drew
      have hd1 : wr.drew.cell? ⟨g, k, none⟩ = some (.int .u64 x) := hxk
      have hd2 : wr.drew.frozen? ⟨g, k, none⟩ = false := hxf
      have hst := (HO.out.drew).stored k (.int .u64 (Go.bits .andNot .u64 x (mkW k st (wrap64 (st + ct)))))
      obtain ⟨hst1, hst2⟩ := hst
      have HO2 : Aside0 ((wr.drew.setCell ⟨g, k, none⟩ (.int .u64 (Go.bits .andNot .u64 x (mkW k st (wrap64 (st + ct)))))).ownsRow w2.heap.size 90 1 (.slice (some ⟨g, 0, none⟩) ws.length c2) ws.length (nums .u64 (part F ws (k + 1)))) := ⟨by
        have e : (nums .u64 (part F ws k)).set k (.int .u64 (Go.bits .andNot .u64 x (mkW k st (wrap64 (st + ct))))) = nums .u64 (part F ws (k + 1)) := by
          rw [← part_succ F ws k hlt, HFe.out, HX.out]
          simp [nums, List.map_set]
        rw [← e]; exact hst1⟩
      have HB2' : Aside0 (Below w2.heap.size w2 (wr.drew.setCell ⟨g, k, none⟩ (.int .u64 (Go.bits .andNot .u64 x (mkW k st (wrap64 (st + ct))))))) := ⟨(below_drew1 HBr.out).setCell (p := ⟨g, k, none⟩) (own_base HO.out g rfl) _⟩
      clear hst1 hst2 hxk hxf
      go_wp2
      go_roundw
      case rel => exact ⟨k + 1, by omega, by go_num, HO2.out, HB2'.out⟩
      case measure => simp [intOf]; omega
    · obtain rfl : k = ws.length := by omega
      obtain ⟨c10, c11, -, -⟩ := cells2 ((HBr.out.block _ (by have := HL.out; omega)).trans B1.out)
      obtain ⟨c30, c31, f30, f31⟩ := cells2 ((HBr.out.block _ (by have := HL.out; omega)).trans B3.out)
      go_wp2
      refine bodyPost_ret (v := .tuple #[.agg #[.int .i64 size, .slice A2 ws.length c2], .int .i64 0]) ?_ rfl ⟨_, rfl, ?_, ?_⟩
      · simp [results, Tryd.results66, go_sem, *]
      · have hrow : wr.ownsRow w.heap.size 90 1 (.slice A2 ws.length c2) (ws.mapIdx F).length (encs (Value.int .u64) (ws.mapIdx F)) := by
          have := own_weaken HO.out HB2.out.size
          rw [part_all] at this
          rw [List.length_mapIdx]
          exact this
        rw [← HFe.out]
        exact Kd.R_mono (Kd.R_far (p := ⟨w.heap.size + 1 + 1 + 1, 1, none⟩) (Kd.R_far (p := ⟨w.heap.size + 1 + 1 + 1, 0, none⟩) (Kd.R_types (Kd.R_of_own (ok := fun _ => True) hrow (fun _ _ => trivial)) ((HBr.out.block _ (by have := HL.out; omega)).trans B3.out) (by decide)) (fun k hk => hk.2) _) (fun k hk => hk.2) _) (fun _ _ => trivial)
      · exact ((HB2.out.trans (HBr.out.mono HB2.out.size)).setCell (p := ⟨w.heap.size + 1 + 1 + 1, 0, none⟩) (show w.heap.size ≤ w.heap.size + 1 + 1 + 1 by omega) _).setCell (p := ⟨w.heap.size + 1 + 1 + 1, 1, none⟩) (show w.heap.size ≤ w.heap.size + 1 + 1 + 1 by omega) _
theorem clear_apply (size : Int) (A : Option Addr) (c : Nat) (ws : List Int) (st ct : Int) (w : World) (hr : Kd.C (Kd.int .u64) w A ws.length ws) (hc : ws.length ≤ c) :
    Calls Tryd.prog 66 #[.agg #[.func (.func 67) #[] #[]], .agg #[.int .i64 size, .slice A ws.length c], .agg #[.int .i64 st, .int .i64 ct]] w fun e w' => ∃ v1_ : Value, e = .returned (.tuple #[.agg #[.int .i64 (bChange .andNot size ws st ct).1, v1_], .int .i64 (bChange .andNot size ws st ct).2.2]) ∧ Kd.R (Kd.int .u64) 90 w' w.heap.size (fun _ => True) v1_ (bChange .andNot size ws st ct).2.1 ∧ Below w.heap.size w w' := by
  by_cases hg : Good size ws
  · by_cases hf : Fits st ct size
    · have e : bChange .andNot size ws st ct = (size, ws.mapIdx fun i x => Go.bits .andNot .u64 x (mkW i st (wrap64 (st + ct))), 0) := by
        unfold bChange
        rw [if_pos ((good_iff _ _).2 hg), fit_eq, if_pos (by simpa using hf)]
      rw [e]
      have hb := hf.bounds hg.lo hg.hi
      have hw : wrap64 (st + ct) = st + ct := w64 _ (by have := hg.hi; omega) (by have := hg.hi; omega)
      have hl := hg.len_le
      have hh := hg.hi
      exact clear_ok size A c ws st ct w hr hc (good_yes hg 0) (by rw [fits_eq]; simp [hf]) (by omega) (fun k hk => by rw [hw]; exact mask_some k st (st + ct) (by omega) (by omega) (by omega) (by omega) (by omega))
    · have e : bChange .andNot size ws st ct = (0, [], 2) := by
        unfold bChange
        rw [if_pos ((good_iff _ _).2 hg), fit_eq, if_neg (by simpa using hf)]
      rw [e]
      exact (apply_out size A c ws st ct w hr hc (good_yes hg 0) (by rw [fits_eq]; simp [hf]) _).mono fun e w' ⟨he, hb⟩ => ⟨_, he, Kd.R_nil _ _ _ _ _, hb⟩
  · have e : bChange .andNot size ws st ct = (0, [], 3) := by
      unfold bChange
      rw [if_neg (fun h => hg ((good_iff _ _).1 h))]
    rw [e]
    exact (apply_bad size A c ws st ct w hr hc 3 (good_no hg 0) rfl _).mono fun e w' ⟨he, hb⟩ => ⟨_, he, Kd.R_nil _ _ _ _ _, hb⟩
set_option maxHeartbeats 2000000 in
set_option maxRecDepth 100000 in
theorem bClear.calls (a0_0 : Int) (A0_1 : Option Addr) (c0_1 : Nat) (l0_1 : List Int) (a1_0 : Int) (a1_1 : Int) (r1 : Int) (r2 : List Int) (r3 : Int) (w : World) (hr0_1 : Kd.C (Kd.int .u64) w A0_1 l0_1.length l0_1) (hc0_1 : l0_1.length ≤ c0_1) (h : bClear.f a0_0 l0_1 a1_0 a1_1 = some (r1, r2, r3)) :
  Calls Tryd.prog 45 #[.agg #[.int .i64 a0_0, .slice A0_1 l0_1.length c0_1], .agg #[.int .i64 a1_0, .int .i64 a1_1]] w fun e w' => ∃ v1_ : Value, e = .returned (.tuple #[.agg #[.int .i64 r1, v1_], .int .i64 r3]) ∧ Kd.R (Kd.int .u64) 90 w' w.heap.size (fun _ => True) v1_ r2 ∧ Below w.heap.size w w' := by
  obtain ⟨rfl, rfl, rfl⟩ : (bChange .andNot a0_0 l0_1 a1_0 a1_1).1 = r1 ∧ (bChange .andNot a0_0 l0_1 a1_0 a1_1).2.1 = r2 ∧ (bChange .andNot a0_0 l0_1 a1_0 a1_1).2.2 = r3 := by
    have := Option.some.inj h
    rw [this]; exact ⟨rfl, rfl, rfl⟩
  have HR := Aside0.mk hr0_1
  have HC := Aside0.mk hc0_1
  have HA := fun (W : World) (hb : Below w.heap.size w W) => clear_apply a0_0 A0_1 c0_1 l0_1 a1_0 a1_1 W (Kd.C_below HR.out hb) HC.out
  generalize bChange .andNot a0_0 l0_1 a1_0 a1_1 = q at HA ⊢
  have HQ := Aside0.mk HA
  clear hr0_1 hc0_1 h HA
  go_enter Tryd.func45, Tryd.ntmps45
  go_wp2_with fail
  obtain ⟨W, hW, hB, -, -, -, h2⟩ := new3 w (Obj.cells #[Value.int IntKind.i64 a0_0, Value.slice A0_1 l0_1.length c0_1] 26) (Obj.cells #[Value.int IntKind.i64 a1_0, Value.int IntKind.i64 a1_1] 49) (Obj.cells #[Value.int IntKind.i64 0, Value.slice none 0 0] 26)
  rw [hW]
  have HB := Aside0.mk hB
  have B2 := Aside0.mk h2
  clear hW hB h2
  refine (HQ.out W HB.out).mono ?_
  rintro e w1 ⟨v1, rfl, hR, hb1⟩
  obtain ⟨A2, c2, rfl⟩ : ∃ A2 c2, v1 = .slice A2 q.2.1.length c2 := by
    obtain ⟨inner, ho, -⟩ := hR.2
    exact own_slice ho
  obtain ⟨c30, c31, f30, f31⟩ := cells2 (blk_of_below B2.out hb1)
  have HB1 := Aside0.mk (below_step HB.out hb1)
  have HRR := Aside0.mk (Kd.R_types (Kd.R_lower hR HB.out.size) (blk_of_below B2.out hb1) (by decide))
  clear hb1 hR
  go_wp2_with fail
  refine bodyPost_ret (v := .tuple #[.agg #[.int .i64 q.1, .slice A2 q.2.1.length c2], .int .i64 q.2.2]) ?_ rfl ⟨_, rfl, ?_, ?_⟩
  · simp [results, Tryd.results45, go_sem, *]
  · exact Kd.R_mono (Kd.R_far (p := ⟨w.heap.size + 1 + 1, 1, none⟩) (Kd.R_far (p := ⟨w.heap.size + 1 + 1, 0, none⟩) HRR.out (fun k hk => hk.2) _) (fun k hk => hk.2) _) (fun _ _ => trivial)
  · exact (HB1.out.setCell (p := ⟨w.heap.size + 1 + 1, 0, none⟩) (show w.heap.size ≤ w.heap.size + 1 + 1 by omega) _).setCell (p := ⟨w.heap.size + 1 + 1, 1, none⟩) (show w.heap.size ≤ w.heap.size + 1 + 1 by omega) _
end Go.Proofs.YtnjbdcnefienhaaDoor.P

namespace Go.Proofs.YtnjbdcnefienhaaDoor.P
open Go.RowKit Go.Proofs.YtnjbdcnefienhaaDoorW.PrintWords Go.Proofs.YtnjbdcnefienhaaDoorW.PrintLast Go.Proofs.YtnjbdcnefienhaaDoorW.PrintMore
def slices_Clone_int_int.f (l : List Int) : Option (List Int) := if l.length ≤ 1000000 then some l else none
theorem clone_nil_int (c : Nat) (w : World) : Calls Tryd.prog 44 #[.slice none 0 c] w fun e w' => e = .returned (.slice none 0 0) ∧ w' = w := by
  have q : ∀ (w : World) (a : Option Addr) (n c n' c' : Nat), (binOp .eql 23 (.slice a n c) (.slice none n' c')).run Tryd.prog w = .ok (.bool a.isNone) w := fun w a n c n' c' => Lib.run_eql_slice_nil w _ _ a n c n' c' Tryd.underlying23
  go_enter Tryd.func44, Tryd.ntmps44
  go_wp2
  go_ret
  exact ⟨rfl, rfl⟩
theorem info_int : (Tryd.prog.info? 3).map (fun i => (i.zero, i.size, i.bytes)) = some (some (.int .i64 0), 1, 8) := by kernel_rfl
set_option maxHeartbeats 2000000 in
set_option maxRecDepth 100000 in
theorem clone_row_int (ad : Addr) (n c : Nat) (zs : List Int) (w : World) (hz : zs.length = n) (hbig : n * 8 ≤ 140737488355328) (hc0 : ∀ j, j < n → w.cell? (ad.add j) = some (.int .i64 (zs.getD j 0))) :
    Calls Tryd.prog 44 #[.slice (some ad) n c] w fun e w' => ∃ v', e = .returned v' ∧ w'.ownsRow w.heap.size 3 1 v' n (nums .i64 zs) ∧ Below w.heap.size w w' := by
  obtain ⟨i0, hi, hz0, hz1, hz2⟩ := info_parts info_int
  have q : ∀ (w : World) (a : Option Addr) (n c n' c' : Nat), (binOp .eql 23 (.slice a n c) (.slice none n' c')).run Tryd.prog w = .ok (.bool a.isNone) w := fun w a n c n' c' => Lib.run_eql_slice_nil w _ _ a n c n' c' Tryd.underlying23
  have A : Aside0 (∀ j, j < n → w.cell? (ad.add j) = some (.int .i64 (zs.getD j 0))) := ⟨hc0⟩
  have hzl := Aside0.mk hz
  clear hc0 hz
  go_enter Tryd.func44, Tryd.ntmps44
  go_wp2_with (at_builtin; refine wpList_append_own _ rfl _ _ 23 rfl w.heap.size 3 i0 (.int .i64 0) 1 8 Tryd.underlying23 hi hz0 hz1 hz2 rfl (by decide) _ _ _ rfl (World.ownsRow_made w #[] 0 (Nat.le_refl _) (Nat.zero_le _) rfl) ad n c (nums .i64 zs) rfl ?qc1 ?qc2 ?qc3 ?qc4 ?qc5 ?qc6 ?_)
  case qc1 => rw [nums_length, hzl.out]; omega
  case qc2 =>
    intro j u hj
    have hjn : j < n := by
      have := (List.getElem?_eq_some_iff.1 hj).1
      rw [nums_length, hzl.out] at this
      exact this
    refine Lib.cell?_alloc_some _ ?_
    rw [A.out j hjn]
    have e : (nums .i64 zs)[j]? = some (Value.int .i64 (zs.getD j 0)) := by
      have := hzl.out
      simp [nums, List.getD, List.getElem?_eq_getElem (show j < zs.length by omega)]
    rw [e] at hj
    exact hj
  case qc3 => intro u hu; obtain ⟨x, _, rfl⟩ := List.mem_map.1 hu; rfl
  case qc4 => unfold maxLen; omega
  case qc5 => omega
  case qc6 => simp
  intro v' w1 hown hgrow _
  go_wp2
  go_ret
  refine ⟨v', rfl, by simpa using hown, ?_⟩
  exact ((Below.refl _ w).alloc (Nat.le_refl _) _).grown hgrow (by simp) (by intro k hk; simp [Value.ownBlock] at hk; omega)
theorem slices_Clone_int_int.calls (A0 : Option Addr) (c0 : Nat) (l0 : List Int) (r : List Int) (w : World) (hr0 : Kd.C (Kd.int .i64) w A0 l0.length l0) (hc0 : l0.length ≤ c0) (h : slices_Clone_int_int.f l0 = some r) :
  Calls Tryd.prog 44 #[.slice A0 l0.length c0] w fun e w' => ∃ v0_ : Value, e = .returned (v0_) ∧ Kd.R (Kd.int .i64) 3 w' w.heap.size (fun _ => True) v0_ r ∧ Below w.heap.size w w' := by
  unfold slices_Clone_int_int.f at h
  split at h
  · rename_i hlen
    obtain rfl := Option.some.inj h
    cases A0 with
    | none =>
      have h0 : l0.length = 0 := by
        rcases Nat.eq_zero_or_pos l0.length with h | h
        · exact h
        · obtain ⟨ad, e, _⟩ := hr0.2.2 h
          cases e
      have hn : l0 = [] := List.eq_nil_of_length_eq_zero h0
      subst hn
      exact (clone_nil_int c0 w).mono fun e w' ⟨he, hw⟩ => ⟨_, he, Kd.R_nil _ _ _ _ _, by rw [hw]; exact Below.refl _ _⟩
    | some ad =>
      refine (clone_row_int ad l0.length c0 l0 w rfl (by omega) ?_).mono ?_
      · intro j hj
        obtain ⟨ad', e, h⟩ := hr0.2.2 (by omega)
        cases e
        obtain ⟨cs, hl, hk, hcell⟩ := h j _ (List.getElem?_eq_getElem hj)
        have hcs : cs = [Value.int .i64 l0[j]] := hk
        subst hcs
        have := hcell 0 _ rfl
        simpa [List.getD, hj, show (Kd.int .i64).sz = 1 from rfl] using this
      · rintro e w' ⟨v', he, ho, hb⟩
        exact ⟨v', he, Kd.R_of_own (ok := fun _ => True) ho (fun _ _ => trivial), hb⟩
  · cases h
def slices_Clone_byte_byte.f (l : List Int) : Option (List Int) := if l.length ≤ 1000000 then some l else none
theorem clone_nil_byte (c : Nat) (w : World) : Calls Tryd.prog 59 #[.slice none 0 c] w fun e w' => e = .returned (.slice none 0 0) ∧ w' = w := by
  have q : ∀ (w : World) (a : Option Addr) (n c n' c' : Nat), (binOp .eql 37 (.slice a n c) (.slice none n' c')).run Tryd.prog w = .ok (.bool a.isNone) w := fun w a n c n' c' => Lib.run_eql_slice_nil w _ _ a n c n' c' Tryd.underlying37
  go_enter Tryd.func59, Tryd.ntmps59
  go_wp2
  go_ret
  exact ⟨rfl, rfl⟩
theorem info_byte : (Tryd.prog.info? 5).map (fun i => (i.zero, i.size, i.bytes)) = some (some (.int .u8 0), 1, 1) := by kernel_rfl
set_option maxHeartbeats 2000000 in
set_option maxRecDepth 100000 in
theorem clone_row_byte (ad : Addr) (n c : Nat) (zs : List Int) (w : World) (hz : zs.length = n) (hbig : n * 1 ≤ 140737488355328) (hc0 : ∀ j, j < n → w.cell? (ad.add j) = some (.int .u8 (zs.getD j 0))) :
    Calls Tryd.prog 59 #[.slice (some ad) n c] w fun e w' => ∃ v', e = .returned v' ∧ w'.ownsRow w.heap.size 5 1 v' n (nums .u8 zs) ∧ Below w.heap.size w w' := by
  obtain ⟨i0, hi, hz0, hz1, hz2⟩ := info_parts info_byte
  have q : ∀ (w : World) (a : Option Addr) (n c n' c' : Nat), (binOp .eql 37 (.slice a n c) (.slice none n' c')).run Tryd.prog w = .ok (.bool a.isNone) w := fun w a n c n' c' => Lib.run_eql_slice_nil w _ _ a n c n' c' Tryd.underlying37
  have A : Aside0 (∀ j, j < n → w.cell? (ad.add j) = some (.int .u8 (zs.getD j 0))) := ⟨hc0⟩
  have hzl := Aside0.mk hz
  clear hc0 hz
  go_enter Tryd.func59, Tryd.ntmps59
  go_wp2_with (at_builtin; refine wpList_append_own _ rfl _ _ 37 rfl w.heap.size 5 i0 (.int .u8 0) 1 1 Tryd.underlying37 hi hz0 hz1 hz2 rfl (by decide) _ _ _ rfl (World.ownsRow_made w #[] 0 (Nat.le_refl _) (Nat.zero_le _) rfl) ad n c (nums .u8 zs) rfl ?qc1 ?qc2 ?qc3 ?qc4 ?qc5 ?qc6 ?_)
  case qc1 => rw [nums_length, hzl.out]; omega
  case qc2 =>
    intro j u hj
    have hjn : j < n := by
      have := (List.getElem?_eq_some_iff.1 hj).1
      rw [nums_length, hzl.out] at this
      exact this
    refine Lib.cell?_alloc_some _ ?_
    rw [A.out j hjn]
    have e : (nums .u8 zs)[j]? = some (Value.int .u8 (zs.getD j 0)) := by
      have := hzl.out
      simp [nums, List.getD, List.getElem?_eq_getElem (show j < zs.length by omega)]
    rw [e] at hj
    exact hj
  case qc3 => intro u hu; obtain ⟨x, _, rfl⟩ := List.mem_map.1 hu; rfl
  case qc4 => unfold maxLen; omega
  case qc5 => omega
  case qc6 => simp
  intro v' w1 hown hgrow _
  go_wp2
  go_ret
  refine ⟨v', rfl, by simpa using hown, ?_⟩
  exact ((Below.refl _ w).alloc (Nat.le_refl _) _).grown hgrow (by simp) (by intro k hk; simp [Value.ownBlock] at hk; omega)
theorem slices_Clone_byte_byte.calls (A0 : Option Addr) (c0 : Nat) (l0 : List Int) (r : List Int) (w : World) (hr0 : Kd.C (Kd.int .u8) w A0 l0.length l0) (hc0 : l0.length ≤ c0) (h : slices_Clone_byte_byte.f l0 = some r) :
  Calls Tryd.prog 59 #[.slice A0 l0.length c0] w fun e w' => ∃ v0_ : Value, e = .returned (v0_) ∧ Kd.R (Kd.int .u8) 5 w' w.heap.size (fun _ => True) v0_ r ∧ Below w.heap.size w w' := by
  unfold slices_Clone_byte_byte.f at h
  split at h
  · rename_i hlen
    obtain rfl := Option.some.inj h
    cases A0 with
    | none =>
      have h0 : l0.length = 0 := by
        rcases Nat.eq_zero_or_pos l0.length with h | h
        · exact h
        · obtain ⟨ad, e, _⟩ := hr0.2.2 h
          cases e
      have hn : l0 = [] := List.eq_nil_of_length_eq_zero h0
      subst hn
      exact (clone_nil_byte c0 w).mono fun e w' ⟨he, hw⟩ => ⟨_, he, Kd.R_nil _ _ _ _ _, by rw [hw]; exact Below.refl _ _⟩
    | some ad =>
      refine (clone_row_byte ad l0.length c0 l0 w rfl (by omega) ?_).mono ?_
      · intro j hj
        obtain ⟨ad', e, h⟩ := hr0.2.2 (by omega)
        cases e
        obtain ⟨cs, hl, hk, hcell⟩ := h j _ (List.getElem?_eq_getElem hj)
        have hcs : cs = [Value.int .u8 l0[j]] := hk
        subst hcs
        have := hcell 0 _ rfl
        simpa [List.getD, hj, show (Kd.int .u8).sz = 1 from rfl] using this
      · rintro e w' ⟨v', he, ho, hb⟩
        exact ⟨v', he, Kd.R_of_own (ok := fun _ => True) ho (fun _ _ => trivial), hb⟩
  · cases h
end Go.Proofs.YtnjbdcnefienhaaDoor.P

namespace Go.Proofs.YtnjbdcnefienhaaDoor.P
open Go.RowKit Go.Proofs.YtnjbdcnefienhaaDoorW.PrintWords Go.Proofs.YtnjbdcnefienhaaDoorW.PrintLast Go.Proofs.YtnjbdcnefienhaaDoorW.PrintMore
attribute [local go_sem] max2_int min2_int max_two min_two max_three min_three max_four min_four   -- for this text's walks alone
set_option linter.unusedVariables false
set_option linter.unusedSimpArgs false
mutual
def iCheck.j0 : Nat → Bool → Int → Int → List Int → Int → List Int → Option (Int)
 | 0, _, _, _, _, _, _ => none
 | k + 1, x36, x125000, x125001, x125002, x125003, x125004 => if x36 = true then (some 3) else (iCheck.l0 k x125002 (x125002.length : Int) 0 x125000 x125001 x125002 x125003 x125004)
def iCheck.l0 : Nat → List Int → Int → Int → Int → Int → List Int → Int → List Int → Option (Int)
 | 0, _, _, _, _, _, _, _, _ => none
 | k + 1, x38, x39, x40, x125000, x125001, x125002, x125003, x125004 => if x40 < x39 then (if 0 ≤ x40 then (if x40 < (x38.length : Int) then (if (rd x38 x40) < 0 then (some 3) else (if (rd x38 x40) > 4096 then (some 3) else (if (rd x38 x40) > 0 then ((bGet.f k x125003 x125004 x40).bind fun t129 => (if t129 = true then (iCheck.l0 k x38 x39 (wrap64 (x40 + 1)) x125000 x125001 x125002 x125003 x125004) else (some 3))) else (iCheck.l0 k x38 x39 (wrap64 (x40 + 1)) x125000 x125001 x125002 x125003 x125004)))) else (none)) else (none)) else (some 0)
end
def iCheck.f (k : Nat) (a0_0 : Int) (a0_1 : Int) (l0_2 : List Int) (a0_3 : Int) (l0_4 : List Int) : Option (Int) := (isizes.f a0_0 a0_1).bind fun t125 => (if t125 = true then ((igranules.f a0_0 a0_1).bind fun t126 => (if (l0_2.length : Int) = t126 then ((bCheck.f k a0_3 l0_4).bind fun t127 => (if t127 = 0 then (iCheck.j0 k (a0_3 != (l0_2.length : Int)) a0_0 a0_1 l0_2 a0_3 l0_4) else (iCheck.j0 k true a0_0 a0_1 l0_2 a0_3 l0_4))) else (iCheck.j0 k true a0_0 a0_1 l0_2 a0_3 l0_4))) else (iCheck.j0 k true a0_0 a0_1 l0_2 a0_3 l0_4))
def iCheck.T1 : Bool × List (List Nat × List Nat) := (true, [([], []), ([0], [0]), ([], []), ([2], [2]), ([1, 3], [1, 3]), ([4], [4]), ([5, 4], [5]), ([6], [6]), ([7, 6], [6, 7]), ([8, 6], [6, 8]), ([6], [6]), ([10, 6], [6, 10]), ([6], [6]), ([12, 6], [6, 12]), ([11, 13, 6, 6], [6, 11, 13]), ([9, 14, 6], [6, 9, 14]), ([6, 15], [6, 15]), ([16, 14], [16]), ([17], [17]), ([18, 17], [17, 18]), ([19, 17, 17], [17, 19]), ([20, 17], [17, 20]), ([17, 21], [17, 21]), ([22, 20], [22]), ([23], [23]), ([24, 23], [23, 24]), ([25, 23], [23, 25]), ([23], [23]), ([27, 23], [23, 27]), ([28, 23], [23, 28]), ([26, 29, 23], [23, 26, 29]), ([23, 30], [23, 30])])
def iCheck.B1 : List Nat := [0, 1, 0, 4, 15, 31, 63, 127, 255, 511, 127, 1151, 127, 4223, 15487, 32767, 65535, 131071, 262143, 524287, 1048575, 2097151, 4194303, 8388607, 16777215, 33554431, 67108863, 16777215, 150994943, 419430399, 1073741823, 2147483647]
theorem iCheck.tab1 : rtab .any (opsOf Tryd.f33 1) = iCheck.T1 := by kernel_rfl
theorem iCheck.bits1 : waitsOk iCheck.T1.2 iCheck.B1 = true := by kernel_rfl
set_option maxHeartbeats 8000000 in
set_option maxRecDepth 100000 in
theorem iCheck.calls (k : Nat) (a0_0 : Int) (a0_1 : Int) (A0_2 : Option Addr) (c0_2 : Nat) (l0_2 : List Int) (a0_3 : Int) (A0_4 : Option Addr) (c0_4 : Nat) (l0_4 : List Int) (r : Int) (w : World) (hr0_2 : Kd.C (Kd.int .i64) w A0_2 l0_2.length l0_2) (hc0_2 : l0_2.length ≤ c0_2) (hr0_4 : Kd.C (Kd.int .u64) w A0_4 l0_4.length l0_4) (hc0_4 : l0_4.length ≤ c0_4) (h : iCheck.f k a0_0 a0_1 l0_2 a0_3 l0_4 = some r) :
  Calls Tryd.prog 33 #[.agg #[.int .i64 a0_0, .int .i64 a0_1, .slice A0_2 l0_2.length c0_2, .int .i64 a0_3, .slice A0_4 l0_4.length c0_4]] w fun e w' => e = .returned (.int .i64 r) ∧ Below w.heap.size w w' := by
 have hu28 := Tryd.underlying28
 have hu26 := Tryd.underlying26
 have HR0_2 := A0_ hr0_2
 have HC0_2 := A0_ hc0_2
 clear hr0_2 hc0_2
 have HR0_4 := A0_ hr0_4
 have HC0_4 := A0_ hc0_4
 clear hr0_4 hc0_4
 have HB := A0_ (Below.refl w.heap.size w)
 have H : ((isizes.f a0_0 a0_1).bind fun t125 => (if t125 = true then ((igranules.f a0_0 a0_1).bind fun t126 => (if (l0_2.length : Int) = t126 then ((bCheck.f k a0_3 l0_4).bind fun t127 => (if t127 = 0 then (iCheck.j0 k (a0_3 != (l0_2.length : Int)) a0_0 a0_1 l0_2 a0_3 l0_4) else (iCheck.j0 k true a0_0 a0_1 l0_2 a0_3 l0_4))) else (iCheck.j0 k true a0_0 a0_1 l0_2 a0_3 l0_4))) else (iCheck.j0 k true a0_0 a0_1 l0_2 a0_3 l0_4))) = some r := h
 clear h
 have HC2 := A0_ H
 clear H
 go_enter Tryd.func33, Tryd.ntmps33
 go_upto_region 1 with (first | ((with_reducible refine gate_dst (N := 1) rfl ?_); (try (refine gate_guard (by rfl) ?_; dsimp only)); refine box_event ?hg (N := 1) ?hd (cs := #[.int .i64 a0_0, .int .i64 a0_1, .slice A0_2 l0_2.length c0_2, .int .i64 a0_3, .slice A0_4 l0_4.length c0_4]) (t := 28) ?hr ?_; (case hd => rfl); (case hg => rfl); (case hr => first | (go_simp; done) | (go_simp; rfl)); intro gb124 hg w3 hbox hb; have n0_ := A0_ (below_step (by repeat (first | (with_reducible first | exact HB.out | apply Al_ | apply Dn_ | apply D1_) | exact HB.out)) hb); have n1_ := A0_ (hbox); have n2_ := A0_ ((by rw [hg]; exact (below_size (by repeat (first | (with_reducible first | exact HB.out | apply Al_ | apply Dn_ | apply D1_) | exact HB.out))) : w.heap.size ≤ gb124)); have n3_ := A0_ ((by rw [hg]; exact (below_size (by repeat (first | (with_reducible first | exact HB.out | apply Al_ | apply Dn_ | apply D1_) | exact HB.out))) : w.heap.size ≤ gb124)); clear HB; have HB := n0_; have BK124 := n1_; have GW124 := n2_; have GE124 := n3_; clear n0_ n1_ n2_ n3_ hb hbox hg))
 (try simp only [Act.put, Sa_, Sz_, Ss_])
 go_cut [36] (fun v36 wc => ∃ (kq : Nat) (x36_1 : Bool), v36 = .bool x36_1 ∧ Aside0 (iCheck.j0 kq x36_1 a0_0 a0_1 l0_2 a0_3 l0_4 = some r) ∧ Aside0 (kq ≤ k) ∧ Aside0 (wc.heap[gb124]? = some (.cells #[.int .i64 a0_0, .int .i64 a0_1, (.slice A0_2 l0_2.length c0_2), .int .i64 a0_3, (.slice A0_4 l0_4.length c0_4)] 28 (0, 0))) ∧ Aside0 (Below w.heap.size w wc))
 case first =>
  have H := HC2.out
  clear HC2
  replace H := Option.bind_eq_some_iff.mp H
  obtain ⟨t125, A40, H⟩ := H
  replace H : (if t125 = true then ((igranules.f a0_0 a0_1).bind fun t126 => (if (l0_2.length : Int) = t126 then ((bCheck.f k a0_3 l0_4).bind fun t127 => (if t127 = 0 then (iCheck.j0 k (a0_3 != (l0_2.length : Int)) a0_0 a0_1 l0_2 a0_3 l0_4) else (iCheck.j0 k true a0_0 a0_1 l0_2 a0_3 l0_4))) else (iCheck.j0 k true a0_0 a0_1 l0_2 a0_3 l0_4))) else (iCheck.j0 k true a0_0 a0_1 l0_2 a0_3 l0_4)) = some r := H
  have A4 := A0_ A40
  clear A40
  by_cases c5 : t125 = true
  ·
   subst c5
   have H1 : ((igranules.f a0_0 a0_1).bind fun t126 => (if (l0_2.length : Int) = t126 then ((bCheck.f k a0_3 l0_4).bind fun t127 => (if t127 = 0 then (iCheck.j0 k (a0_3 != (l0_2.length : Int)) a0_0 a0_1 l0_2 a0_3 l0_4) else (iCheck.j0 k true a0_0 a0_1 l0_2 a0_3 l0_4))) else (iCheck.j0 k true a0_0 a0_1 l0_2 a0_3 l0_4))) = some r := by rw [if_pos rfl] at H; exact H
   clear H
   have H := H1
   clear H1
   replace H := Option.bind_eq_some_iff.mp H
   obtain ⟨t126, A60, H⟩ := H
   replace H : (if (l0_2.length : Int) = t126 then ((bCheck.f k a0_3 l0_4).bind fun t127 => (if t127 = 0 then (iCheck.j0 k (a0_3 != (l0_2.length : Int)) a0_0 a0_1 l0_2 a0_3 l0_4) else (iCheck.j0 k true a0_0 a0_1 l0_2 a0_3 l0_4))) else (iCheck.j0 k true a0_0 a0_1 l0_2 a0_3 l0_4)) = some r := H
   have A6 := A0_ A60
   clear A60
   by_cases c7 : (l0_2.length : Int) = t126
   ·
    rw [if_pos c7] at H
    have c7b0 : ((l0_2.length : Int) == t126) = true := beq_iff_eq.mpr c7
    have c7b1 : ((l0_2.length : Int) != t126) = false := bne_eq_false_iff_eq.mpr c7
    clear c7
    (first | rw [c7b0] | (simp only [i64_w, i32_w]; rw [c7b0]) | skip)
    replace H := Option.bind_eq_some_iff.mp H
    obtain ⟨t127, A80, H⟩ := H
    replace H : (if t127 = 0 then (iCheck.j0 k (a0_3 != (l0_2.length : Int)) a0_0 a0_1 l0_2 a0_3 l0_4) else (iCheck.j0 k true a0_0 a0_1 l0_2 a0_3 l0_4)) = some r := H
    have A8 := A0_ A80
    clear A80
    by_cases c9 : t127 = 0
    ·
     rw [if_pos c9] at H
     have c9b0 : (t127 == 0) = true := beq_iff_eq.mpr c9
     have c9b1 : (t127 != 0) = false := bne_eq_false_iff_eq.mpr c9
     clear c9
     have H' := A0_ H
     clear H
     try go_wp2
     have n0_ := A0_ (blk_drew BK124.out)
     have n1_ := A0_ (D1_ HB.out)
     clear BK124
     clear HB
     have BK124 := n0_
     have HB := n1_
     clear n0_ n1_
     refine start_ (n := 32) (S := fun w' => w'.cell? ⟨gb124, 0, none⟩ = some (.int .i64 a0_0) ∧ w'.cell? ⟨gb124, 1, none⟩ = some (.int .i64 a0_1) ∧ w'.cell? ⟨gb124, 2, none⟩ = some (.slice A0_2 l0_2.length c0_2) ∧ w'.cell? ⟨gb124, 3, none⟩ = some (.int .i64 a0_3) ∧ w'.cell? ⟨gb124, 4, none⟩ = some (.slice A0_4 l0_4.length c0_4)) (ds := []) #[false, false, false, false, false, false, false, false, false, false, false, false, false, false, false, false, false, false, false, false, false, false, false, false, false, false, false, false, false, false, false, false] (by kernel_rfl) rfl rfl ⟨(Bc_ BK124.out 0).trans rfl, (Bc_ BK124.out 1).trans rfl, (Bc_ BK124.out 2).trans rfl, (Bc_ BK124.out 3).trans rfl, (Bc_ BK124.out 4).trans rfl⟩ (fun hHeld => ?_); refine with_tabW iCheck.tab1 iCheck.bits1 (fun HT_ HW_ => ?_)
     generalize w3.drew = w10 at BK124 HB hHeld ⊢
     refine pure_ (i := 0) (N := some 5) (v := ?_) (a' := ?_) #[true, false, false, false, false, false, false, false, false, false, false, false, false, false, false, false, false, false, false, false, false, false, false, false, false, false, false, false, false, false, false, false] rfl rfl (any_of HT_.out (by kernel_rfl)) (fun _ _ _ h => h) (Or.inl ⟨by rfl, ?_⟩) ?_ ?_
     rotate_left
     ·
      intro w'
      go_simp
      with_reducible rfl
     rotate_left
     ·
      simp only [Act.put, Sa_, Sz_, Ss_, i64_w, i32_w]
      rfl
     refine pure_ (i := 2) (N := some 7) (v := ?_) (a' := ?_) #[true, false, true, false, false, false, false, false, false, false, false, false, false, false, false, false, false, false, false, false, false, false, false, false, false, false, false, false, false, false, false, false] rfl rfl (any_of HT_.out (by kernel_rfl)) (fun _ _ _ h => h) (Or.inl ⟨by rfl, ?_⟩) ?_ ?_
     rotate_left
     ·
      intro w'
      go_simp
      with_reducible rfl
     rotate_left
     ·
      simp only [Act.put, Sa_, Sz_, Ss_, i64_w, i32_w]
      rfl
     refine take_ (i := 1) (N := some 6) (v := ?_) (a' := ?_) #[true, true, true, false, false, false, false, false, false, false, false, false, false, false, false, false, false, false, false, false, false, false, false, false, false, false, false, false, false, false, false, false] rfl rfl (take_ofW HT_.out HW_.out (by kernel_rfl)) (fun _ _ _ h => h) (Or.inl ⟨by rfl, ?_⟩) hHeld ?_ ?_
     rotate_left
     ·
      rintro w' ⟨s0, s1, s2, s3, s4⟩
      go_simp
      with_reducible rfl
     rotate_left
     ·
      simp only [Act.put, Sa_, Sz_, Ss_, i64_w, i32_w]
      rfl
     refine take_ (i := 3) (N := some 8) (v := ?_) (a' := ?_) #[true, true, true, true, false, false, false, false, false, false, false, false, false, false, false, false, false, false, false, false, false, false, false, false, false, false, false, false, false, false, false, false] rfl rfl (take_ofW HT_.out HW_.out (by kernel_rfl)) (fun _ _ _ h => h) (Or.inl ⟨by rfl, ?_⟩) hHeld ?_ ?_
     rotate_left
     ·
      rintro w' ⟨s0, s1, s2, s3, s4⟩
      go_simp
      with_reducible rfl
     rotate_left
     ·
      simp only [Act.put, Sa_, Sz_, Ss_, i64_w, i32_w]
      rfl
     refine one_ (i := 4) (N := some 9) #[true, true, true, true, true, false, false, false, false, false, false, false, false, false, false, false, false, false, false, false, false, false, false, false, false, false, false, false, false, false, false, false] rfl rfl (one_of HT_.out (by kernel_rfl)) (by decide) (fun K hK => ?_)
     refine goes_ Tryd.func27 (by kernel_rfl) rfl #[.int .i64 a0_0, .int .i64 a0_1] (by rfl) rfl rfl (by (try simp only [List.map_toArray, List.map_cons, List.map_nil]); first | done | rfl | (simp only [List.length_drop, List.length_take]; rfl)) ?_
     with_reducible refine (isizes.calls a0_0 a0_1 true _ A4.out).mono ?_
     rintro e w' ⟨rfl, ⟨nd, rfl⟩⟩
     refine ⟨_, rfl, ?_⟩
     refine hK.out _ _ ⟨(Bc_ BK124.out 0).trans rfl, (Bc_ BK124.out 1).trans rfl, (Bc_ BK124.out 2).trans rfl, (Bc_ BK124.out 3).trans rfl, (Bc_ BK124.out 4).trans rfl⟩ (fun hHeld => ?_)
     clear hK K
     refine norm_ (a' := ?_) ?_ ?_
     rotate_left
     ·
      show Act.put _ (some 9) _ = _
      simp only [Act.put, Sa_, Sz_, Ss_, i64_w, i32_w]
      rfl
     refine pure_ (i := 5) (N := some 10) (v := ?_) (a' := ?_) #[true, true, true, true, true, true, false, false, false, false, false, false, false, false, false, false, false, false, false, false, false, false, false, false, false, false, false, false, false, false, false, false] rfl rfl (any_of HT_.out (by kernel_rfl)) (fun _ _ _ h => h) (Or.inl ⟨by rfl, ?_⟩) ?_ ?_
     rotate_left
     ·
      intro w'
      go_simp
      with_reducible rfl
     rotate_left
     ·
      simp only [Act.put, Sa_, Sz_, Ss_, i64_w, i32_w]
      rfl
     refine pure_ (i := 6) (N := some 11) (v := ?_) (a' := ?_) #[true, true, true, true, true, true, true, false, false, false, false, false, false, false, false, false, false, false, false, false, false, false, false, false, false, false, false, false, false, false, false, false] rfl rfl (any_of HT_.out (by kernel_rfl)) (fun _ _ _ h => h) (Or.inl ⟨by rfl, ?_⟩) ?_ ?_
     rotate_left
     ·
      intro w'
      go_simp
      with_reducible rfl
     rotate_left
     ·
      simp only [Act.put, Sa_, Sz_, Ss_, i64_w, i32_w]
      rfl
     refine pure_ (i := 7) (N := some 12) (v := ?_) (a' := ?_) #[true, true, true, true, true, true, true, true, false, false, false, false, false, false, false, false, false, false, false, false, false, false, false, false, false, false, false, false, false, false, false, false] rfl rfl (any_of HT_.out (by kernel_rfl)) (fun _ _ _ h => h) (Or.inl ⟨by rfl, ?_⟩) ?_ ?_
     rotate_left
     ·
      intro w'
      go_simp
      with_reducible rfl
     rotate_left
     ·
      simp only [Act.put, Sa_, Sz_, Ss_, i64_w, i32_w]
      rfl
     refine pure_ (i := 10) (N := some 15) (v := ?_) (a' := ?_) #[true, true, true, true, true, true, true, true, false, false, true, false, false, false, false, false, false, false, false, false, false, false, false, false, false, false, false, false, false, false, false, false] rfl rfl (any_of HT_.out (by kernel_rfl)) (fun _ _ _ h => h) (Or.inl ⟨by rfl, ?_⟩) ?_ ?_
     rotate_left
     ·
      intro w'
      go_simp
      with_reducible rfl
     rotate_left
     ·
      simp only [Act.put, Sa_, Sz_, Ss_, i64_w, i32_w]
      rfl
     refine pure_ (i := 12) (N := some 17) (v := ?_) (a' := ?_) #[true, true, true, true, true, true, true, true, false, false, true, false, true, false, false, false, false, false, false, false, false, false, false, false, false, false, false, false, false, false, false, false] rfl rfl (any_of HT_.out (by kernel_rfl)) (fun _ _ _ h => h) (Or.inl ⟨by rfl, ?_⟩) ?_ ?_
     rotate_left
     ·
      intro w'
      go_simp
      with_reducible rfl
     rotate_left
     ·
      simp only [Act.put, Sa_, Sz_, Ss_, i64_w, i32_w]
      rfl
     refine take_ (i := 8) (N := some 13) (v := ?_) (a' := ?_) #[true, true, true, true, true, true, true, true, true, false, true, false, true, false, false, false, false, false, false, false, false, false, false, false, false, false, false, false, false, false, false, false] rfl rfl (take_ofW HT_.out HW_.out (by kernel_rfl)) (fun _ _ _ h => h) (Or.inl ⟨by rfl, ?_⟩) hHeld ?_ ?_
     rotate_left
     ·
      rintro w' ⟨s0, s1, s2, s3, s4⟩
      go_simp
      with_reducible rfl
     rotate_left
     ·
      simp only [Act.put, Sa_, Sz_, Ss_, i64_w, i32_w]
      rfl
     refine pure_ (i := 9) (N := some 14) (v := ?_) (a' := ?_) #[true, true, true, true, true, true, true, true, true, true, true, false, true, false, false, false, false, false, false, false, false, false, false, false, false, false, false, false, false, false, false, false] rfl rfl (any_of HT_.out (by kernel_rfl)) (fun _ _ _ h => h) (Or.inl ⟨by rfl, ?_⟩) ?_ ?_
     rotate_left
     ·
      intro w'
      go_simp
      with_reducible rfl
     rotate_left
     ·
      simp only [Act.put, Sa_, Sz_, Ss_, i64_w, i32_w]
      rfl
     refine take_ (i := 11) (N := some 16) (v := ?_) (a' := ?_) #[true, true, true, true, true, true, true, true, true, true, true, true, true, false, false, false, false, false, false, false, false, false, false, false, false, false, false, false, false, false, false, false] rfl rfl (take_ofW HT_.out HW_.out (by kernel_rfl)) (fun _ _ _ h => h) (Or.inl ⟨by rfl, ?_⟩) hHeld ?_ ?_
     rotate_left
     ·
      rintro w' ⟨s0, s1, s2, s3, s4⟩
      go_simp
      with_reducible rfl
     rotate_left
     ·
      simp only [Act.put, Sa_, Sz_, Ss_, i64_w, i32_w]
      rfl
     refine take_ (i := 13) (N := some 18) (v := ?_) (a' := ?_) #[true, true, true, true, true, true, true, true, true, true, true, true, true, true, false, false, false, false, false, false, false, false, false, false, false, false, false, false, false, false, false, false] rfl rfl (take_ofW HT_.out HW_.out (by kernel_rfl)) (fun _ _ _ h => h) (Or.inl ⟨by rfl, ?_⟩) hHeld ?_ ?_
     rotate_left
     ·
      rintro w' ⟨s0, s1, s2, s3, s4⟩
      go_simp
      with_reducible rfl
     rotate_left
     ·
      simp only [Act.put, Sa_, Sz_, Ss_, i64_w, i32_w]
      rfl
     refine one_ (i := 14) (N := some 19) #[true, true, true, true, true, true, true, true, true, true, true, true, true, true, true, false, false, false, false, false, false, false, false, false, false, false, false, false, false, false, false, false] rfl rfl (one_of HT_.out (by kernel_rfl)) (by decide) (fun K hK => ?_)
     refine goes_ Tryd.func28 (by kernel_rfl) rfl #[.int .i64 a0_0, .int .i64 a0_1] (by rfl) rfl rfl (by (try simp only [List.map_toArray, List.map_cons, List.map_nil]); first | done | rfl | (simp only [List.length_drop, List.length_take]; rfl)) ?_
     with_reducible refine (igranules.calls a0_0 a0_1 t126 _ A6.out).mono ?_
     rintro e w' ⟨rfl, ⟨nd, rfl⟩⟩
     refine ⟨_, rfl, ?_⟩
     refine hK.out _ _ ⟨(Bc_ BK124.out 0).trans rfl, (Bc_ BK124.out 1).trans rfl, (Bc_ BK124.out 2).trans rfl, (Bc_ BK124.out 3).trans rfl, (Bc_ BK124.out 4).trans rfl⟩ (fun hHeld => ?_)
     clear hK K
     refine norm_ (a' := ?_) ?_ ?_
     rotate_left
     ·
      show Act.put _ (some 19) _ = _
      simp only [Act.put, Sa_, Sz_, Ss_, i64_w, i32_w]
      rfl
     refine pure_ (i := 15) (N := some 20) (v := ?_) (a' := ?_) #[true, true, true, true, true, true, true, true, true, true, true, true, true, true, true, true, false, false, false, false, false, false, false, false, false, false, false, false, false, false, false, false] rfl rfl (any_of HT_.out (by kernel_rfl)) (fun _ _ _ h => h) (Or.inl ⟨by rfl, ?_⟩) ?_ ?_
     rotate_left
     ·
      intro w'
      go_simp
      with_reducible rfl
     rotate_left
     ·
      simp only [Act.put, Sa_, Sz_, Ss_, i64_w, i32_w]
      rfl
     refine pure_ (i := 16) (N := some 21) (v := ?_) (a' := ?_) #[true, true, true, true, true, true, true, true, true, true, true, true, true, true, true, true, true, false, false, false, false, false, false, false, false, false, false, false, false, false, false, false] rfl rfl (any_of HT_.out (by kernel_rfl)) (fun _ _ _ h => h) (Or.inl ⟨by rfl, ?_⟩) ?_ ?_
     rotate_left
     ·
      intro w'
      go_simp
      with_reducible rfl
     rotate_left
     ·
      simp only [Act.put, Sa_, Sz_, Ss_, i64_w, i32_w]
      rfl
     refine pure_ (i := 17) (N := some 22) (v := ?_) (a' := ?_) #[true, true, true, true, true, true, true, true, true, true, true, true, true, true, true, true, true, true, false, false, false, false, false, false, false, false, false, false, false, false, false, false] rfl rfl (any_of HT_.out (by kernel_rfl)) (fun _ _ _ h => h) (Or.inl ⟨by rfl, ?_⟩) ?_ ?_
     rotate_left
     ·
      intro w'
      go_simp
      with_reducible rfl
     rotate_left
     ·
      simp only [Act.put, Sa_, Sz_, Ss_, i64_w, i32_w]
      rfl
     refine pure_ (i := 18) (N := some 23) (v := ?_) (a' := ?_) #[true, true, true, true, true, true, true, true, true, true, true, true, true, true, true, true, true, true, true, false, false, false, false, false, false, false, false, false, false, false, false, false] rfl rfl (any_of HT_.out (by kernel_rfl)) (fun _ _ _ h => h) (Or.inl ⟨by rfl, ?_⟩) ?_ ?_
     rotate_left
     ·
      intro w'
      go_simp
      with_reducible rfl
     rotate_left
     ·
      simp only [Act.put, Sa_, Sz_, Ss_, i64_w, i32_w]
      rfl
     refine take_ (i := 19) (N := some 24) (v := ?_) (a' := ?_) #[true, true, true, true, true, true, true, true, true, true, true, true, true, true, true, true, true, true, true, true, false, false, false, false, false, false, false, false, false, false, false, false] rfl rfl (take_ofW HT_.out HW_.out (by kernel_rfl)) (fun _ _ _ h => h) (Or.inl ⟨by rfl, ?_⟩) hHeld ?_ ?_
     rotate_left
     ·
      rintro w' ⟨s0, s1, s2, s3, s4⟩
      go_simp
      with_reducible rfl
     rotate_left
     ·
      simp only [Act.put, Sa_, Sz_, Ss_, i64_w, i32_w]
      rfl
     refine one_ (i := 20) (N := some 25) #[true, true, true, true, true, true, true, true, true, true, true, true, true, true, true, true, true, true, true, true, true, false, false, false, false, false, false, false, false, false, false, false] rfl rfl (one_of HT_.out (by kernel_rfl)) (by decide) (fun K hK => ?_)
     refine goes_ Tryd.func57 (by kernel_rfl) rfl #[.agg #[.int .i64 a0_3, .slice A0_4 l0_4.length c0_4]] (by rfl) rfl rfl (by (try simp only [List.map_toArray, List.map_cons, List.map_nil]); first | done | rfl | (simp only [List.length_drop, List.length_take]; rfl)) ?_
     with_reducible refine (bCheck.calls k a0_3 _ _ l0_4 t127 _ ?side1 ?side2 A8.out).mono ?_
     (case side1 => repeat (first | exact (Kd.C_below HR0_4.out (by repeat (first | (with_reducible first | exact HB.out | apply Al_ | apply Dn_ | apply D1_ | refine Bs_ ?_ GE124.out) | exact HB.out))) | (with_reducible first | refine Kd.C_alloc ?_ _ | refine Kd.C_drewN ?_ _ | refine Kd.C_drew ?_)))
     (case side2 => exact HC0_4.out)
     rintro e w11 ⟨rfl, hb⟩
     refine ⟨_, rfl, ?_⟩
     have n0_ := A0_ (blk_below (g := gb124) (o := .cells #[.int .i64 a0_0, .int .i64 a0_1, .slice A0_2 l0_2.length c0_2, .int .i64 a0_3, .slice A0_4 l0_4.length c0_4] 28 (0, 0)) (by (with_reducible repeat (first | refine Bn_ ?_ _ | refine Bd_ ?_ | refine Ba_ ?_ _)); exact BK124.out) hb)
     have n1_ := A0_ (below_step (by repeat (first | (with_reducible first | exact HB.out | apply Al_ | apply Dn_ | apply D1_ | refine Bs_ ?_ GE124.out) | exact HB.out)) hb)
     clear BK124
     clear HB
     have BK124 := n0_
     have HB := n1_
     clear n0_ n1_
     (try clear hb)
     (try clear hb2)
     (try clear hk)
     (try clear hi)
     refine hK.out _ _ ⟨(Bc_ BK124.out 0).trans rfl, (Bc_ BK124.out 1).trans rfl, (Bc_ BK124.out 2).trans rfl, (Bc_ BK124.out 3).trans rfl, (Bc_ BK124.out 4).trans rfl⟩ (fun hHeld => ?_)
     clear hK K
     refine norm_ (a' := ?_) ?_ ?_
     rotate_left
     ·
      show Act.put _ (some 25) _ = _
      simp only [Act.put, Sa_, Sz_, Ss_, i64_w, i32_w]
      rfl
     refine pure_ (i := 21) (N := some 26) (v := ?_) (a' := ?_) #[true, true, true, true, true, true, true, true, true, true, true, true, true, true, true, true, true, true, true, true, true, true, false, false, false, false, false, false, false, false, false, false] rfl rfl (any_of HT_.out (by kernel_rfl)) (fun _ _ _ h => h) (Or.inl ⟨by rfl, ?_⟩) ?_ ?_
     rotate_left
     ·
      intro w'
      go_simp
      with_reducible rfl
     rotate_left
     ·
      simp only [Act.put, Sa_, Sz_, Ss_, i64_w, i32_w]
      rfl
     refine pure_ (i := 22) (N := some 27) (v := ?_) (a' := ?_) #[true, true, true, true, true, true, true, true, true, true, true, true, true, true, true, true, true, true, true, true, true, true, true, false, false, false, false, false, false, false, false, false] rfl rfl (any_of HT_.out (by kernel_rfl)) (fun _ _ _ h => h) (Or.inl ⟨by rfl, ?_⟩) ?_ ?_
     rotate_left
     ·
      intro w'
      go_simp
      with_reducible rfl
     rotate_left
     ·
      simp only [Act.put, Sa_, Sz_, Ss_, i64_w, i32_w]
      rfl
     refine pure_ (i := 23) (N := some 28) (v := ?_) (a' := ?_) #[true, true, true, true, true, true, true, true, true, true, true, true, true, true, true, true, true, true, true, true, true, true, true, true, false, false, false, false, false, false, false, false] rfl rfl (any_of HT_.out (by kernel_rfl)) (fun _ _ _ h => h) (Or.inl ⟨by rfl, ?_⟩) ?_ ?_
     rotate_left
     ·
      intro w'
      go_simp
      with_reducible rfl
     rotate_left
     ·
      simp only [Act.put, Sa_, Sz_, Ss_, i64_w, i32_w]
      rfl
     refine pure_ (i := 24) (N := some 29) (v := ?_) (a' := ?_) #[true, true, true, true, true, true, true, true, true, true, true, true, true, true, true, true, true, true, true, true, true, true, true, true, true, false, false, false, false, false, false, false] rfl rfl (any_of HT_.out (by kernel_rfl)) (fun _ _ _ h => h) (Or.inl ⟨by rfl, ?_⟩) ?_ ?_
     rotate_left
     ·
      intro w'
      go_simp
      with_reducible rfl
     rotate_left
     ·
      simp only [Act.put, Sa_, Sz_, Ss_, i64_w, i32_w]
      rfl
     refine pure_ (i := 25) (N := some 30) (v := ?_) (a' := ?_) #[true, true, true, true, true, true, true, true, true, true, true, true, true, true, true, true, true, true, true, true, true, true, true, true, true, true, false, false, false, false, false, false] rfl rfl (any_of HT_.out (by kernel_rfl)) (fun _ _ _ h => h) (Or.inl ⟨by rfl, ?_⟩) ?_ ?_
     rotate_left
     ·
      intro w'
      go_simp
      with_reducible rfl
     rotate_left
     ·
      simp only [Act.put, Sa_, Sz_, Ss_, i64_w, i32_w]
      rfl
     refine pure_ (i := 27) (N := some 32) (v := ?_) (a' := ?_) #[true, true, true, true, true, true, true, true, true, true, true, true, true, true, true, true, true, true, true, true, true, true, true, true, true, true, false, true, false, false, false, false] rfl rfl (any_of HT_.out (by kernel_rfl)) (fun _ _ _ h => h) (Or.inl ⟨by rfl, ?_⟩) ?_ ?_
     rotate_left
     ·
      intro w'
      go_simp
      with_reducible rfl
     rotate_left
     ·
      simp only [Act.put, Sa_, Sz_, Ss_, i64_w, i32_w]
      rfl
     refine take_ (i := 26) (N := some 31) (v := ?_) (a' := ?_) #[true, true, true, true, true, true, true, true, true, true, true, true, true, true, true, true, true, true, true, true, true, true, true, true, true, true, true, true, false, false, false, false] rfl rfl (take_ofW HT_.out HW_.out (by kernel_rfl)) (fun _ _ _ h => h) (Or.inl ⟨by rfl, ?_⟩) hHeld ?_ ?_
     rotate_left
     ·
      rintro w' ⟨s0, s1, s2, s3, s4⟩
      go_simp
      with_reducible rfl
     rotate_left
     ·
      simp only [Act.put, Sa_, Sz_, Ss_, i64_w, i32_w]
      rfl
     refine take_ (i := 28) (N := some 33) (v := ?_) (a' := ?_) #[true, true, true, true, true, true, true, true, true, true, true, true, true, true, true, true, true, true, true, true, true, true, true, true, true, true, true, true, true, false, false, false] rfl rfl (take_ofW HT_.out HW_.out (by kernel_rfl)) (fun _ _ _ h => h) (Or.inl ⟨by rfl, ?_⟩) hHeld ?_ ?_
     rotate_left
     ·
      rintro w' ⟨s0, s1, s2, s3, s4⟩
      go_simp
      with_reducible rfl
     rotate_left
     ·
      simp only [Act.put, Sa_, Sz_, Ss_, i64_w, i32_w]
      rfl
     refine pure_ (i := 29) (N := some 34) (v := ?_) (a' := ?_) #[true, true, true, true, true, true, true, true, true, true, true, true, true, true, true, true, true, true, true, true, true, true, true, true, true, true, true, true, true, true, false, false] rfl rfl (any_of HT_.out (by kernel_rfl)) (fun _ _ _ h => h) (Or.inl ⟨by rfl, ?_⟩) ?_ ?_
     rotate_left
     ·
      intro w'
      go_simp
      with_reducible rfl
     rotate_left
     ·
      simp only [Act.put, Sa_, Sz_, Ss_, i64_w, i32_w]
      rfl
     refine pure_ (i := 30) (N := some 35) (v := ?_) (a' := ?_) #[true, true, true, true, true, true, true, true, true, true, true, true, true, true, true, true, true, true, true, true, true, true, true, true, true, true, true, true, true, true, true, false] rfl rfl (any_of HT_.out (by kernel_rfl)) (fun _ _ _ h => h) (Or.inl ⟨by rfl, ?_⟩) ?_ ?_
     rotate_left
     ·
      intro w'
      go_simp
      with_reducible rfl
     rotate_left
     ·
      simp only [Act.put, Sa_, Sz_, Ss_, i64_w, i32_w]
      rfl
     refine pure_ (i := 31) (N := some 36) (v := ?_) (a' := ?_) #[true, true, true, true, true, true, true, true, true, true, true, true, true, true, true, true, true, true, true, true, true, true, true, true, true, true, true, true, true, true, true, true] rfl rfl (any_of HT_.out (by kernel_rfl)) (fun _ _ _ h => h) (Or.inl ⟨by rfl, ?_⟩) ?_ ?_
     rotate_left
     ·
      intro w'
      go_simp
      with_reducible rfl
     rotate_left
     ·
      simp only [Act.put, Sa_, Sz_, Ss_, i64_w, i32_w]
      rfl
     refine done_ (done_of HT_.out (by kernel_rfl)) ?_
     try go_wp2
     go_meet
     case rel => exact ⟨_, ((a0_3 != (l0_2.length : Int))), (by first | rfl | (simp; done) | (simp [*]; done)), H', ⟨by first | omega | exact Nat.le_refl _⟩, ⟨by (with_reducible repeat (first | refine Bn_ ?_ _ | refine Bd_ ?_ | refine Ba_ ?_ _)); exact BK124.out⟩, ⟨by repeat (first | (with_reducible first | exact HB.out | apply Al_ | apply Dn_ | apply D1_ | refine Bs_ ?_ GE124.out) | exact HB.out)⟩⟩
    ·
     rw [if_neg c9] at H
     have c9b0 : (t127 == 0) = false := beq_eq_false_iff_ne.mpr c9
     have c9b1 : (t127 != 0) = true := bne_iff_ne.mpr c9
     have H' := A0_ H
     clear H
     try go_wp2
     have n0_ := A0_ (blk_drew BK124.out)
     have n1_ := A0_ (D1_ HB.out)
     clear BK124
     clear HB
     have BK124 := n0_
     have HB := n1_
     clear n0_ n1_
     refine start_ (n := 32) (S := fun w' => w'.cell? ⟨gb124, 0, none⟩ = some (.int .i64 a0_0) ∧ w'.cell? ⟨gb124, 1, none⟩ = some (.int .i64 a0_1) ∧ w'.cell? ⟨gb124, 2, none⟩ = some (.slice A0_2 l0_2.length c0_2) ∧ w'.cell? ⟨gb124, 3, none⟩ = some (.int .i64 a0_3) ∧ w'.cell? ⟨gb124, 4, none⟩ = some (.slice A0_4 l0_4.length c0_4)) (ds := []) #[false, false, false, false, false, false, false, false, false, false, false, false, false, false, false, false, false, false, false, false, false, false, false, false, false, false, false, false, false, false, false, false] (by kernel_rfl) rfl rfl ⟨(Bc_ BK124.out 0).trans rfl, (Bc_ BK124.out 1).trans rfl, (Bc_ BK124.out 2).trans rfl, (Bc_ BK124.out 3).trans rfl, (Bc_ BK124.out 4).trans rfl⟩ (fun hHeld => ?_); refine with_tabW iCheck.tab1 iCheck.bits1 (fun HT_ HW_ => ?_)
     generalize w3.drew = w12 at BK124 HB hHeld ⊢
     refine pure_ (i := 0) (N := some 5) (v := ?_) (a' := ?_) #[true, false, false, false, false, false, false, false, false, false, false, false, false, false, false, false, false, false, false, false, false, false, false, false, false, false, false, false, false, false, false, false] rfl rfl (any_of HT_.out (by kernel_rfl)) (fun _ _ _ h => h) (Or.inl ⟨by rfl, ?_⟩) ?_ ?_
     rotate_left
     ·
      intro w'
      go_simp
      with_reducible rfl
     rotate_left
     ·
      simp only [Act.put, Sa_, Sz_, Ss_, i64_w, i32_w]
      rfl
     refine pure_ (i := 2) (N := some 7) (v := ?_) (a' := ?_) #[true, false, true, false, false, false, false, false, false, false, false, false, false, false, false, false, false, false, false, false, false, false, false, false, false, false, false, false, false, false, false, false] rfl rfl (any_of HT_.out (by kernel_rfl)) (fun _ _ _ h => h) (Or.inl ⟨by rfl, ?_⟩) ?_ ?_
     rotate_left
     ·
      intro w'
      go_simp
      with_reducible rfl
     rotate_left
     ·
      simp only [Act.put, Sa_, Sz_, Ss_, i64_w, i32_w]
      rfl
     refine take_ (i := 1) (N := some 6) (v := ?_) (a' := ?_) #[true, true, true, false, false, false, false, false, false, false, false, false, false, false, false, false, false, false, false, false, false, false, false, false, false, false, false, false, false, false, false, false] rfl rfl (take_ofW HT_.out HW_.out (by kernel_rfl)) (fun _ _ _ h => h) (Or.inl ⟨by rfl, ?_⟩) hHeld ?_ ?_
     rotate_left
     ·
      rintro w' ⟨s0, s1, s2, s3, s4⟩
      go_simp
      with_reducible rfl
     rotate_left
     ·
      simp only [Act.put, Sa_, Sz_, Ss_, i64_w, i32_w]
      rfl
     refine take_ (i := 3) (N := some 8) (v := ?_) (a' := ?_) #[true, true, true, true, false, false, false, false, false, false, false, false, false, false, false, false, false, false, false, false, false, false, false, false, false, false, false, false, false, false, false, false] rfl rfl (take_ofW HT_.out HW_.out (by kernel_rfl)) (fun _ _ _ h => h) (Or.inl ⟨by rfl, ?_⟩) hHeld ?_ ?_
     rotate_left
     ·
      rintro w' ⟨s0, s1, s2, s3, s4⟩
      go_simp
      with_reducible rfl
     rotate_left
     ·
      simp only [Act.put, Sa_, Sz_, Ss_, i64_w, i32_w]
      rfl
     refine one_ (i := 4) (N := some 9) #[true, true, true, true, true, false, false, false, false, false, false, false, false, false, false, false, false, false, false, false, false, false, false, false, false, false, false, false, false, false, false, false] rfl rfl (one_of HT_.out (by kernel_rfl)) (by decide) (fun K hK => ?_)
     refine goes_ Tryd.func27 (by kernel_rfl) rfl #[.int .i64 a0_0, .int .i64 a0_1] (by rfl) rfl rfl (by (try simp only [List.map_toArray, List.map_cons, List.map_nil]); first | done | rfl | (simp only [List.length_drop, List.length_take]; rfl)) ?_
     with_reducible refine (isizes.calls a0_0 a0_1 true _ A4.out).mono ?_
     rintro e w' ⟨rfl, ⟨nd, rfl⟩⟩
     refine ⟨_, rfl, ?_⟩
     refine hK.out _ _ ⟨(Bc_ BK124.out 0).trans rfl, (Bc_ BK124.out 1).trans rfl, (Bc_ BK124.out 2).trans rfl, (Bc_ BK124.out 3).trans rfl, (Bc_ BK124.out 4).trans rfl⟩ (fun hHeld => ?_)
     clear hK K
     refine norm_ (a' := ?_) ?_ ?_
     rotate_left
     ·
      show Act.put _ (some 9) _ = _
      simp only [Act.put, Sa_, Sz_, Ss_, i64_w, i32_w]
      rfl
     refine pure_ (i := 5) (N := some 10) (v := ?_) (a' := ?_) #[true, true, true, true, true, true, false, false, false, false, false, false, false, false, false, false, false, false, false, false, false, false, false, false, false, false, false, false, false, false, false, false] rfl rfl (any_of HT_.out (by kernel_rfl)) (fun _ _ _ h => h) (Or.inl ⟨by rfl, ?_⟩) ?_ ?_
     rotate_left
     ·
      intro w'
      go_simp
      with_reducible rfl
     rotate_left
     ·
      simp only [Act.put, Sa_, Sz_, Ss_, i64_w, i32_w]
      rfl
     refine pure_ (i := 6) (N := some 11) (v := ?_) (a' := ?_) #[true, true, true, true, true, true, true, false, false, false, false, false, false, false, false, false, false, false, false, false, false, false, false, false, false, false, false, false, false, false, false, false] rfl rfl (any_of HT_.out (by kernel_rfl)) (fun _ _ _ h => h) (Or.inl ⟨by rfl, ?_⟩) ?_ ?_
     rotate_left
     ·
      intro w'
      go_simp
      with_reducible rfl
     rotate_left
     ·
      simp only [Act.put, Sa_, Sz_, Ss_, i64_w, i32_w]
      rfl
     refine pure_ (i := 7) (N := some 12) (v := ?_) (a' := ?_) #[true, true, true, true, true, true, true, true, false, false, false, false, false, false, false, false, false, false, false, false, false, false, false, false, false, false, false, false, false, false, false, false] rfl rfl (any_of HT_.out (by kernel_rfl)) (fun _ _ _ h => h) (Or.inl ⟨by rfl, ?_⟩) ?_ ?_
     rotate_left
     ·
      intro w'
      go_simp
      with_reducible rfl
     rotate_left
     ·
      simp only [Act.put, Sa_, Sz_, Ss_, i64_w, i32_w]
      rfl
     refine pure_ (i := 10) (N := some 15) (v := ?_) (a' := ?_) #[true, true, true, true, true, true, true, true, false, false, true, false, false, false, false, false, false, false, false, false, false, false, false, false, false, false, false, false, false, false, false, false] rfl rfl (any_of HT_.out (by kernel_rfl)) (fun _ _ _ h => h) (Or.inl ⟨by rfl, ?_⟩) ?_ ?_
     rotate_left
     ·
      intro w'
      go_simp
      with_reducible rfl
     rotate_left
     ·
      simp only [Act.put, Sa_, Sz_, Ss_, i64_w, i32_w]
      rfl
     refine pure_ (i := 12) (N := some 17) (v := ?_) (a' := ?_) #[true, true, true, true, true, true, true, true, false, false, true, false, true, false, false, false, false, false, false, false, false, false, false, false, false, false, false, false, false, false, false, false] rfl rfl (any_of HT_.out (by kernel_rfl)) (fun _ _ _ h => h) (Or.inl ⟨by rfl, ?_⟩) ?_ ?_
     rotate_left
     ·
      intro w'
      go_simp
      with_reducible rfl
     rotate_left
     ·
      simp only [Act.put, Sa_, Sz_, Ss_, i64_w, i32_w]
      rfl
     refine take_ (i := 8) (N := some 13) (v := ?_) (a' := ?_) #[true, true, true, true, true, true, true, true, true, false, true, false, true, false, false, false, false, false, false, false, false, false, false, false, false, false, false, false, false, false, false, false] rfl rfl (take_ofW HT_.out HW_.out (by kernel_rfl)) (fun _ _ _ h => h) (Or.inl ⟨by rfl, ?_⟩) hHeld ?_ ?_
     rotate_left
     ·
      rintro w' ⟨s0, s1, s2, s3, s4⟩
      go_simp
      with_reducible rfl
     rotate_left
     ·
      simp only [Act.put, Sa_, Sz_, Ss_, i64_w, i32_w]
      rfl
     refine pure_ (i := 9) (N := some 14) (v := ?_) (a' := ?_) #[true, true, true, true, true, true, true, true, true, true, true, false, true, false, false, false, false, false, false, false, false, false, false, false, false, false, false, false, false, false, false, false] rfl rfl (any_of HT_.out (by kernel_rfl)) (fun _ _ _ h => h) (Or.inl ⟨by rfl, ?_⟩) ?_ ?_
     rotate_left
     ·
      intro w'
      go_simp
      with_reducible rfl
     rotate_left
     ·
      simp only [Act.put, Sa_, Sz_, Ss_, i64_w, i32_w]
      rfl
     refine take_ (i := 11) (N := some 16) (v := ?_) (a' := ?_) #[true, true, true, true, true, true, true, true, true, true, true, true, true, false, false, false, false, false, false, false, false, false, false, false, false, false, false, false, false, false, false, false] rfl rfl (take_ofW HT_.out HW_.out (by kernel_rfl)) (fun _ _ _ h => h) (Or.inl ⟨by rfl, ?_⟩) hHeld ?_ ?_
     rotate_left
     ·
      rintro w' ⟨s0, s1, s2, s3, s4⟩
      go_simp
      with_reducible rfl
     rotate_left
     ·
      simp only [Act.put, Sa_, Sz_, Ss_, i64_w, i32_w]
      rfl
     refine take_ (i := 13) (N := some 18) (v := ?_) (a' := ?_) #[true, true, true, true, true, true, true, true, true, true, true, true, true, true, false, false, false, false, false, false, false, false, false, false, false, false, false, false, false, false, false, false] rfl rfl (take_ofW HT_.out HW_.out (by kernel_rfl)) (fun _ _ _ h => h) (Or.inl ⟨by rfl, ?_⟩) hHeld ?_ ?_
     rotate_left
     ·
      rintro w' ⟨s0, s1, s2, s3, s4⟩
      go_simp
      with_reducible rfl
     rotate_left
     ·
      simp only [Act.put, Sa_, Sz_, Ss_, i64_w, i32_w]
      rfl
     refine one_ (i := 14) (N := some 19) #[true, true, true, true, true, true, true, true, true, true, true, true, true, true, true, false, false, false, false, false, false, false, false, false, false, false, false, false, false, false, false, false] rfl rfl (one_of HT_.out (by kernel_rfl)) (by decide) (fun K hK => ?_)
     refine goes_ Tryd.func28 (by kernel_rfl) rfl #[.int .i64 a0_0, .int .i64 a0_1] (by rfl) rfl rfl (by (try simp only [List.map_toArray, List.map_cons, List.map_nil]); first | done | rfl | (simp only [List.length_drop, List.length_take]; rfl)) ?_
     with_reducible refine (igranules.calls a0_0 a0_1 t126 _ A6.out).mono ?_
     rintro e w' ⟨rfl, ⟨nd, rfl⟩⟩
     refine ⟨_, rfl, ?_⟩
     refine hK.out _ _ ⟨(Bc_ BK124.out 0).trans rfl, (Bc_ BK124.out 1).trans rfl, (Bc_ BK124.out 2).trans rfl, (Bc_ BK124.out 3).trans rfl, (Bc_ BK124.out 4).trans rfl⟩ (fun hHeld => ?_)
     clear hK K
     refine norm_ (a' := ?_) ?_ ?_
     rotate_left
     ·
      show Act.put _ (some 19) _ = _
      simp only [Act.put, Sa_, Sz_, Ss_, i64_w, i32_w]
      rfl
     refine pure_ (i := 15) (N := some 20) (v := ?_) (a' := ?_) #[true, true, true, true, true, true, true, true, true, true, true, true, true, true, true, true, false, false, false, false, false, false, false, false, false, false, false, false, false, false, false, false] rfl rfl (any_of HT_.out (by kernel_rfl)) (fun _ _ _ h => h) (Or.inl ⟨by rfl, ?_⟩) ?_ ?_
     rotate_left
     ·
      intro w'
      go_simp
      with_reducible rfl
     rotate_left
     ·
      simp only [Act.put, Sa_, Sz_, Ss_, i64_w, i32_w]
      rfl
     refine pure_ (i := 16) (N := some 21) (v := ?_) (a' := ?_) #[true, true, true, true, true, true, true, true, true, true, true, true, true, true, true, true, true, false, false, false, false, false, false, false, false, false, false, false, false, false, false, false] rfl rfl (any_of HT_.out (by kernel_rfl)) (fun _ _ _ h => h) (Or.inl ⟨by rfl, ?_⟩) ?_ ?_
     rotate_left
     ·
      intro w'
      go_simp
      with_reducible rfl
     rotate_left
     ·
      simp only [Act.put, Sa_, Sz_, Ss_, i64_w, i32_w]
      rfl
     refine pure_ (i := 17) (N := some 22) (v := ?_) (a' := ?_) #[true, true, true, true, true, true, true, true, true, true, true, true, true, true, true, true, true, true, false, false, false, false, false, false, false, false, false, false, false, false, false, false] rfl rfl (any_of HT_.out (by kernel_rfl)) (fun _ _ _ h => h) (Or.inl ⟨by rfl, ?_⟩) ?_ ?_
     rotate_left
     ·
      intro w'
      go_simp
      with_reducible rfl
     rotate_left
     ·
      simp only [Act.put, Sa_, Sz_, Ss_, i64_w, i32_w]
      rfl
     refine pure_ (i := 18) (N := some 23) (v := ?_) (a' := ?_) #[true, true, true, true, true, true, true, true, true, true, true, true, true, true, true, true, true, true, true, false, false, false, false, false, false, false, false, false, false, false, false, false] rfl rfl (any_of HT_.out (by kernel_rfl)) (fun _ _ _ h => h) (Or.inl ⟨by rfl, ?_⟩) ?_ ?_
     rotate_left
     ·
      intro w'
      go_simp
      with_reducible rfl
     rotate_left
     ·
      simp only [Act.put, Sa_, Sz_, Ss_, i64_w, i32_w]
      rfl
     refine take_ (i := 19) (N := some 24) (v := ?_) (a' := ?_) #[true, true, true, true, true, true, true, true, true, true, true, true, true, true, true, true, true, true, true, true, false, false, false, false, false, false, false, false, false, false, false, false] rfl rfl (take_ofW HT_.out HW_.out (by kernel_rfl)) (fun _ _ _ h => h) (Or.inl ⟨by rfl, ?_⟩) hHeld ?_ ?_
     rotate_left
     ·
      rintro w' ⟨s0, s1, s2, s3, s4⟩
      go_simp
      with_reducible rfl
     rotate_left
     ·
      simp only [Act.put, Sa_, Sz_, Ss_, i64_w, i32_w]
      rfl
     refine one_ (i := 20) (N := some 25) #[true, true, true, true, true, true, true, true, true, true, true, true, true, true, true, true, true, true, true, true, true, false, false, false, false, false, false, false, false, false, false, false] rfl rfl (one_of HT_.out (by kernel_rfl)) (by decide) (fun K hK => ?_)
     refine goes_ Tryd.func57 (by kernel_rfl) rfl #[.agg #[.int .i64 a0_3, .slice A0_4 l0_4.length c0_4]] (by rfl) rfl rfl (by (try simp only [List.map_toArray, List.map_cons, List.map_nil]); first | done | rfl | (simp only [List.length_drop, List.length_take]; rfl)) ?_
     with_reducible refine (bCheck.calls k a0_3 _ _ l0_4 t127 _ ?side1 ?side2 A8.out).mono ?_
     (case side1 => repeat (first | exact (Kd.C_below HR0_4.out (by repeat (first | (with_reducible first | exact HB.out | apply Al_ | apply Dn_ | apply D1_ | refine Bs_ ?_ GE124.out) | exact HB.out))) | (with_reducible first | refine Kd.C_alloc ?_ _ | refine Kd.C_drewN ?_ _ | refine Kd.C_drew ?_)))
     (case side2 => exact HC0_4.out)
     rintro e w13 ⟨rfl, hb⟩
     refine ⟨_, rfl, ?_⟩
     have n0_ := A0_ (blk_below (g := gb124) (o := .cells #[.int .i64 a0_0, .int .i64 a0_1, .slice A0_2 l0_2.length c0_2, .int .i64 a0_3, .slice A0_4 l0_4.length c0_4] 28 (0, 0)) (by (with_reducible repeat (first | refine Bn_ ?_ _ | refine Bd_ ?_ | refine Ba_ ?_ _)); exact BK124.out) hb)
     have n1_ := A0_ (below_step (by repeat (first | (with_reducible first | exact HB.out | apply Al_ | apply Dn_ | apply D1_ | refine Bs_ ?_ GE124.out) | exact HB.out)) hb)
     clear BK124
     clear HB
     have BK124 := n0_
     have HB := n1_
     clear n0_ n1_
     (try clear hb)
     (try clear hb2)
     (try clear hk)
     (try clear hi)
     refine hK.out _ _ ⟨(Bc_ BK124.out 0).trans rfl, (Bc_ BK124.out 1).trans rfl, (Bc_ BK124.out 2).trans rfl, (Bc_ BK124.out 3).trans rfl, (Bc_ BK124.out 4).trans rfl⟩ (fun hHeld => ?_)
     clear hK K
     refine norm_ (a' := ?_) ?_ ?_
     rotate_left
     ·
      show Act.put _ (some 25) _ = _
      simp only [Act.put, Sa_, Sz_, Ss_, i64_w, i32_w]
      rfl
     refine pure_ (i := 21) (N := some 26) (v := ?_) (a' := ?_) #[true, true, true, true, true, true, true, true, true, true, true, true, true, true, true, true, true, true, true, true, true, true, false, false, false, false, false, false, false, false, false, false] rfl rfl (any_of HT_.out (by kernel_rfl)) (fun _ _ _ h => h) (Or.inl ⟨by rfl, ?_⟩) ?_ ?_
     rotate_left
     ·
      intro w'
      go_simp
      with_reducible rfl
     rotate_left
     ·
      simp only [Act.put, Sa_, Sz_, Ss_, i64_w, i32_w]
      rfl
     refine pure_ (i := 22) (N := some 27) (v := ?_) (a' := ?_) #[true, true, true, true, true, true, true, true, true, true, true, true, true, true, true, true, true, true, true, true, true, true, true, false, false, false, false, false, false, false, false, false] rfl rfl (any_of HT_.out (by kernel_rfl)) (fun _ _ _ h => h) (Or.inl ⟨by rfl, ?_⟩) ?_ ?_
     rotate_left
     ·
      intro w'
      go_simp
      with_reducible rfl
     rotate_left
     ·
      simp only [Act.put, Sa_, Sz_, Ss_, i64_w, i32_w]
      rfl
     refine pure_ (i := 23) (N := some 28) (v := ?_) (a' := ?_) #[true, true, true, true, true, true, true, true, true, true, true, true, true, true, true, true, true, true, true, true, true, true, true, true, false, false, false, false, false, false, false, false] rfl rfl (any_of HT_.out (by kernel_rfl)) (fun _ _ _ h => h) (Or.inl ⟨by rfl, ?_⟩) ?_ ?_
     rotate_left
     ·
      intro w'
      go_simp
      with_reducible rfl
     rotate_left
     ·
      simp only [Act.put, Sa_, Sz_, Ss_, i64_w, i32_w]
      rfl
     refine pure_ (i := 24) (N := some 29) (v := undef) (a' := ?_) #[true, true, true, true, true, true, true, true, true, true, true, true, true, true, true, true, true, true, true, true, true, true, true, true, true, false, false, false, false, false, false, false] rfl rfl (any_of HT_.out (by kernel_rfl)) (fun _ _ _ h => h) (Or.inr ⟨by rfl, rfl⟩) ?_ ?_
     rotate_left
     ·
      simp only [Act.put, Sa_, Sz_, Ss_, i64_w, i32_w]
      rfl
     refine pure_ (i := 25) (N := some 30) (v := undef) (a' := ?_) #[true, true, true, true, true, true, true, true, true, true, true, true, true, true, true, true, true, true, true, true, true, true, true, true, true, true, false, false, false, false, false, false] rfl rfl (any_of HT_.out (by kernel_rfl)) (fun _ _ _ h => h) (Or.inr ⟨by rfl, rfl⟩) ?_ ?_
     rotate_left
     ·
      simp only [Act.put, Sa_, Sz_, Ss_, i64_w, i32_w]
      rfl
     refine pure_ (i := 26) (N := some 31) (v := undef) (a' := ?_) #[true, true, true, true, true, true, true, true, true, true, true, true, true, true, true, true, true, true, true, true, true, true, true, true, true, true, true, false, false, false, false, false] rfl rfl (any_of HT_.out (by kernel_rfl)) (fun _ _ _ h => h) (Or.inr ⟨by rfl, rfl⟩) ?_ ?_
     rotate_left
     ·
      simp only [Act.put, Sa_, Sz_, Ss_, i64_w, i32_w]
      rfl
     refine pure_ (i := 27) (N := some 32) (v := undef) (a' := ?_) #[true, true, true, true, true, true, true, true, true, true, true, true, true, true, true, true, true, true, true, true, true, true, true, true, true, true, true, true, false, false, false, false] rfl rfl (any_of HT_.out (by kernel_rfl)) (fun _ _ _ h => h) (Or.inr ⟨by rfl, rfl⟩) ?_ ?_
     rotate_left
     ·
      simp only [Act.put, Sa_, Sz_, Ss_, i64_w, i32_w]
      rfl
     refine pure_ (i := 28) (N := some 33) (v := undef) (a' := ?_) #[true, true, true, true, true, true, true, true, true, true, true, true, true, true, true, true, true, true, true, true, true, true, true, true, true, true, true, true, true, false, false, false] rfl rfl (any_of HT_.out (by kernel_rfl)) (fun _ _ _ h => h) (Or.inr ⟨by rfl, rfl⟩) ?_ ?_
     rotate_left
     ·
      simp only [Act.put, Sa_, Sz_, Ss_, i64_w, i32_w]
      rfl
     refine pure_ (i := 29) (N := some 34) (v := undef) (a' := ?_) #[true, true, true, true, true, true, true, true, true, true, true, true, true, true, true, true, true, true, true, true, true, true, true, true, true, true, true, true, true, true, false, false] rfl rfl (any_of HT_.out (by kernel_rfl)) (fun _ _ _ h => h) (Or.inr ⟨by rfl, rfl⟩) ?_ ?_
     rotate_left
     ·
      simp only [Act.put, Sa_, Sz_, Ss_, i64_w, i32_w]
      rfl
     refine pure_ (i := 30) (N := some 35) (v := undef) (a' := ?_) #[true, true, true, true, true, true, true, true, true, true, true, true, true, true, true, true, true, true, true, true, true, true, true, true, true, true, true, true, true, true, true, false] rfl rfl (any_of HT_.out (by kernel_rfl)) (fun _ _ _ h => h) (Or.inr ⟨by rfl, rfl⟩) ?_ ?_
     rotate_left
     ·
      simp only [Act.put, Sa_, Sz_, Ss_, i64_w, i32_w]
      rfl
     refine pure_ (i := 31) (N := some 36) (v := ?_) (a' := ?_) #[true, true, true, true, true, true, true, true, true, true, true, true, true, true, true, true, true, true, true, true, true, true, true, true, true, true, true, true, true, true, true, true] rfl rfl (any_of HT_.out (by kernel_rfl)) (fun _ _ _ h => h) (Or.inl ⟨by rfl, ?_⟩) ?_ ?_
     rotate_left
     ·
      intro w'
      go_simp
      with_reducible rfl
     rotate_left
     ·
      simp only [Act.put, Sa_, Sz_, Ss_, i64_w, i32_w]
      rfl
     refine done_ (done_of HT_.out (by kernel_rfl)) ?_
     try go_wp2
     go_meet
     case rel => exact ⟨_, (true), (by first | rfl | (simp; done) | (simp [*]; done)), H', ⟨by first | omega | exact Nat.le_refl _⟩, ⟨by (with_reducible repeat (first | refine Bn_ ?_ _ | refine Bd_ ?_ | refine Ba_ ?_ _)); exact BK124.out⟩, ⟨by repeat (first | (with_reducible first | exact HB.out | apply Al_ | apply Dn_ | apply D1_ | refine Bs_ ?_ GE124.out) | exact HB.out)⟩⟩
   ·
    rw [if_neg c7] at H
    have c7b0 : ((l0_2.length : Int) == t126) = false := beq_eq_false_iff_ne.mpr c7
    have c7b1 : ((l0_2.length : Int) != t126) = true := bne_iff_ne.mpr c7
    (first | rw [c7b0] | (simp only [i64_w, i32_w]; rw [c7b0]) | skip)
    have H' := A0_ H
    clear H
    try go_wp2
    have n0_ := A0_ (blk_drew BK124.out)
    have n1_ := A0_ (D1_ HB.out)
    clear BK124
    clear HB
    have BK124 := n0_
    have HB := n1_
    clear n0_ n1_
    refine start_ (n := 32) (S := fun w' => w'.cell? ⟨gb124, 0, none⟩ = some (.int .i64 a0_0) ∧ w'.cell? ⟨gb124, 1, none⟩ = some (.int .i64 a0_1) ∧ w'.cell? ⟨gb124, 2, none⟩ = some (.slice A0_2 l0_2.length c0_2) ∧ w'.cell? ⟨gb124, 3, none⟩ = some (.int .i64 a0_3) ∧ w'.cell? ⟨gb124, 4, none⟩ = some (.slice A0_4 l0_4.length c0_4)) (ds := []) #[false, false, false, false, false, false, false, false, false, false, false, false, false, false, false, false, false, false, false, false, false, false, false, false, false, false, false, false, false, false, false, false] (by kernel_rfl) rfl rfl ⟨(Bc_ BK124.out 0).trans rfl, (Bc_ BK124.out 1).trans rfl, (Bc_ BK124.out 2).trans rfl, (Bc_ BK124.out 3).trans rfl, (Bc_ BK124.out 4).trans rfl⟩ (fun hHeld => ?_); refine with_tabW iCheck.tab1 iCheck.bits1 (fun HT_ HW_ => ?_)
    generalize w3.drew = w14 at BK124 HB hHeld ⊢
    refine pure_ (i := 0) (N := some 5) (v := ?_) (a' := ?_) #[true, false, false, false, false, false, false, false, false, false, false, false, false, false, false, false, false, false, false, false, false, false, false, false, false, false, false, false, false, false, false, false] rfl rfl (any_of HT_.out (by kernel_rfl)) (fun _ _ _ h => h) (Or.inl ⟨by rfl, ?_⟩) ?_ ?_
    rotate_left
    ·
     intro w'
     go_simp
     with_reducible rfl
    rotate_left
    ·
     simp only [Act.put, Sa_, Sz_, Ss_, i64_w, i32_w]
     rfl
    refine pure_ (i := 2) (N := some 7) (v := ?_) (a' := ?_) #[true, false, true, false, false, false, false, false, false, false, false, false, false, false, false, false, false, false, false, false, false, false, false, false, false, false, false, false, false, false, false, false] rfl rfl (any_of HT_.out (by kernel_rfl)) (fun _ _ _ h => h) (Or.inl ⟨by rfl, ?_⟩) ?_ ?_
    rotate_left
    ·
     intro w'
     go_simp
     with_reducible rfl
    rotate_left
    ·
     simp only [Act.put, Sa_, Sz_, Ss_, i64_w, i32_w]
     rfl
    refine take_ (i := 1) (N := some 6) (v := ?_) (a' := ?_) #[true, true, true, false, false, false, false, false, false, false, false, false, false, false, false, false, false, false, false, false, false, false, false, false, false, false, false, false, false, false, false, false] rfl rfl (take_ofW HT_.out HW_.out (by kernel_rfl)) (fun _ _ _ h => h) (Or.inl ⟨by rfl, ?_⟩) hHeld ?_ ?_
    rotate_left
    ·
     rintro w' ⟨s0, s1, s2, s3, s4⟩
     go_simp
     with_reducible rfl
    rotate_left
    ·
     simp only [Act.put, Sa_, Sz_, Ss_, i64_w, i32_w]
     rfl
    refine take_ (i := 3) (N := some 8) (v := ?_) (a' := ?_) #[true, true, true, true, false, false, false, false, false, false, false, false, false, false, false, false, false, false, false, false, false, false, false, false, false, false, false, false, false, false, false, false] rfl rfl (take_ofW HT_.out HW_.out (by kernel_rfl)) (fun _ _ _ h => h) (Or.inl ⟨by rfl, ?_⟩) hHeld ?_ ?_
    rotate_left
    ·
     rintro w' ⟨s0, s1, s2, s3, s4⟩
     go_simp
     with_reducible rfl
    rotate_left
    ·
     simp only [Act.put, Sa_, Sz_, Ss_, i64_w, i32_w]
     rfl
    refine one_ (i := 4) (N := some 9) #[true, true, true, true, true, false, false, false, false, false, false, false, false, false, false, false, false, false, false, false, false, false, false, false, false, false, false, false, false, false, false, false] rfl rfl (one_of HT_.out (by kernel_rfl)) (by decide) (fun K hK => ?_)
    refine goes_ Tryd.func27 (by kernel_rfl) rfl #[.int .i64 a0_0, .int .i64 a0_1] (by rfl) rfl rfl (by (try simp only [List.map_toArray, List.map_cons, List.map_nil]); first | done | rfl | (simp only [List.length_drop, List.length_take]; rfl)) ?_
    with_reducible refine (isizes.calls a0_0 a0_1 true _ A4.out).mono ?_
    rintro e w' ⟨rfl, ⟨nd, rfl⟩⟩
    refine ⟨_, rfl, ?_⟩
    refine hK.out _ _ ⟨(Bc_ BK124.out 0).trans rfl, (Bc_ BK124.out 1).trans rfl, (Bc_ BK124.out 2).trans rfl, (Bc_ BK124.out 3).trans rfl, (Bc_ BK124.out 4).trans rfl⟩ (fun hHeld => ?_)
    clear hK K
    refine norm_ (a' := ?_) ?_ ?_
    rotate_left
    ·
     show Act.put _ (some 9) _ = _
     simp only [Act.put, Sa_, Sz_, Ss_, i64_w, i32_w]
     rfl
    refine pure_ (i := 5) (N := some 10) (v := ?_) (a' := ?_) #[true, true, true, true, true, true, false, false, false, false, false, false, false, false, false, false, false, false, false, false, false, false, false, false, false, false, false, false, false, false, false, false] rfl rfl (any_of HT_.out (by kernel_rfl)) (fun _ _ _ h => h) (Or.inl ⟨by rfl, ?_⟩) ?_ ?_
    rotate_left
    ·
     intro w'
     go_simp
     with_reducible rfl
    rotate_left
    ·
     simp only [Act.put, Sa_, Sz_, Ss_, i64_w, i32_w]
     rfl
    refine pure_ (i := 6) (N := some 11) (v := ?_) (a' := ?_) #[true, true, true, true, true, true, true, false, false, false, false, false, false, false, false, false, false, false, false, false, false, false, false, false, false, false, false, false, false, false, false, false] rfl rfl (any_of HT_.out (by kernel_rfl)) (fun _ _ _ h => h) (Or.inl ⟨by rfl, ?_⟩) ?_ ?_
    rotate_left
    ·
     intro w'
     go_simp
     with_reducible rfl
    rotate_left
    ·
     simp only [Act.put, Sa_, Sz_, Ss_, i64_w, i32_w]
     rfl
    refine pure_ (i := 7) (N := some 12) (v := ?_) (a' := ?_) #[true, true, true, true, true, true, true, true, false, false, false, false, false, false, false, false, false, false, false, false, false, false, false, false, false, false, false, false, false, false, false, false] rfl rfl (any_of HT_.out (by kernel_rfl)) (fun _ _ _ h => h) (Or.inl ⟨by rfl, ?_⟩) ?_ ?_
    rotate_left
    ·
     intro w'
     go_simp
     with_reducible rfl
    rotate_left
    ·
     simp only [Act.put, Sa_, Sz_, Ss_, i64_w, i32_w]
     rfl
    refine pure_ (i := 10) (N := some 15) (v := ?_) (a' := ?_) #[true, true, true, true, true, true, true, true, false, false, true, false, false, false, false, false, false, false, false, false, false, false, false, false, false, false, false, false, false, false, false, false] rfl rfl (any_of HT_.out (by kernel_rfl)) (fun _ _ _ h => h) (Or.inl ⟨by rfl, ?_⟩) ?_ ?_
    rotate_left
    ·
     intro w'
     go_simp
     with_reducible rfl
    rotate_left
    ·
     simp only [Act.put, Sa_, Sz_, Ss_, i64_w, i32_w]
     rfl
    refine pure_ (i := 12) (N := some 17) (v := ?_) (a' := ?_) #[true, true, true, true, true, true, true, true, false, false, true, false, true, false, false, false, false, false, false, false, false, false, false, false, false, false, false, false, false, false, false, false] rfl rfl (any_of HT_.out (by kernel_rfl)) (fun _ _ _ h => h) (Or.inl ⟨by rfl, ?_⟩) ?_ ?_
    rotate_left
    ·
     intro w'
     go_simp
     with_reducible rfl
    rotate_left
    ·
     simp only [Act.put, Sa_, Sz_, Ss_, i64_w, i32_w]
     rfl
    refine take_ (i := 8) (N := some 13) (v := ?_) (a' := ?_) #[true, true, true, true, true, true, true, true, true, false, true, false, true, false, false, false, false, false, false, false, false, false, false, false, false, false, false, false, false, false, false, false] rfl rfl (take_ofW HT_.out HW_.out (by kernel_rfl)) (fun _ _ _ h => h) (Or.inl ⟨by rfl, ?_⟩) hHeld ?_ ?_
    rotate_left
    ·
     rintro w' ⟨s0, s1, s2, s3, s4⟩
     go_simp
     with_reducible rfl
    rotate_left
    ·
     simp only [Act.put, Sa_, Sz_, Ss_, i64_w, i32_w]
     rfl
    refine pure_ (i := 9) (N := some 14) (v := ?_) (a' := ?_) #[true, true, true, true, true, true, true, true, true, true, true, false, true, false, false, false, false, false, false, false, false, false, false, false, false, false, false, false, false, false, false, false] rfl rfl (any_of HT_.out (by kernel_rfl)) (fun _ _ _ h => h) (Or.inl ⟨by rfl, ?_⟩) ?_ ?_
    rotate_left
    ·
     intro w'
     go_simp
     with_reducible rfl
    rotate_left
    ·
     simp only [Act.put, Sa_, Sz_, Ss_, i64_w, i32_w]
     rfl
    refine take_ (i := 11) (N := some 16) (v := ?_) (a' := ?_) #[true, true, true, true, true, true, true, true, true, true, true, true, true, false, false, false, false, false, false, false, false, false, false, false, false, false, false, false, false, false, false, false] rfl rfl (take_ofW HT_.out HW_.out (by kernel_rfl)) (fun _ _ _ h => h) (Or.inl ⟨by rfl, ?_⟩) hHeld ?_ ?_
    rotate_left
    ·
     rintro w' ⟨s0, s1, s2, s3, s4⟩
     go_simp
     with_reducible rfl
    rotate_left
    ·
     simp only [Act.put, Sa_, Sz_, Ss_, i64_w, i32_w]
     rfl
    refine take_ (i := 13) (N := some 18) (v := ?_) (a' := ?_) #[true, true, true, true, true, true, true, true, true, true, true, true, true, true, false, false, false, false, false, false, false, false, false, false, false, false, false, false, false, false, false, false] rfl rfl (take_ofW HT_.out HW_.out (by kernel_rfl)) (fun _ _ _ h => h) (Or.inl ⟨by rfl, ?_⟩) hHeld ?_ ?_
    rotate_left
    ·
     rintro w' ⟨s0, s1, s2, s3, s4⟩
     go_simp
     with_reducible rfl
    rotate_left
    ·
     simp only [Act.put, Sa_, Sz_, Ss_, i64_w, i32_w]
     rfl
    refine one_ (i := 14) (N := some 19) #[true, true, true, true, true, true, true, true, true, true, true, true, true, true, true, false, false, false, false, false, false, false, false, false, false, false, false, false, false, false, false, false] rfl rfl (one_of HT_.out (by kernel_rfl)) (by decide) (fun K hK => ?_)
    refine goes_ Tryd.func28 (by kernel_rfl) rfl #[.int .i64 a0_0, .int .i64 a0_1] (by rfl) rfl rfl (by (try simp only [List.map_toArray, List.map_cons, List.map_nil]); first | done | rfl | (simp only [List.length_drop, List.length_take]; rfl)) ?_
    with_reducible refine (igranules.calls a0_0 a0_1 t126 _ A6.out).mono ?_
    rintro e w' ⟨rfl, ⟨nd, rfl⟩⟩
    refine ⟨_, rfl, ?_⟩
    refine hK.out _ _ ⟨(Bc_ BK124.out 0).trans rfl, (Bc_ BK124.out 1).trans rfl, (Bc_ BK124.out 2).trans rfl, (Bc_ BK124.out 3).trans rfl, (Bc_ BK124.out 4).trans rfl⟩ (fun hHeld => ?_)
    clear hK K
    refine norm_ (a' := ?_) ?_ ?_
    rotate_left
    ·
     show Act.put _ (some 19) _ = _
     simp only [Act.put, Sa_, Sz_, Ss_, i64_w, i32_w]
     rfl
    refine pure_ (i := 15) (N := some 20) (v := ?_) (a' := ?_) #[true, true, true, true, true, true, true, true, true, true, true, true, true, true, true, true, false, false, false, false, false, false, false, false, false, false, false, false, false, false, false, false] rfl rfl (any_of HT_.out (by kernel_rfl)) (fun _ _ _ h => h) (Or.inl ⟨by rfl, ?_⟩) ?_ ?_
    rotate_left
    ·
     intro w'
     go_simp
     with_reducible rfl
    rotate_left
    ·
     simp only [Act.put, Sa_, Sz_, Ss_, i64_w, i32_w]
     rfl
    refine pure_ (i := 16) (N := some 21) (v := ?_) (a' := ?_) #[true, true, true, true, true, true, true, true, true, true, true, true, true, true, true, true, true, false, false, false, false, false, false, false, false, false, false, false, false, false, false, false] rfl rfl (any_of HT_.out (by kernel_rfl)) (fun _ _ _ h => h) (Or.inl ⟨by rfl, ?_⟩) ?_ ?_
    rotate_left
    ·
     intro w'
     go_simp
     with_reducible rfl
    rotate_left
    ·
     simp only [Act.put, Sa_, Sz_, Ss_, i64_w, i32_w]
     rfl
    refine pure_ (i := 17) (N := some 22) (v := ?_) (a' := ?_) #[true, true, true, true, true, true, true, true, true, true, true, true, true, true, true, true, true, true, false, false, false, false, false, false, false, false, false, false, false, false, false, false] rfl rfl (any_of HT_.out (by kernel_rfl)) (fun _ _ _ h => h) (Or.inl ⟨by rfl, ?_⟩) ?_ ?_
    rotate_left
    ·
     intro w'
     go_simp
     with_reducible rfl
    rotate_left
    ·
     simp only [Act.put, Sa_, Sz_, Ss_, i64_w, i32_w]
     rfl
    refine pure_ (i := 18) (N := some 23) (v := undef) (a' := ?_) #[true, true, true, true, true, true, true, true, true, true, true, true, true, true, true, true, true, true, true, false, false, false, false, false, false, false, false, false, false, false, false, false] rfl rfl (any_of HT_.out (by kernel_rfl)) (fun _ _ _ h => h) (Or.inr ⟨by rfl, rfl⟩) ?_ ?_
    rotate_left
    ·
     simp only [Act.put, Sa_, Sz_, Ss_, i64_w, i32_w]
     rfl
    refine pure_ (i := 19) (N := some 24) (v := undef) (a' := ?_) #[true, true, true, true, true, true, true, true, true, true, true, true, true, true, true, true, true, true, true, true, false, false, false, false, false, false, false, false, false, false, false, false] rfl rfl (any_of HT_.out (by kernel_rfl)) (fun _ _ _ h => h) (Or.inr ⟨by rfl, rfl⟩) ?_ ?_
    rotate_left
    ·
     simp only [Act.put, Sa_, Sz_, Ss_, i64_w, i32_w]
     rfl
    refine pure_ (i := 20) (N := some 25) (v := undef) (a' := ?_) #[true, true, true, true, true, true, true, true, true, true, true, true, true, true, true, true, true, true, true, true, true, false, false, false, false, false, false, false, false, false, false, false] rfl rfl (any_of HT_.out (by kernel_rfl)) (fun _ _ _ h => h) (Or.inr ⟨by rfl, rfl⟩) ?_ ?_
    rotate_left
    ·
     simp only [Act.put, Sa_, Sz_, Ss_, i64_w, i32_w]
     rfl
    refine pure_ (i := 21) (N := some 26) (v := undef) (a' := ?_) #[true, true, true, true, true, true, true, true, true, true, true, true, true, true, true, true, true, true, true, true, true, true, false, false, false, false, false, false, false, false, false, false] rfl rfl (any_of HT_.out (by kernel_rfl)) (fun _ _ _ h => h) (Or.inr ⟨by rfl, rfl⟩) ?_ ?_
    rotate_left
    ·
     simp only [Act.put, Sa_, Sz_, Ss_, i64_w, i32_w]
     rfl
    refine pure_ (i := 22) (N := some 27) (v := ?_) (a' := ?_) #[true, true, true, true, true, true, true, true, true, true, true, true, true, true, true, true, true, true, true, true, true, true, true, false, false, false, false, false, false, false, false, false] rfl rfl (any_of HT_.out (by kernel_rfl)) (fun _ _ _ h => h) (Or.inl ⟨by rfl, ?_⟩) ?_ ?_
    rotate_left
    ·
     intro w'
     go_simp
     with_reducible rfl
    rotate_left
    ·
     simp only [Act.put, Sa_, Sz_, Ss_, i64_w, i32_w]
     rfl
    refine pure_ (i := 23) (N := some 28) (v := ?_) (a' := ?_) #[true, true, true, true, true, true, true, true, true, true, true, true, true, true, true, true, true, true, true, true, true, true, true, true, false, false, false, false, false, false, false, false] rfl rfl (any_of HT_.out (by kernel_rfl)) (fun _ _ _ h => h) (Or.inl ⟨by rfl, ?_⟩) ?_ ?_
    rotate_left
    ·
     intro w'
     go_simp
     with_reducible rfl
    rotate_left
    ·
     simp only [Act.put, Sa_, Sz_, Ss_, i64_w, i32_w]
     rfl
    refine pure_ (i := 24) (N := some 29) (v := undef) (a' := ?_) #[true, true, true, true, true, true, true, true, true, true, true, true, true, true, true, true, true, true, true, true, true, true, true, true, true, false, false, false, false, false, false, false] rfl rfl (any_of HT_.out (by kernel_rfl)) (fun _ _ _ h => h) (Or.inr ⟨by rfl, rfl⟩) ?_ ?_
    rotate_left
    ·
     simp only [Act.put, Sa_, Sz_, Ss_, i64_w, i32_w]
     rfl
    refine pure_ (i := 25) (N := some 30) (v := undef) (a' := ?_) #[true, true, true, true, true, true, true, true, true, true, true, true, true, true, true, true, true, true, true, true, true, true, true, true, true, true, false, false, false, false, false, false] rfl rfl (any_of HT_.out (by kernel_rfl)) (fun _ _ _ h => h) (Or.inr ⟨by rfl, rfl⟩) ?_ ?_
    rotate_left
    ·
     simp only [Act.put, Sa_, Sz_, Ss_, i64_w, i32_w]
     rfl
    refine pure_ (i := 26) (N := some 31) (v := undef) (a' := ?_) #[true, true, true, true, true, true, true, true, true, true, true, true, true, true, true, true, true, true, true, true, true, true, true, true, true, true, true, false, false, false, false, false] rfl rfl (any_of HT_.out (by kernel_rfl)) (fun _ _ _ h => h) (Or.inr ⟨by rfl, rfl⟩) ?_ ?_
    rotate_left
    ·
     simp only [Act.put, Sa_, Sz_, Ss_, i64_w, i32_w]
     rfl
    refine pure_ (i := 27) (N := some 32) (v := undef) (a' := ?_) #[true, true, true, true, true, true, true, true, true, true, true, true, true, true, true, true, true, true, true, true, true, true, true, true, true, true, true, true, false, false, false, false] rfl rfl (any_of HT_.out (by kernel_rfl)) (fun _ _ _ h => h) (Or.inr ⟨by rfl, rfl⟩) ?_ ?_
    rotate_left
    ·
     simp only [Act.put, Sa_, Sz_, Ss_, i64_w, i32_w]
     rfl
    refine pure_ (i := 28) (N := some 33) (v := undef) (a' := ?_) #[true, true, true, true, true, true, true, true, true, true, true, true, true, true, true, true, true, true, true, true, true, true, true, true, true, true, true, true, true, false, false, false] rfl rfl (any_of HT_.out (by kernel_rfl)) (fun _ _ _ h => h) (Or.inr ⟨by rfl, rfl⟩) ?_ ?_
    rotate_left
    ·
     simp only [Act.put, Sa_, Sz_, Ss_, i64_w, i32_w]
     rfl
    refine pure_ (i := 29) (N := some 34) (v := undef) (a' := ?_) #[true, true, true, true, true, true, true, true, true, true, true, true, true, true, true, true, true, true, true, true, true, true, true, true, true, true, true, true, true, true, false, false] rfl rfl (any_of HT_.out (by kernel_rfl)) (fun _ _ _ h => h) (Or.inr ⟨by rfl, rfl⟩) ?_ ?_
    rotate_left
    ·
     simp only [Act.put, Sa_, Sz_, Ss_, i64_w, i32_w]
     rfl
    refine pure_ (i := 30) (N := some 35) (v := undef) (a' := ?_) #[true, true, true, true, true, true, true, true, true, true, true, true, true, true, true, true, true, true, true, true, true, true, true, true, true, true, true, true, true, true, true, false] rfl rfl (any_of HT_.out (by kernel_rfl)) (fun _ _ _ h => h) (Or.inr ⟨by rfl, rfl⟩) ?_ ?_
    rotate_left
    ·
     simp only [Act.put, Sa_, Sz_, Ss_, i64_w, i32_w]
     rfl
    refine pure_ (i := 31) (N := some 36) (v := ?_) (a' := ?_) #[true, true, true, true, true, true, true, true, true, true, true, true, true, true, true, true, true, true, true, true, true, true, true, true, true, true, true, true, true, true, true, true] rfl rfl (any_of HT_.out (by kernel_rfl)) (fun _ _ _ h => h) (Or.inl ⟨by rfl, ?_⟩) ?_ ?_
    rotate_left
    ·
     intro w'
     go_simp
     with_reducible rfl
    rotate_left
    ·
     simp only [Act.put, Sa_, Sz_, Ss_, i64_w, i32_w]
     rfl
    refine done_ (done_of HT_.out (by kernel_rfl)) ?_
    try go_wp2
    go_meet
    case rel => exact ⟨_, (true), (by first | rfl | (simp; done) | (simp [*]; done)), H', ⟨by first | omega | exact Nat.le_refl _⟩, ⟨by (with_reducible repeat (first | refine Bn_ ?_ _ | refine Bd_ ?_ | refine Ba_ ?_ _)); exact BK124.out⟩, ⟨by repeat (first | (with_reducible first | exact HB.out | apply Al_ | apply Dn_ | apply D1_ | refine Bs_ ?_ GE124.out) | exact HB.out)⟩⟩
  ·
   replace c5 := Bool.eq_false_iff.mpr c5
   subst c5
   have H1 : (iCheck.j0 k true a0_0 a0_1 l0_2 a0_3 l0_4) = some r := by rw [if_neg (show ¬ (false = true) by decide)] at H; exact H
   clear H
   have H := H1
   clear H1
   have H' := A0_ H
   clear H
   try go_wp2
   have n0_ := A0_ (blk_drew BK124.out)
   have n1_ := A0_ (D1_ HB.out)
   clear BK124
   clear HB
   have BK124 := n0_
   have HB := n1_
   clear n0_ n1_
   refine start_ (n := 32) (S := fun w' => w'.cell? ⟨gb124, 0, none⟩ = some (.int .i64 a0_0) ∧ w'.cell? ⟨gb124, 1, none⟩ = some (.int .i64 a0_1) ∧ w'.cell? ⟨gb124, 2, none⟩ = some (.slice A0_2 l0_2.length c0_2) ∧ w'.cell? ⟨gb124, 3, none⟩ = some (.int .i64 a0_3) ∧ w'.cell? ⟨gb124, 4, none⟩ = some (.slice A0_4 l0_4.length c0_4)) (ds := []) #[false, false, false, false, false, false, false, false, false, false, false, false, false, false, false, false, false, false, false, false, false, false, false, false, false, false, false, false, false, false, false, false] (by kernel_rfl) rfl rfl ⟨(Bc_ BK124.out 0).trans rfl, (Bc_ BK124.out 1).trans rfl, (Bc_ BK124.out 2).trans rfl, (Bc_ BK124.out 3).trans rfl, (Bc_ BK124.out 4).trans rfl⟩ (fun hHeld => ?_); refine with_tabW iCheck.tab1 iCheck.bits1 (fun HT_ HW_ => ?_)
   generalize w3.drew = w15 at BK124 HB hHeld ⊢
   refine pure_ (i := 0) (N := some 5) (v := ?_) (a' := ?_) #[true, false, false, false, false, false, false, false, false, false, false, false, false, false, false, false, false, false, false, false, false, false, false, false, false, false, false, false, false, false, false, false] rfl rfl (any_of HT_.out (by kernel_rfl)) (fun _ _ _ h => h) (Or.inl ⟨by rfl, ?_⟩) ?_ ?_
   rotate_left
   ·
    intro w'
    go_simp
    with_reducible rfl
   rotate_left
   ·
    simp only [Act.put, Sa_, Sz_, Ss_, i64_w, i32_w]
    rfl
   refine pure_ (i := 2) (N := some 7) (v := ?_) (a' := ?_) #[true, false, true, false, false, false, false, false, false, false, false, false, false, false, false, false, false, false, false, false, false, false, false, false, false, false, false, false, false, false, false, false] rfl rfl (any_of HT_.out (by kernel_rfl)) (fun _ _ _ h => h) (Or.inl ⟨by rfl, ?_⟩) ?_ ?_
   rotate_left
   ·
    intro w'
    go_simp
    with_reducible rfl
   rotate_left
   ·
    simp only [Act.put, Sa_, Sz_, Ss_, i64_w, i32_w]
    rfl
   refine take_ (i := 1) (N := some 6) (v := ?_) (a' := ?_) #[true, true, true, false, false, false, false, false, false, false, false, false, false, false, false, false, false, false, false, false, false, false, false, false, false, false, false, false, false, false, false, false] rfl rfl (take_ofW HT_.out HW_.out (by kernel_rfl)) (fun _ _ _ h => h) (Or.inl ⟨by rfl, ?_⟩) hHeld ?_ ?_
   rotate_left
   ·
    rintro w' ⟨s0, s1, s2, s3, s4⟩
    go_simp
    with_reducible rfl
   rotate_left
   ·
    simp only [Act.put, Sa_, Sz_, Ss_, i64_w, i32_w]
    rfl
   refine take_ (i := 3) (N := some 8) (v := ?_) (a' := ?_) #[true, true, true, true, false, false, false, false, false, false, false, false, false, false, false, false, false, false, false, false, false, false, false, false, false, false, false, false, false, false, false, false] rfl rfl (take_ofW HT_.out HW_.out (by kernel_rfl)) (fun _ _ _ h => h) (Or.inl ⟨by rfl, ?_⟩) hHeld ?_ ?_
   rotate_left
   ·
    rintro w' ⟨s0, s1, s2, s3, s4⟩
    go_simp
    with_reducible rfl
   rotate_left
   ·
    simp only [Act.put, Sa_, Sz_, Ss_, i64_w, i32_w]
    rfl
   refine one_ (i := 4) (N := some 9) #[true, true, true, true, true, false, false, false, false, false, false, false, false, false, false, false, false, false, false, false, false, false, false, false, false, false, false, false, false, false, false, false] rfl rfl (one_of HT_.out (by kernel_rfl)) (by decide) (fun K hK => ?_)
   refine goes_ Tryd.func27 (by kernel_rfl) rfl #[.int .i64 a0_0, .int .i64 a0_1] (by rfl) rfl rfl (by (try simp only [List.map_toArray, List.map_cons, List.map_nil]); first | done | rfl | (simp only [List.length_drop, List.length_take]; rfl)) ?_
   with_reducible refine (isizes.calls a0_0 a0_1 false _ A4.out).mono ?_
   rintro e w' ⟨rfl, ⟨nd, rfl⟩⟩
   refine ⟨_, rfl, ?_⟩
   refine hK.out _ _ ⟨(Bc_ BK124.out 0).trans rfl, (Bc_ BK124.out 1).trans rfl, (Bc_ BK124.out 2).trans rfl, (Bc_ BK124.out 3).trans rfl, (Bc_ BK124.out 4).trans rfl⟩ (fun hHeld => ?_)
   clear hK K
   refine norm_ (a' := ?_) ?_ ?_
   rotate_left
   ·
    show Act.put _ (some 9) _ = _
    simp only [Act.put, Sa_, Sz_, Ss_, i64_w, i32_w]
    rfl
   refine pure_ (i := 5) (N := some 10) (v := ?_) (a' := ?_) #[true, true, true, true, true, true, false, false, false, false, false, false, false, false, false, false, false, false, false, false, false, false, false, false, false, false, false, false, false, false, false, false] rfl rfl (any_of HT_.out (by kernel_rfl)) (fun _ _ _ h => h) (Or.inl ⟨by rfl, ?_⟩) ?_ ?_
   rotate_left
   ·
    intro w'
    go_simp
    with_reducible rfl
   rotate_left
   ·
    simp only [Act.put, Sa_, Sz_, Ss_, i64_w, i32_w]
    rfl
   refine pure_ (i := 6) (N := some 11) (v := ?_) (a' := ?_) #[true, true, true, true, true, true, true, false, false, false, false, false, false, false, false, false, false, false, false, false, false, false, false, false, false, false, false, false, false, false, false, false] rfl rfl (any_of HT_.out (by kernel_rfl)) (fun _ _ _ h => h) (Or.inl ⟨by rfl, ?_⟩) ?_ ?_
   rotate_left
   ·
    intro w'
    go_simp
    with_reducible rfl
   rotate_left
   ·
    simp only [Act.put, Sa_, Sz_, Ss_, i64_w, i32_w]
    rfl
   refine pure_ (i := 7) (N := some 12) (v := undef) (a' := ?_) #[true, true, true, true, true, true, true, true, false, false, false, false, false, false, false, false, false, false, false, false, false, false, false, false, false, false, false, false, false, false, false, false] rfl rfl (any_of HT_.out (by kernel_rfl)) (fun _ _ _ h => h) (Or.inr ⟨by rfl, rfl⟩) ?_ ?_
   rotate_left
   ·
    simp only [Act.put, Sa_, Sz_, Ss_, i64_w, i32_w]
    rfl
   refine pure_ (i := 8) (N := some 13) (v := undef) (a' := ?_) #[true, true, true, true, true, true, true, true, true, false, false, false, false, false, false, false, false, false, false, false, false, false, false, false, false, false, false, false, false, false, false, false] rfl rfl (any_of HT_.out (by kernel_rfl)) (fun _ _ _ h => h) (Or.inr ⟨by rfl, rfl⟩) ?_ ?_
   rotate_left
   ·
    simp only [Act.put, Sa_, Sz_, Ss_, i64_w, i32_w]
    rfl
   refine pure_ (i := 9) (N := some 14) (v := undef) (a' := ?_) #[true, true, true, true, true, true, true, true, true, true, false, false, false, false, false, false, false, false, false, false, false, false, false, false, false, false, false, false, false, false, false, false] rfl rfl (any_of HT_.out (by kernel_rfl)) (fun _ _ _ h => h) (Or.inr ⟨by rfl, rfl⟩) ?_ ?_
   rotate_left
   ·
    simp only [Act.put, Sa_, Sz_, Ss_, i64_w, i32_w]
    rfl
   refine pure_ (i := 10) (N := some 15) (v := undef) (a' := ?_) #[true, true, true, true, true, true, true, true, true, true, true, false, false, false, false, false, false, false, false, false, false, false, false, false, false, false, false, false, false, false, false, false] rfl rfl (any_of HT_.out (by kernel_rfl)) (fun _ _ _ h => h) (Or.inr ⟨by rfl, rfl⟩) ?_ ?_
   rotate_left
   ·
    simp only [Act.put, Sa_, Sz_, Ss_, i64_w, i32_w]
    rfl
   refine pure_ (i := 11) (N := some 16) (v := undef) (a' := ?_) #[true, true, true, true, true, true, true, true, true, true, true, true, false, false, false, false, false, false, false, false, false, false, false, false, false, false, false, false, false, false, false, false] rfl rfl (any_of HT_.out (by kernel_rfl)) (fun _ _ _ h => h) (Or.inr ⟨by rfl, rfl⟩) ?_ ?_
   rotate_left
   ·
    simp only [Act.put, Sa_, Sz_, Ss_, i64_w, i32_w]
    rfl
   refine pure_ (i := 12) (N := some 17) (v := undef) (a' := ?_) #[true, true, true, true, true, true, true, true, true, true, true, true, true, false, false, false, false, false, false, false, false, false, false, false, false, false, false, false, false, false, false, false] rfl rfl (any_of HT_.out (by kernel_rfl)) (fun _ _ _ h => h) (Or.inr ⟨by rfl, rfl⟩) ?_ ?_
   rotate_left
   ·
    simp only [Act.put, Sa_, Sz_, Ss_, i64_w, i32_w]
    rfl
   refine pure_ (i := 13) (N := some 18) (v := undef) (a' := ?_) #[true, true, true, true, true, true, true, true, true, true, true, true, true, true, false, false, false, false, false, false, false, false, false, false, false, false, false, false, false, false, false, false] rfl rfl (any_of HT_.out (by kernel_rfl)) (fun _ _ _ h => h) (Or.inr ⟨by rfl, rfl⟩) ?_ ?_
   rotate_left
   ·
    simp only [Act.put, Sa_, Sz_, Ss_, i64_w, i32_w]
    rfl
   refine pure_ (i := 14) (N := some 19) (v := undef) (a' := ?_) #[true, true, true, true, true, true, true, true, true, true, true, true, true, true, true, false, false, false, false, false, false, false, false, false, false, false, false, false, false, false, false, false] rfl rfl (any_of HT_.out (by kernel_rfl)) (fun _ _ _ h => h) (Or.inr ⟨by rfl, rfl⟩) ?_ ?_
   rotate_left
   ·
    simp only [Act.put, Sa_, Sz_, Ss_, i64_w, i32_w]
    rfl
   refine pure_ (i := 15) (N := some 20) (v := undef) (a' := ?_) #[true, true, true, true, true, true, true, true, true, true, true, true, true, true, true, true, false, false, false, false, false, false, false, false, false, false, false, false, false, false, false, false] rfl rfl (any_of HT_.out (by kernel_rfl)) (fun _ _ _ h => h) (Or.inr ⟨by rfl, rfl⟩) ?_ ?_
   rotate_left
   ·
    simp only [Act.put, Sa_, Sz_, Ss_, i64_w, i32_w]
    rfl
   refine pure_ (i := 16) (N := some 21) (v := ?_) (a' := ?_) #[true, true, true, true, true, true, true, true, true, true, true, true, true, true, true, true, true, false, false, false, false, false, false, false, false, false, false, false, false, false, false, false] rfl rfl (any_of HT_.out (by kernel_rfl)) (fun _ _ _ h => h) (Or.inl ⟨by rfl, ?_⟩) ?_ ?_
   rotate_left
   ·
    intro w'
    go_simp
    with_reducible rfl
   rotate_left
   ·
    simp only [Act.put, Sa_, Sz_, Ss_, i64_w, i32_w]
    rfl
   refine pure_ (i := 17) (N := some 22) (v := ?_) (a' := ?_) #[true, true, true, true, true, true, true, true, true, true, true, true, true, true, true, true, true, true, false, false, false, false, false, false, false, false, false, false, false, false, false, false] rfl rfl (any_of HT_.out (by kernel_rfl)) (fun _ _ _ h => h) (Or.inl ⟨by rfl, ?_⟩) ?_ ?_
   rotate_left
   ·
    intro w'
    go_simp
    with_reducible rfl
   rotate_left
   ·
    simp only [Act.put, Sa_, Sz_, Ss_, i64_w, i32_w]
    rfl
   refine pure_ (i := 18) (N := some 23) (v := undef) (a' := ?_) #[true, true, true, true, true, true, true, true, true, true, true, true, true, true, true, true, true, true, true, false, false, false, false, false, false, false, false, false, false, false, false, false] rfl rfl (any_of HT_.out (by kernel_rfl)) (fun _ _ _ h => h) (Or.inr ⟨by rfl, rfl⟩) ?_ ?_
   rotate_left
   ·
    simp only [Act.put, Sa_, Sz_, Ss_, i64_w, i32_w]
    rfl
   refine pure_ (i := 19) (N := some 24) (v := undef) (a' := ?_) #[true, true, true, true, true, true, true, true, true, true, true, true, true, true, true, true, true, true, true, true, false, false, false, false, false, false, false, false, false, false, false, false] rfl rfl (any_of HT_.out (by kernel_rfl)) (fun _ _ _ h => h) (Or.inr ⟨by rfl, rfl⟩) ?_ ?_
   rotate_left
   ·
    simp only [Act.put, Sa_, Sz_, Ss_, i64_w, i32_w]
    rfl
   refine pure_ (i := 20) (N := some 25) (v := undef) (a' := ?_) #[true, true, true, true, true, true, true, true, true, true, true, true, true, true, true, true, true, true, true, true, true, false, false, false, false, false, false, false, false, false, false, false] rfl rfl (any_of HT_.out (by kernel_rfl)) (fun _ _ _ h => h) (Or.inr ⟨by rfl, rfl⟩) ?_ ?_
   rotate_left
   ·
    simp only [Act.put, Sa_, Sz_, Ss_, i64_w, i32_w]
    rfl
   refine pure_ (i := 21) (N := some 26) (v := undef) (a' := ?_) #[true, true, true, true, true, true, true, true, true, true, true, true, true, true, true, true, true, true, true, true, true, true, false, false, false, false, false, false, false, false, false, false] rfl rfl (any_of HT_.out (by kernel_rfl)) (fun _ _ _ h => h) (Or.inr ⟨by rfl, rfl⟩) ?_ ?_
   rotate_left
   ·
    simp only [Act.put, Sa_, Sz_, Ss_, i64_w, i32_w]
    rfl
   refine pure_ (i := 22) (N := some 27) (v := ?_) (a' := ?_) #[true, true, true, true, true, true, true, true, true, true, true, true, true, true, true, true, true, true, true, true, true, true, true, false, false, false, false, false, false, false, false, false] rfl rfl (any_of HT_.out (by kernel_rfl)) (fun _ _ _ h => h) (Or.inl ⟨by rfl, ?_⟩) ?_ ?_
   rotate_left
   ·
    intro w'
    go_simp
    with_reducible rfl
   rotate_left
   ·
    simp only [Act.put, Sa_, Sz_, Ss_, i64_w, i32_w]
    rfl
   refine pure_ (i := 23) (N := some 28) (v := ?_) (a' := ?_) #[true, true, true, true, true, true, true, true, true, true, true, true, true, true, true, true, true, true, true, true, true, true, true, true, false, false, false, false, false, false, false, false] rfl rfl (any_of HT_.out (by kernel_rfl)) (fun _ _ _ h => h) (Or.inl ⟨by rfl, ?_⟩) ?_ ?_
   rotate_left
   ·
    intro w'
    go_simp
    with_reducible rfl
   rotate_left
   ·
    simp only [Act.put, Sa_, Sz_, Ss_, i64_w, i32_w]
    rfl
   refine pure_ (i := 24) (N := some 29) (v := undef) (a' := ?_) #[true, true, true, true, true, true, true, true, true, true, true, true, true, true, true, true, true, true, true, true, true, true, true, true, true, false, false, false, false, false, false, false] rfl rfl (any_of HT_.out (by kernel_rfl)) (fun _ _ _ h => h) (Or.inr ⟨by rfl, rfl⟩) ?_ ?_
   rotate_left
   ·
    simp only [Act.put, Sa_, Sz_, Ss_, i64_w, i32_w]
    rfl
   refine pure_ (i := 25) (N := some 30) (v := undef) (a' := ?_) #[true, true, true, true, true, true, true, true, true, true, true, true, true, true, true, true, true, true, true, true, true, true, true, true, true, true, false, false, false, false, false, false] rfl rfl (any_of HT_.out (by kernel_rfl)) (fun _ _ _ h => h) (Or.inr ⟨by rfl, rfl⟩) ?_ ?_
   rotate_left
   ·
    simp only [Act.put, Sa_, Sz_, Ss_, i64_w, i32_w]
    rfl
   refine pure_ (i := 26) (N := some 31) (v := undef) (a' := ?_) #[true, true, true, true, true, true, true, true, true, true, true, true, true, true, true, true, true, true, true, true, true, true, true, true, true, true, true, false, false, false, false, false] rfl rfl (any_of HT_.out (by kernel_rfl)) (fun _ _ _ h => h) (Or.inr ⟨by rfl, rfl⟩) ?_ ?_
   rotate_left
   ·
    simp only [Act.put, Sa_, Sz_, Ss_, i64_w, i32_w]
    rfl
   refine pure_ (i := 27) (N := some 32) (v := undef) (a' := ?_) #[true, true, true, true, true, true, true, true, true, true, true, true, true, true, true, true, true, true, true, true, true, true, true, true, true, true, true, true, false, false, false, false] rfl rfl (any_of HT_.out (by kernel_rfl)) (fun _ _ _ h => h) (Or.inr ⟨by rfl, rfl⟩) ?_ ?_
   rotate_left
   ·
    simp only [Act.put, Sa_, Sz_, Ss_, i64_w, i32_w]
    rfl
   refine pure_ (i := 28) (N := some 33) (v := undef) (a' := ?_) #[true, true, true, true, true, true, true, true, true, true, true, true, true, true, true, true, true, true, true, true, true, true, true, true, true, true, true, true, true, false, false, false] rfl rfl (any_of HT_.out (by kernel_rfl)) (fun _ _ _ h => h) (Or.inr ⟨by rfl, rfl⟩) ?_ ?_
   rotate_left
   ·
    simp only [Act.put, Sa_, Sz_, Ss_, i64_w, i32_w]
    rfl
   refine pure_ (i := 29) (N := some 34) (v := undef) (a' := ?_) #[true, true, true, true, true, true, true, true, true, true, true, true, true, true, true, true, true, true, true, true, true, true, true, true, true, true, true, true, true, true, false, false] rfl rfl (any_of HT_.out (by kernel_rfl)) (fun _ _ _ h => h) (Or.inr ⟨by rfl, rfl⟩) ?_ ?_
   rotate_left
   ·
    simp only [Act.put, Sa_, Sz_, Ss_, i64_w, i32_w]
    rfl
   refine pure_ (i := 30) (N := some 35) (v := undef) (a' := ?_) #[true, true, true, true, true, true, true, true, true, true, true, true, true, true, true, true, true, true, true, true, true, true, true, true, true, true, true, true, true, true, true, false] rfl rfl (any_of HT_.out (by kernel_rfl)) (fun _ _ _ h => h) (Or.inr ⟨by rfl, rfl⟩) ?_ ?_
   rotate_left
   ·
    simp only [Act.put, Sa_, Sz_, Ss_, i64_w, i32_w]
    rfl
   refine pure_ (i := 31) (N := some 36) (v := ?_) (a' := ?_) #[true, true, true, true, true, true, true, true, true, true, true, true, true, true, true, true, true, true, true, true, true, true, true, true, true, true, true, true, true, true, true, true] rfl rfl (any_of HT_.out (by kernel_rfl)) (fun _ _ _ h => h) (Or.inl ⟨by rfl, ?_⟩) ?_ ?_
   rotate_left
   ·
    intro w'
    go_simp
    with_reducible rfl
   rotate_left
   ·
    simp only [Act.put, Sa_, Sz_, Ss_, i64_w, i32_w]
    rfl
   refine done_ (done_of HT_.out (by kernel_rfl)) ?_
   try go_wp2
   go_meet
   case rel => exact ⟨_, (true), (by first | rfl | (simp; done) | (simp [*]; done)), H', ⟨by first | omega | exact Nat.le_refl _⟩, ⟨by (with_reducible repeat (first | refine Bn_ ?_ _ | refine Bd_ ?_ | refine Ba_ ?_ _)); exact BK124.out⟩, ⟨by repeat (first | (with_reducible first | exact HB.out | apply Al_ | apply Dn_ | apply D1_ | refine Bs_ ?_ GE124.out) | exact HB.out)⟩⟩
 case rest =>
  clear HC2
  try clear c2
  try clear p2
  try clear c5
  try clear c7
  try clear c7b0
  try clear c7b1
  obtain ⟨kq, x36_1, rfl, HA, HJ1, BK124, HB⟩ := hcut
  cases kq with
  | zero => exact absurd HA.out (by simp [iCheck.j0])
  | succ kj1 =>
   have H := HA.out
   clear HA
   simp only [iCheck.j0] at H
   by_cases c16 : x36_1 = true
   ·
    subst c16
    have H1 : (some 3) = some r := by rw [if_pos rfl] at H; exact H
    clear H
    have H := H1
    clear H1
    obtain rfl := Option.some.inj H
    go_wp2
    go_ret
    exact ⟨by first | rfl | (simp [errW_none, errW_some] <;> rfl) | (simp [*, errW_none, errW_some] <;> rfl), by repeat (first | (with_reducible first | exact HB.out | apply Al_ | apply Dn_ | apply D1_ | refine Bs_ ?_ GE124.out) | exact HB.out)⟩
   ·
    replace c16 := Bool.eq_false_iff.mpr c16
    subst c16
    have H1 : (iCheck.l0 kj1 l0_2 (l0_2.length : Int) 0 a0_0 a0_1 l0_2 a0_3 l0_4) = some r := by rw [if_neg (show ¬ (false = true) by decide)] at H; exact H
    clear H
    have H := H1
    clear H1
    have H' := A0_ H
    clear H
    have hcz17_0 : wc.cell? ⟨gb124, 0, none⟩ = some (.int .i64 a0_0) := (Bc_ BK124.out 0).trans rfl
    have hcz17_1 : wc.cell? ⟨gb124, 1, none⟩ = some (.int .i64 a0_1) := (Bc_ BK124.out 1).trans rfl
    have hcz17_2 : wc.cell? ⟨gb124, 2, none⟩ = some (.slice A0_2 l0_2.length c0_2) := (Bc_ BK124.out 2).trans rfl
    have hcz17_3 : wc.cell? ⟨gb124, 3, none⟩ = some (.int .i64 a0_3) := (Bc_ BK124.out 3).trans rfl
    have hcz17_4 : wc.cell? ⟨gb124, 4, none⟩ = some (.slice A0_4 l0_4.length c0_4) := (Bc_ BK124.out 4).trans rfl
    have hfz17_0 := Bf_ BK124.out 0
    have hfz17_1 := Bf_ BK124.out 1
    have hfz17_2 := Bf_ BK124.out 2
    have hfz17_3 := Bf_ BK124.out 3
    have hfz17_4 := Bf_ BK124.out 4
    go_wp2
    go_loopg [40] kj1 (fun kq v40 w' => ∃ (x40_2 : Int), v40 = .int .i64 x40_2 ∧ Aside0 (iCheck.l0 kq l0_2 (l0_2.length : Int) x40_2 a0_0 a0_1 l0_2 a0_3 l0_4 = some r) ∧ Aside0 (kq ≤ kj1) ∧ Aside0 (w'.heap[gb124]? = some (.cells #[.int .i64 a0_0, .int .i64 a0_1, (.slice A0_2 l0_2.length c0_2), .int .i64 a0_3, (.slice A0_4 l0_4.length c0_4)] 28 (0, 0))) ∧ Aside0 (Below w.heap.size w w'))
    case atStart => exact ⟨(0), (by first | rfl | (simp; done) | (simp [*]; done)), H', ⟨Nat.le_refl _⟩, ⟨by (with_reducible repeat (first | refine Bn_ ?_ _ | refine Bd_ ?_ | refine Ba_ ?_ _)); exact BK124.out⟩, ⟨by repeat (first | (with_reducible first | exact HB.out | apply Al_ | apply Dn_ | apply D1_ | refine Bs_ ?_ GE124.out) | exact HB.out)⟩⟩
    case round =>
     clear H'
     try clear c1
     try clear c2
     try clear p2
     try clear c5
     try clear c7
     try clear c7b0
     try clear c7b1
     try clear c16
     try clear hcz17_0
     try clear hcz17_1
     try clear hcz17_2
     try clear hcz17_3
     try clear hcz17_4
     try clear hfz17_0
     try clear hfz17_1
     try clear hfz17_2
     try clear hfz17_3
     try clear hfz17_4
     try clear p2
     try clear BK124
     obtain ⟨x40_2, rfl, HA, HK2, BK124, HB⟩ := hrel
     cases gk with
     | zero => exact absurd HA.out (by simp [iCheck.l0])
     | succ k2 =>
      have H := HA.out
      clear HA
      simp only [iCheck.l0] at H
      by_cases c18 : x40_2 < (l0_2.length : Int)
      ·
       rw [if_pos c18] at H
       have c18b0 : decide (x40_2 < (l0_2.length : Int)) = true := decide_eq_true c18
       clear c18
       by_cases c19 : 0 ≤ x40_2
       ·
        rw [if_pos c19] at H
        have c19b0 : decide (0 ≤ x40_2) = true := decide_eq_true c19
        clear c19
        by_cases c20 : x40_2 < (l0_2.length : Int)
        ·
         rw [if_pos c20] at H
         have c20b0 : decide (x40_2 < (l0_2.length : Int)) = true := decide_eq_true c20
         clear c20
         by_cases c21 : (rd l0_2 x40_2) < 0
         ·
          rw [if_pos c21] at H
          have c21b0 : decide ((rd l0_2 x40_2) < 0) = true := decide_eq_true c21
          clear c21
          obtain rfl := Option.some.inj H
          have p128 : 0 ≤ (x40_2 : Int) := of_decide_eq_true (by first | (with_reducible assumption) | assumption)
          have q128 : x40_2 < (l0_2.length : Int) := of_decide_eq_true (by first | (with_reducible assumption) | assumption)
          obtain ⟨ad128, e128, hx128_0⟩ := Kd.at_int HR0_2.out x40_2 p128 q128
          cases e128
          replace hx128_0 := (HB.out.cell (World.block_lt_of_cell? w _ hx128_0)).trans hx128_0
          replace p128 := eq_true p128
          replace q128 := eq_true q128
          go_wp2
          go_ret
          exact ⟨by first | rfl | (simp [errW_none, errW_some] <;> rfl) | (simp [*, errW_none, errW_some] <;> rfl), by repeat (first | (with_reducible first | exact HB.out | apply Al_ | apply Dn_ | apply D1_ | refine Bs_ ?_ GE124.out) | exact HB.out)⟩
         ·
          rw [if_neg c21] at H
          have c21b0 : decide ((rd l0_2 x40_2) < 0) = false := decide_eq_false c21
          clear c21
          by_cases c22 : (rd l0_2 x40_2) > 4096
          ·
           rw [if_pos c22] at H
           have c22b0 : decide (4096 < (rd l0_2 x40_2)) = true := decide_eq_true c22
           clear c22
           obtain rfl := Option.some.inj H
           have p128 : 0 ≤ (x40_2 : Int) := of_decide_eq_true (by first | (with_reducible assumption) | assumption)
           have q128 : x40_2 < (l0_2.length : Int) := of_decide_eq_true (by first | (with_reducible assumption) | assumption)
           obtain ⟨ad128, e128, hx128_0⟩ := Kd.at_int HR0_2.out x40_2 p128 q128
           cases e128
           replace hx128_0 := (HB.out.cell (World.block_lt_of_cell? w _ hx128_0)).trans hx128_0
           replace p128 := eq_true p128
           replace q128 := eq_true q128
           go_wp2
           go_ret
           exact ⟨by first | rfl | (simp [errW_none, errW_some] <;> rfl) | (simp [*, errW_none, errW_some] <;> rfl), by repeat (first | (with_reducible first | exact HB.out | apply Al_ | apply Dn_ | apply D1_ | refine Bs_ ?_ GE124.out) | exact HB.out)⟩
          ·
           rw [if_neg c22] at H
           have c22b0 : decide (4096 < (rd l0_2 x40_2)) = false := decide_eq_false c22
           clear c22
           by_cases c23 : (rd l0_2 x40_2) > 0
           ·
            rw [if_pos c23] at H
            have c23b0 : decide (0 < (rd l0_2 x40_2)) = true := decide_eq_true c23
            clear c23
            replace H := Option.bind_eq_some_iff.mp H
            obtain ⟨t129, A240, H⟩ := H
            replace H : (if t129 = true then (iCheck.l0 k2 l0_2 (l0_2.length : Int) (wrap64 (x40_2 + 1)) a0_0 a0_1 l0_2 a0_3 l0_4) else (some 3)) = some r := H
            have A24 := A0_ A240
            clear A240
            by_cases c25 : t129 = true
            ·
             subst c25
             have H1 : (iCheck.l0 k2 l0_2 (l0_2.length : Int) (wrap64 (x40_2 + 1)) a0_0 a0_1 l0_2 a0_3 l0_4) = some r := by rw [if_pos rfl] at H; exact H
             clear H
             have H := H1
             clear H1
             have H' := A0_ H
             clear H
             have p128 : 0 ≤ (x40_2 : Int) := of_decide_eq_true (by first | (with_reducible assumption) | assumption)
             have q128 : x40_2 < (l0_2.length : Int) := of_decide_eq_true (by first | (with_reducible assumption) | assumption)
             obtain ⟨ad128, e128, hx128_0⟩ := Kd.at_int HR0_2.out x40_2 p128 q128
             cases e128
             replace hx128_0 := (HB.out.cell (World.block_lt_of_cell? w _ hx128_0)).trans hx128_0
             replace p128 := eq_true p128
             replace q128 := eq_true q128
             have hcz26_0 : wr.cell? ⟨gb124, 0, none⟩ = some (.int .i64 a0_0) := (Bc_ BK124.out 0).trans rfl
             have hcz26_1 : wr.cell? ⟨gb124, 1, none⟩ = some (.int .i64 a0_1) := (Bc_ BK124.out 1).trans rfl
             have hcz26_2 : wr.cell? ⟨gb124, 2, none⟩ = some (.slice (some ad128) l0_2.length c0_2) := (Bc_ BK124.out 2).trans rfl
             have hcz26_3 : wr.cell? ⟨gb124, 3, none⟩ = some (.int .i64 a0_3) := (Bc_ BK124.out 3).trans rfl
             have hcz26_4 : wr.cell? ⟨gb124, 4, none⟩ = some (.slice A0_4 l0_4.length c0_4) := (Bc_ BK124.out 4).trans rfl
             have hfz26_0 := Bf_ BK124.out 0
             have hfz26_1 := Bf_ BK124.out 1
             have hfz26_2 := Bf_ BK124.out 2
             have hfz26_3 := Bf_ BK124.out 3
             have hfz26_4 := Bf_ BK124.out 4
             go_wp2_with (first | (go_at_call 41; (with_reducible refine (bGet.calls k2 a0_3 _ _ l0_4 x40_2 true _ ?side1 ?side2 A24.out).mono ?_); (case side1 => repeat (first | exact (Kd.C_below HR0_4.out HB.out) | (with_reducible first | refine Kd.C_alloc ?_ _ | refine Kd.C_drewN ?_ _ | refine Kd.C_drew ?_))); (case side2 => exact HC0_4.out); rintro e w27 ⟨rfl, hb⟩; have n0_ := A0_ (blk_below (g := gb124) (o := .cells #[.int .i64 a0_0, .int .i64 a0_1, .slice (some ad128) l0_2.length c0_2, .int .i64 a0_3, .slice A0_4 l0_4.length c0_4] 28 (0, 0)) (by (with_reducible repeat (first | refine Bn_ ?_ _ | refine Bd_ ?_ | refine Ba_ ?_ _)); exact BK124.out) hb); have n1_ := A0_ (below_step (by repeat (first | (with_reducible first | exact HB.out | apply Al_ | apply Dn_ | apply D1_ | refine Bs_ ?_ GE124.out) | exact HB.out)) hb); clear BK124 HB; have BK124 := n0_; have HB := n1_; clear n0_ n1_; (try clear hb); (try clear hb2); (try clear hk); (try clear hi)))
             go_roundg k2
             case measure => have := HJ1.out; have := HK2.out; omega
             case rel => exact ⟨(wrap64 (x40_2 + 1)), (by first | rfl | (simp; done) | (simp [*]; done)), H', ⟨by have := HJ1.out; have := HK2.out; omega⟩, ⟨by (with_reducible repeat (first | refine Bn_ ?_ _ | refine Bd_ ?_ | refine Ba_ ?_ _)); exact BK124.out⟩, ⟨by repeat (first | (with_reducible first | exact HB.out | apply Al_ | apply Dn_ | apply D1_ | refine Bs_ ?_ GE124.out) | exact HB.out)⟩⟩
            ·
             replace c25 := Bool.eq_false_iff.mpr c25
             subst c25
             have H1 : (some 3) = some r := by rw [if_neg (show ¬ (false = true) by decide)] at H; exact H
             clear H
             have H := H1
             clear H1
             obtain rfl := Option.some.inj H
             have p128 : 0 ≤ (x40_2 : Int) := of_decide_eq_true (by first | (with_reducible assumption) | assumption)
             have q128 : x40_2 < (l0_2.length : Int) := of_decide_eq_true (by first | (with_reducible assumption) | assumption)
             obtain ⟨ad128, e128, hx128_0⟩ := Kd.at_int HR0_2.out x40_2 p128 q128
             cases e128
             replace hx128_0 := (HB.out.cell (World.block_lt_of_cell? w _ hx128_0)).trans hx128_0
             replace p128 := eq_true p128
             replace q128 := eq_true q128
             have hcz28_0 : wr.cell? ⟨gb124, 0, none⟩ = some (.int .i64 a0_0) := (Bc_ BK124.out 0).trans rfl
             have hcz28_1 : wr.cell? ⟨gb124, 1, none⟩ = some (.int .i64 a0_1) := (Bc_ BK124.out 1).trans rfl
             have hcz28_2 : wr.cell? ⟨gb124, 2, none⟩ = some (.slice (some ad128) l0_2.length c0_2) := (Bc_ BK124.out 2).trans rfl
             have hcz28_3 : wr.cell? ⟨gb124, 3, none⟩ = some (.int .i64 a0_3) := (Bc_ BK124.out 3).trans rfl
             have hcz28_4 : wr.cell? ⟨gb124, 4, none⟩ = some (.slice A0_4 l0_4.length c0_4) := (Bc_ BK124.out 4).trans rfl
             have hfz28_0 := Bf_ BK124.out 0
             have hfz28_1 := Bf_ BK124.out 1
             have hfz28_2 := Bf_ BK124.out 2
             have hfz28_3 := Bf_ BK124.out 3
             have hfz28_4 := Bf_ BK124.out 4
             go_wp2_with (first | (go_at_call 41; (with_reducible refine (bGet.calls k2 a0_3 _ _ l0_4 x40_2 false _ ?side1 ?side2 A24.out).mono ?_); (case side1 => repeat (first | exact (Kd.C_below HR0_4.out HB.out) | (with_reducible first | refine Kd.C_alloc ?_ _ | refine Kd.C_drewN ?_ _ | refine Kd.C_drew ?_))); (case side2 => exact HC0_4.out); rintro e w29 ⟨rfl, hb⟩; have n0_ := A0_ (blk_below (g := gb124) (o := .cells #[.int .i64 a0_0, .int .i64 a0_1, .slice (some ad128) l0_2.length c0_2, .int .i64 a0_3, .slice A0_4 l0_4.length c0_4] 28 (0, 0)) (by (with_reducible repeat (first | refine Bn_ ?_ _ | refine Bd_ ?_ | refine Ba_ ?_ _)); exact BK124.out) hb); have n1_ := A0_ (below_step (by repeat (first | (with_reducible first | exact HB.out | apply Al_ | apply Dn_ | apply D1_ | refine Bs_ ?_ GE124.out) | exact HB.out)) hb); clear BK124 HB; have BK124 := n0_; have HB := n1_; clear n0_ n1_; (try clear hb); (try clear hb2); (try clear hk); (try clear hi)))
             go_ret
             exact ⟨by first | rfl | (simp [errW_none, errW_some] <;> rfl) | (simp [*, errW_none, errW_some] <;> rfl), by repeat (first | (with_reducible first | exact HB.out | apply Al_ | apply Dn_ | apply D1_ | refine Bs_ ?_ GE124.out) | exact HB.out)⟩
           ·
            rw [if_neg c23] at H
            have c23b0 : decide (0 < (rd l0_2 x40_2)) = false := decide_eq_false c23
            clear c23
            have H' := A0_ H
            clear H
            have p128 : 0 ≤ (x40_2 : Int) := of_decide_eq_true (by first | (with_reducible assumption) | assumption)
            have q128 : x40_2 < (l0_2.length : Int) := of_decide_eq_true (by first | (with_reducible assumption) | assumption)
            obtain ⟨ad128, e128, hx128_0⟩ := Kd.at_int HR0_2.out x40_2 p128 q128
            cases e128
            replace hx128_0 := (HB.out.cell (World.block_lt_of_cell? w _ hx128_0)).trans hx128_0
            replace p128 := eq_true p128
            replace q128 := eq_true q128
            go_wp2
            go_roundg k2
            case measure => have := HJ1.out; have := HK2.out; omega
            case rel => exact ⟨(wrap64 (x40_2 + 1)), (by first | rfl | (simp; done) | (simp [*]; done)), H', ⟨by have := HJ1.out; have := HK2.out; omega⟩, ⟨by (with_reducible repeat (first | refine Bn_ ?_ _ | refine Bd_ ?_ | refine Ba_ ?_ _)); exact BK124.out⟩, ⟨by repeat (first | (with_reducible first | exact HB.out | apply Al_ | apply Dn_ | apply D1_ | refine Bs_ ?_ GE124.out) | exact HB.out)⟩⟩
        ·
         rw [if_neg c20] at H
         exact absurd H (by simp)
       ·
        rw [if_neg c19] at H
        exact absurd H (by simp)
      ·
       rw [if_neg c18] at H
       have c18b0 : decide (x40_2 < (l0_2.length : Int)) = false := decide_eq_false c18
       clear c18
       obtain rfl := Option.some.inj H
       go_wp2
       go_ret
       exact ⟨by first | rfl | (simp [errW_none, errW_some] <;> rfl) | (simp [*, errW_none, errW_some] <;> rfl), by repeat (first | (with_reducible first | exact HB.out | apply Al_ | apply Dn_ | apply D1_ | refine Bs_ ?_ GE124.out) | exact HB.out)⟩
end Go.Proofs.YtnjbdcnefienhaaDoor.P
