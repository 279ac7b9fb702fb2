/-
  Parts of the proof of the law IntentEncodes (part 3): what the functions it reaches come to, and the plain law. Conditions: those that each theorem names.
-/
import Derived.RangeFuncNested
import Derived.RangeFuncBound
import Derived.RangeFuncCalls
import Derived.RangeFuncLeaves
import Derived.Shelf.Abstract
import Derived.Shelf.RegionOpen
import Derived.OwnWalkIn
import Derived.TacticsInMore
import Derived.LoopNIn
import Derived.LoopIn
import Derived.Shelf.Spec.TrailingZeros
import Derived.Outline
import Derived.Laws.AppendOwnNone
import Derived.Lib.SliceRun
import Derived.StillTailTactics
import Derived.RangeFuncBox
import Derived.Shelf.SlLaysF0
import Derived.Shelf.SlLaysC2
import Derived.Test.YtnjbdcnefienhaaDoorProg
import Derived.KernelRfl
import Derived.Shelf.SlSortCmp.WholeK
import Derived.Shelf.SlicesG.Cmp
import Derived.Shelf.SlSortCmp.NoneTotal
import Derived.Test.YtnjbdcnefienhaaDoorCIntentEncodes2
namespace Go.Proofs.YtnjbdcnefienhaaDoor.P
open Go.RowKit Go.Proofs.YtnjbdcnefienhaaDoorW.PrintWords Go.Proofs.YtnjbdcnefienhaaDoorW.PrintLast Go.Proofs.YtnjbdcnefienhaaDoorW.PrintMore
attribute [local go_sem] max2_int min2_int max_two min_two max_three min_three max_four min_four   -- for this text's walks alone
set_option linter.unusedVariables false
set_option linter.unusedSimpArgs false
mutual
def wire_putInt.j0 : Nat → List Int → Int → Bool → Option (List Int)
 | 0, _, _, _ => none
 | k + 1, x0, x1, x10 => if x10 = true then (wire_putInt.j1 k x0 0) else (wire_putInt.j1 k x0 x1)
def wire_putInt.j1 : Nat → List Int → Int → Option (List Int)
 | 0, _, _ => none
 | k + 1, x0, x1 => wire_putInt.l0 k x0 x1
def wire_putInt.l0 : Nat → List Int → Int → Option (List Int)
 | 0, _, _ => none
 | k + 1, x0, x1 => if x1 ≥ 128 then (if x0.length < 140737488355328 then (wire_putInt.l0 k (x0 ++ [Go.bits .or .u8 ((Int.tmod x1 128) % 256) 128]) (wrap64 (Int.tdiv x1 128))) else (none)) else (if x0.length < 140737488355328 then (some (x0 ++ [(x1) % 256])) else (none))
end
def wire_putInt.f (k : Nat) (l0 : List Int) (a1 : Int) : Option (List Int) := if a1 < 0 then (wire_putInt.j0 k l0 a1 true) else (wire_putInt.j0 k l0 a1 (decide (a1 > 9007199254740991)))
set_option maxHeartbeats 8000000 in
set_option maxRecDepth 100000 in
theorem wire_putInt.calls (k : Nat) (P0_ : Nat → Prop) (u9000_ : Value) (l0 : List Int) (a1 : Int) (r : List Int) (w0 w : World) (hB : Below w0.heap.size w0 w) (ho0 : Kd.R (Kd.int .u8) 5 w w0.heap.size P0_ u9000_ l0) (h : wire_putInt.f k l0 a1 = some r) :
  Calls Tryd.prog 58 #[u9000_, .int .i64 a1] w fun e w' => ∃ v0_ : Value, e = .returned (v0_) ∧ Kd.R (Kd.int .u8) 5 w' w0.heap.size (fun k_ => (P0_ k_ ∨ w.heap.size ≤ k_)) v0_ r ∧ Below w0.heap.size w0 w' ∧ Kept w w' (fun k_ => P0_ k_) := by
 have HO0 := A0_ (show Kd.R (Kd.int .u8) 5 w w0.heap.size (fun k_ => (P0_ k_ ∨ w.heap.size ≤ k_)) u9000_ l0 from Kd.R_mono ho0 (fun k_ hk => (.inl hk)))
 have HK := A0_ (Kept.refl w (fun k_ => P0_ k_))
 have HW0 := A0_ hB.size
 have HB := A0_ hB
 clear hB
 have H : (if a1 < 0 then (wire_putInt.j0 k l0 a1 true) else (wire_putInt.j0 k l0 a1 (decide (a1 > 9007199254740991)))) = some r := h
 clear h
 have HC3 := A0_ H
 clear H
 go_enter Tryd.func58, Tryd.ntmps58
 go_upto_region 1 with (fail)
 go_cut [10] (fun v10 wc => ∃ (kq : Nat) (x10_2 : Bool), v10 = .bool x10_2 ∧ Aside0 (wire_putInt.j0 kq l0 a1 x10_2 = some r) ∧ Aside0 (kq ≤ k) ∧ Aside0 (Kd.R (Kd.int .u8) 5 wc w0.heap.size (fun k_ => (P0_ k_ ∨ w.heap.size ≤ k_)) u9000_ l0) ∧ Aside0 (Kept w wc (fun k_ => P0_ k_)) ∧ Aside0 (Below w0.heap.size w0 wc))
 case first =>
  have H := HC3.out
  clear HC3
  by_cases c4 : a1 < 0
  ·
   rw [if_pos c4] at H
   have c4b0 : decide (a1 < 0) = true := decide_eq_true c4
   clear c4
   (first | rw [c4b0] | (simp only [i64_w, i32_w]; rw [c4b0]) | skip)
   have H' := A0_ H
   clear H
   go_wp2
   go_meet
   case rel => exact ⟨_, (true), (by first | rfl | (simp; done) | (simp [*]; done)), H', ⟨by first | omega | exact Nat.le_refl _⟩, ⟨by (with_reducible repeat (first | apply Ra_ | apply Rn_ | apply Rd_)); exact HO0.out⟩, ⟨by repeat (first | (with_reducible first | exact HK.out | apply Kept.alloc | apply Kept.drewN | apply Kept.drew) | exact HK.out)⟩, ⟨by repeat (first | (with_reducible first | exact HB.out | apply Al_ | apply Dn_ | apply D1_) | exact HB.out)⟩⟩
  ·
   rw [if_neg c4] at H
   have c4b0 : decide (a1 < 0) = false := decide_eq_false c4
   clear c4
   (first | rw [c4b0] | (simp only [i64_w, i32_w]; rw [c4b0]) | skip)
   have H' := A0_ H
   clear H
   go_wp2
   go_meet
   case rel => exact ⟨_, (decide (a1 > 9007199254740991)), (by first | rfl | (simp; done) | (simp [*]; done)), H', ⟨by first | omega | exact Nat.le_refl _⟩, ⟨by (with_reducible repeat (first | apply Ra_ | apply Rn_ | apply Rd_)); exact HO0.out⟩, ⟨by repeat (first | (with_reducible first | exact HK.out | apply Kept.alloc | apply Kept.drewN | apply Kept.drew) | exact HK.out)⟩, ⟨by repeat (first | (with_reducible first | exact HB.out | apply Al_ | apply Dn_ | apply D1_) | exact HB.out)⟩⟩
 case rest =>
  clear HC3
  try clear p2
  try clear c4
  try clear c4b0
  obtain ⟨kq, x10_2, rfl, HA, HJ2, HO_0, HK, HB⟩ := hcut
  cases kq with
  | zero => exact absurd HA.out (by simp [wire_putInt.j0])
  | succ kj2 =>
   have H := HA.out
   clear HA
   simp only [wire_putInt.j0] at H
   have HC5 := A0_ H
   clear H
   go_upto_if 10 with (fail)
   go_cut [1] (fun v1 wc => ∃ (kq : Nat) (x1_4 : Int), v1 = .int .i64 x1_4 ∧ Aside0 (wire_putInt.j1 kq l0 x1_4 = some r) ∧ Aside0 (kq ≤ kj2) ∧ Aside0 (Kd.R (Kd.int .u8) 5 wc w0.heap.size (fun k_ => (P0_ k_ ∨ w.heap.size ≤ k_)) u9000_ l0) ∧ Aside0 (Kept w wc (fun k_ => P0_ k_)) ∧ Aside0 (Below w0.heap.size w0 wc))
   case first =>
    have H := HC5.out
    clear HC5
    by_cases c6 : x10_2 = true
    ·
     subst c6
     have H1 : (wire_putInt.j1 kj2 l0 0) = some r := by rw [if_pos rfl] at H; exact H
     clear H
     have H := H1
     clear H1
     have H' := A0_ H
     clear H
     go_wp2
     go_meet
     case rel => exact ⟨_, (0), (by first | rfl | (simp; done) | (simp [*]; done)), H', ⟨by have := HJ2.out; first | omega | exact Nat.le_refl _⟩, ⟨by (with_reducible repeat (first | apply Ra_ | apply Rn_ | apply Rd_)); exact HO_0.out⟩, ⟨by repeat (first | (with_reducible first | exact HK.out | apply Kept.alloc | apply Kept.drewN | apply Kept.drew) | exact HK.out)⟩, ⟨by repeat (first | (with_reducible first | exact HB.out | apply Al_ | apply Dn_ | apply D1_) | exact HB.out)⟩⟩
    ·
     replace c6 := Bool.eq_false_iff.mpr c6
     subst c6
     have H1 : (wire_putInt.j1 kj2 l0 a1) = some r := by rw [if_neg (show ¬ (false = true) by decide)] at H; exact H
     clear H
     have H := H1
     clear H1
     have H' := A0_ H
     clear H
     go_wp2
     go_meet
     case rel => exact ⟨_, (a1), (by first | rfl | (simp; done) | (simp [*]; done)), H', ⟨by have := HJ2.out; first | omega | exact Nat.le_refl _⟩, ⟨by (with_reducible repeat (first | apply Ra_ | apply Rn_ | apply Rd_)); exact HO_0.out⟩, ⟨by repeat (first | (with_reducible first | exact HK.out | apply Kept.alloc | apply Kept.drewN | apply Kept.drew) | exact HK.out)⟩, ⟨by repeat (first | (with_reducible first | exact HB.out | apply Al_ | apply Dn_ | apply D1_) | exact HB.out)⟩⟩
   case rest =>
    clear HC5
    try clear p2
    try clear c4
    try clear c4b0
    try clear c5
    try clear c6
    try clear p2
    obtain ⟨kq, x1_4, rfl, HA, HJ4, HO_0, HK, HB⟩ := hcut
    cases kq with
    | zero => exact absurd HA.out (by simp [wire_putInt.j1])
    | succ kj4 =>
     have H := HA.out
     clear HA
     simp only [wire_putInt.j1] at H
     have H' := A0_ H
     clear H
     go_wp2
     go_loopg [0, 1] kj4 (fun kq v0 v1 w' => ∃ (x0_3 : List Int) (x1_3 : Int), v1 = .int .i64 x1_3 ∧ Aside0 (wire_putInt.l0 kq x0_3 x1_3 = some r) ∧ Aside0 (kq ≤ kj4) ∧ Aside0 (Kd.R (Kd.int .u8) 5 w' w0.heap.size (fun k_ => (P0_ k_ ∨ w.heap.size ≤ k_)) v0 x0_3) ∧ Aside0 (Kept w w' (fun k_ => P0_ k_)) ∧ Aside0 (Below w0.heap.size w0 w'))
     case atStart => exact ⟨(l0), (x1_4), (by first | rfl | (simp; done) | (simp [*]; done)), H', ⟨Nat.le_refl _⟩, ⟨by (with_reducible repeat (first | apply Ra_ | apply Rn_ | apply Rd_)); exact HO_0.out⟩, ⟨by repeat (first | (with_reducible first | exact HK.out | apply Kept.alloc | apply Kept.drewN | apply Kept.drew) | exact HK.out)⟩, ⟨by repeat (first | (with_reducible first | exact HB.out | apply Al_ | apply Dn_ | apply D1_) | exact HB.out)⟩⟩
     case round =>
      clear H'
      try clear p2
      try clear c4
      try clear c4b0
      try clear c5
      try clear c6
      try clear p2
      try clear HO_0
      obtain ⟨x0_3, x1_3, rfl, HA, HK3, HO_0, HK, HB⟩ := hrel
      cases gk with
      | zero => exact absurd HA.out (by simp [wire_putInt.l0])
      | succ k3 =>
       have H := HA.out
       clear HA
       simp only [wire_putInt.l0] at H
       by_cases c7 : x1_3 ≥ 128
       ·
        rw [if_pos c7] at H
        have c7b0 : decide (128 ≤ x1_3) = true := decide_eq_true c7
        clear c7
        by_cases c8 : x0_3.length < 140737488355328
        ·
         rw [if_pos c8] at H
         have LMc8 := A0_ c8
         clear c8
         obtain ⟨y130, hy130⟩ : ∃ y_ : List Int, y_ = (x0_3 ++ [Go.bits .or .u8 ((Int.tmod x1_3 128) % 256) 128]) := ⟨_, rfl⟩
         replace H : (wire_putInt.l0 k3 y130 (wrap64 (Int.tdiv x1_3 128))) = some r := by first | (rw [hy130]; with_reducible exact H) | (have H2_ := (Option.bind_some _ _).symm.trans H; rw [hy130]; with_reducible exact H2_) | (have H2_ := (Option.bind_some _ _).symm.trans H; with_reducible exact H2_) | with_reducible exact H | (rw [hy130]; exact H) | exact H
         have Ny130 := A0_ hy130
         clear hy130
         have H' := A0_ H
         clear H
         go_wp2_with (first | ((with_reducible refine gate_builtin (b := .append) (xs := #[.tmp 15, .tmp 20]) rfl ?_); at_builtin; refine Kd.R_append (Kd.int .u8) (w0 := w0) w0.heap.size rfl (.tmp 15) (.tmp 20) 37 5 (.int .u8 0) 1 rfl Tryd.underlying37 info5 rfl (by decide) (by omega) u0 x0_3 (Go.bits .or .u8 ((Int.tmod x1_3 128) % 256) 128) [.int .u8 (Go.bits .or .u8 ((Int.tmod x1_3 128) % 256) 128)] (fun k_ => (P0_ k_ ∨ w.heap.size ≤ k_)) (fun _ => False) rfl rfl ?aP (fun _ hk => hk.elim) ?aF ?aO ?aB ?aS ?aL ?_; (case aP => exact rfl); (case aB => exact (by repeat (first | (with_reducible first | exact HB.out | apply Al_ | apply Dn_ | apply D1_) | exact HB.out))); (case aF => exact (fun k_ hk => (.inr (Nat.le_trans (by first | exact HK.out.1 | exact (show Kept w _ (fun k_ => P0_ k_) from by repeat (first | (with_reducible first | exact HK.out | apply Kept.alloc | apply Kept.drewN | apply Kept.drew) | exact HK.out)).1) hk)))); (case aO => exact (by (with_reducible repeat (first | apply Ra_ | apply Rn_ | apply Rd_)); exact HO_0.out)); (case aS => exact (below_size (by repeat (first | (with_reducible first | exact HB.out | apply Al_ | apply Dn_ | apply D1_) | exact HB.out)))); (case aL => have := LMc8.out; omega); intro v131 w9 ho hb hg hat; rw [← Ny130.out] at ho; have n0_ := A0_ (hb); have n1_ := A0_ (Kept.of_grown (S := (fun k_ => P0_ k_)) hg (by repeat (first | (with_reducible first | exact HK.out | apply Kept.alloc | apply Kept.drewN | apply Kept.drew) | exact HK.out)) (fun k_ e_ => (HO_0.out.1 k_ e_))); have n2_ := A0_ (ho); clear HB HK HO_0; have HB := n0_; have HK := n1_; have HO132 := n2_; clear n0_ n1_ n2_ ho hb hg hat))
         go_roundg k3
         case measure => have := HJ2.out; have := HJ4.out; have := HK3.out; omega
         case rel => exact ⟨(y130), (wrap64 (Int.tdiv x1_3 128)), (by first | rfl | (simp; done) | (simp [*]; done)), H', ⟨by have := HJ2.out; have := HJ4.out; have := HK3.out; omega⟩, ⟨by (with_reducible repeat (first | apply Ra_ | apply Rn_ | apply Rd_)); exact HO132.out⟩, ⟨by repeat (first | (with_reducible first | exact HK.out | apply Kept.alloc | apply Kept.drewN | apply Kept.drew) | exact HK.out)⟩, ⟨by repeat (first | (with_reducible first | exact HB.out | apply Al_ | apply Dn_ | apply D1_) | exact HB.out)⟩⟩
        ·
         rw [if_neg c8] at H
         exact absurd H (by simp)
       ·
        rw [if_neg c7] at H
        have c7b0 : decide (128 ≤ x1_3) = false := decide_eq_false c7
        clear c7
        by_cases c10 : x0_3.length < 140737488355328
        ·
         rw [if_pos c10] at H
         have LMc10 := A0_ c10
         clear c10
         obtain ⟨y133, hy133⟩ : ∃ y_ : List Int, y_ = (x0_3 ++ [(x1_3) % 256]) := ⟨_, rfl⟩
         replace H : (some y133) = some r := by first | (rw [hy133]; with_reducible exact H) | (have H2_ := (Option.bind_some _ _).symm.trans H; rw [hy133]; with_reducible exact H2_) | (have H2_ := (Option.bind_some _ _).symm.trans H; with_reducible exact H2_) | with_reducible exact H | (rw [hy133]; exact H) | exact H
         have Ny133 := A0_ hy133
         clear hy133
         obtain rfl := Option.some.inj H
         go_wp2_with (first | ((with_reducible refine gate_builtin (b := .append) (xs := #[.tmp 22, .tmp 25]) rfl ?_); at_builtin; refine Kd.R_append (Kd.int .u8) (w0 := w0) w0.heap.size rfl (.tmp 22) (.tmp 25) 37 5 (.int .u8 0) 1 rfl Tryd.underlying37 info5 rfl (by decide) (by omega) u0 x0_3 ((x1_3) % 256) [.int .u8 ((x1_3) % 256)] (fun k_ => (P0_ k_ ∨ w.heap.size ≤ k_)) (fun _ => False) rfl rfl ?aP (fun _ hk => hk.elim) ?aF ?aO ?aB ?aS ?aL ?_; (case aP => exact rfl); (case aB => exact (by repeat (first | (with_reducible first | exact HB.out | apply Al_ | apply Dn_ | apply D1_) | exact HB.out))); (case aF => exact (fun k_ hk => (.inr (Nat.le_trans (by first | exact HK.out.1 | exact (show Kept w _ (fun k_ => P0_ k_) from by repeat (first | (with_reducible first | exact HK.out | apply Kept.alloc | apply Kept.drewN | apply Kept.drew) | exact HK.out)).1) hk)))); (case aO => exact (by (with_reducible repeat (first | apply Ra_ | apply Rn_ | apply Rd_)); exact HO_0.out)); (case aS => exact (below_size (by repeat (first | (with_reducible first | exact HB.out | apply Al_ | apply Dn_ | apply D1_) | exact HB.out)))); (case aL => have := LMc10.out; omega); intro v134 w11 ho hb hg hat; rw [← Ny133.out] at ho; have n0_ := A0_ (hb); have n1_ := A0_ (Kept.of_grown (S := (fun k_ => P0_ k_)) hg (by repeat (first | (with_reducible first | exact HK.out | apply Kept.alloc | apply Kept.drewN | apply Kept.drew) | exact HK.out)) (fun k_ e_ => (HO_0.out.1 k_ e_))); have n2_ := A0_ (ho); clear HB HK HO_0; have HB := n0_; have HK := n1_; have HO135 := n2_; clear n0_ n1_ n2_ ho hb hg hat))
         go_ret
         exact ⟨_, by first | rfl | (simp [errW_none, errW_some] <;> rfl) | (simp [*, errW_none, errW_some] <;> rfl), by (with_reducible repeat (first | apply Ra_ | apply Rn_ | apply Rd_)); exact HO135.out, by repeat (first | (with_reducible first | exact HB.out | apply Al_ | apply Dn_ | apply D1_) | exact HB.out), by repeat (first | (with_reducible first | exact HK.out | apply Kept.alloc | apply Kept.drewN | apply Kept.drew) | exact HK.out)⟩
        ·
         rw [if_neg c10] at H
         exact absurd H (by simp)
end Go.Proofs.YtnjbdcnefienhaaDoor.P

namespace Go.Proofs.YtnjbdcnefienhaaDoor.P
open Go.RowKit Go.Proofs.YtnjbdcnefienhaaDoorW.PrintWords Go.Proofs.YtnjbdcnefienhaaDoorW.PrintLast Go.Proofs.YtnjbdcnefienhaaDoorW.PrintMore
attribute [local go_sem] max2_int min2_int max_two min_two max_three min_three max_four min_four   -- for this text's walks alone
set_option linter.unusedVariables false
set_option linter.unusedSimpArgs false
def wire_PutInt.f (k : Nat) (l0 : List Int) (a1 : Int) : Option (List Int) := (slices_Clone_byte_byte.f l0).bind fun t142 => ((wire_putInt.f k t142 a1).bind fun t145 => (some t145))
set_option maxHeartbeats 8000000 in
set_option maxRecDepth 100000 in
theorem wire_PutInt.calls (k : Nat) (A0 : Option Addr) (c0 : Nat) (l0 : List Int) (a1 : Int) (r : List Int) (w : World) (hr0 : Kd.C (Kd.int .u8) w A0 l0.length l0) (hc0 : l0.length ≤ c0) (h : wire_PutInt.f k l0 a1 = some r) :
  Calls Tryd.prog 34 #[.slice A0 l0.length c0, .int .i64 a1] w fun e w' => ∃ v0_ : Value, e = .returned (v0_) ∧ Kd.R (Kd.int .u8) 5 w' w.heap.size (fun _ => True) v0_ r ∧ Below w.heap.size w w' := by
 have HR0 := A0_ hr0
 have HC0 := A0_ hc0
 clear hr0 hc0
 have HB := A0_ (Below.refl w.heap.size w)
 have H : ((slices_Clone_byte_byte.f l0).bind fun t142 => ((wire_putInt.f k t142 a1).bind fun t145 => (some t145))) = some r := h
 clear h
 replace H := Option.bind_eq_some_iff.mp H
 obtain ⟨t142, A30, H⟩ := H
 replace H : ((wire_putInt.f k t142 a1).bind fun t145 => (some t145)) = some r := H
 have A3 := A0_ A30
 clear A30
 replace H := Option.bind_eq_some_iff.mp H
 obtain ⟨t145, A40, H⟩ := H
 replace H : (some t145) = some r := H
 have A4 := A0_ A40
 clear A40
 obtain rfl := Option.some.inj H
 go_enter Tryd.func34, Tryd.ntmps34
 go_wp2_with (first | ((with_reducible refine gate_callee (f := 59) rfl ?_); refine goesL_ (some 6) rfl rfl Tryd.func59 (by kernel_rfl) rfl #[.slice A0 l0.length c0] rfl (by (try simp only [List.map_toArray, List.map_cons, List.map_nil]); first | done | rfl | (simp only [List.length_drop, List.length_take]; rfl)) ?_; (with_reducible refine (slices_Clone_byte_byte.calls _ _ l0 t142 _ ?side1 ?side2 A3.out).mono ?_); (case side1 => repeat (first | exact HR0.out | (with_reducible first | refine Kd.C_alloc ?_ _ | refine Kd.C_drewN ?_ _ | refine Kd.C_drew ?_))); (case side2 => exact HC0.out); rintro e w5 ⟨v143, rfl, ho0, hb⟩; refine ⟨_, rfl, ?_⟩; have n0_ := A0_ (Kd.R_lower ho0 (below_size (by repeat (first | (with_reducible first | exact HB.out | apply Al_ | apply Dn_ | apply D1_) | exact HB.out)))); have n1_ := A0_ (below_step (by repeat (first | (with_reducible first | exact HB.out | apply Al_ | apply Dn_ | apply D1_) | exact HB.out)) hb); clear HB; have HO144 := n0_; have HB := n1_; clear n0_ n1_; (try clear hb); (try clear hb2); (try clear hk); (try clear hi); (try clear ho0); obtain ⟨Ao6, co6, eo6⟩ := Kd.R_slice HO144.out; subst eo6) | ((with_reducible refine gate_callee (f := 58) rfl ?_); refine goesL_ (some 8) rfl rfl Tryd.func58 (by kernel_rfl) rfl #[.slice Ao6 t142.length co6, .int .i64 a1] rfl (by (try simp only [List.map_toArray, List.map_cons, List.map_nil]); first | done | rfl | (simp only [List.length_drop, List.length_take]; rfl)) ?_; (with_reducible refine (wire_putInt.calls k (fun k_ => some k_ = (.slice Ao6 t142.length co6 : Value).ownBlock) (.slice Ao6 t142.length co6) t142 a1 t145 w _ ?side1 ?side2 A4.out).mono ?_); (case side1 => repeat (first | (with_reducible first | exact HB.out | apply Al_ | apply Dn_ | apply D1_) | exact HB.out)); (case side2 => exact Kd.R_tight rfl HO144.out); rintro e w7 ⟨v146, rfl, ho0, hb, hkp⟩; refine ⟨_, rfl, ?_⟩; have n0_ := A0_ (Kd.R_mono (ok' := fun k_ => True) ho0 (fun k_ hk_ => trivial)); have n1_ := A0_ (hb); clear HB HO144; have HO147 := n0_; have HB := n1_; clear n0_ n1_; (try clear hb); (try clear hkp); (try clear ho0)))
 go_ret
 exact ⟨_, by first | rfl | (simp [errW_none, errW_some] <;> rfl) | (simp [*, errW_none, errW_some] <;> rfl), by (with_reducible repeat (first | apply Ra_ | apply Rn_ | apply Rd_)); exact HO147.out, by repeat (first | (with_reducible first | exact HB.out | apply Al_ | apply Dn_ | apply D1_) | exact HB.out)⟩
mutual
def r03PutInt.j0 : Nat → Int → List Int → Bool → Option (List Int)
 | 0, _, _, _ => none
 | k + 1, x1, x5, x14 => if x14 = true then (r03PutInt.j1 k 0 x5) else (r03PutInt.j1 k x1 x5)
def r03PutInt.j1 : Nat → Int → List Int → Option (List Int)
 | 0, _, _ => none
 | k + 1, x1, x5 => r03PutInt.l0 k x1 x5
def r03PutInt.l0 : Nat → Int → List Int → Option (List Int)
 | 0, _, _ => none
 | k + 1, x1, x5 => if x1 > 127 then (if x5.length < 140737488355328 then (r03PutInt.l0 k (wrap64 (Int.tdiv x1 128)) (x5 ++ [(wrap64 ((Int.tmod x1 128) + 128)) % 256])) else (none)) else (if x5.length < 140737488355328 then (some (x5 ++ [(x1) % 256])) else (none))
end
def r03PutInt.f (k : Nat) (l0 : List Int) (a1 : Int) : Option (List Int) := if ([] : List Int).length + l0.length < 140737488355328 then ((some (([] : List Int) ++ l0 : List Int)).bind fun y148 => (if a1 < 0 then (r03PutInt.j0 k a1 y148 true) else (r03PutInt.j0 k a1 y148 (decide (a1 > 9007199254740991))))) else (none)
set_option maxHeartbeats 8000000 in
set_option maxRecDepth 100000 in
theorem r03PutInt.calls (k : Nat) (A0 : Option Addr) (c0 : Nat) (l0 : List Int) (a1 : Int) (r : List Int) (w : World) (hr0 : Kd.C (Kd.int .u8) w A0 l0.length l0) (hc0 : l0.length ≤ c0) (h : r03PutInt.f k l0 a1 = some r) :
  Calls Tryd.prog 55 #[.slice A0 l0.length c0, .int .i64 a1] w fun e w' => ∃ v0_ : Value, e = .returned (v0_) ∧ Kd.R (Kd.int .u8) 5 w' w.heap.size (fun _ => True) v0_ r ∧ Below w.heap.size w w' := by
 have HR0 := A0_ hr0
 have HC0 := A0_ hc0
 clear hr0 hc0
 have HB := A0_ (Below.refl w.heap.size w)
 have H : (if ([] : List Int).length + l0.length < 140737488355328 then ((some (([] : List Int) ++ l0 : List Int)).bind fun y148 => (if a1 < 0 then (r03PutInt.j0 k a1 y148 true) else (r03PutInt.j0 k a1 y148 (decide (a1 > 9007199254740991))))) else (none)) = some r := h
 clear h
 by_cases c3 : ([] : List Int).length + l0.length < 140737488355328
 ·
  rw [if_pos c3] at H
  have LMc3 := A0_ c3
  clear c3
  obtain ⟨y148, hy148⟩ : ∃ y_ : List Int, y_ = (([] : List Int) ++ l0) := ⟨_, rfl⟩
  replace H : (if a1 < 0 then (r03PutInt.j0 k a1 y148 true) else (r03PutInt.j0 k a1 y148 (decide (a1 > 9007199254740991)))) = some r := by first | (rw [hy148]; with_reducible exact H) | (have H2_ := (Option.bind_some _ _).symm.trans H; rw [hy148]; with_reducible exact H2_) | (have H2_ := (Option.bind_some _ _).symm.trans H; with_reducible exact H2_) | with_reducible exact H | (rw [hy148]; exact H) | exact H
  have Ny148 := A0_ hy148
  clear hy148
  have HC4 := A0_ H
  clear H
  go_enter Tryd.func55, Tryd.ntmps55
  go_upto_region 3 with (first | ((with_reducible refine gate_builtin (b := .append) (xs := #[.tmp 6, .tmp 7]) rfl ?_); at_builtin; refine Kd.R_append_rows (Kd.int .u8) (w0 := w) w.heap.size rfl (.tmp 6) (.tmp 7) 37 5 (.int .u8 0) 1 rfl Tryd.underlying37 info5 rfl (by decide) (by omega) (.slice none 0 0) ([] : List Int) l0 _ _ _ (fun _ => True) (fun _ => False) rfl rfl ?aO ?aR (fun _ _ h => h) (fun _ h => h.elim) ?aF ?aB ?aS ?aL ?_; (case aR => repeat (first | exact HR0.out | (with_reducible first | refine Kd.C_alloc ?_ _ | refine Kd.C_drewN ?_ _ | refine Kd.C_drew ?_))); (case aB => exact (by repeat (first | (with_reducible first | exact HB.out | apply Al_ | apply Dn_ | apply D1_) | exact HB.out))); (case aF => exact (fun _ _ => trivial)); (case aO => exact ((Kd.R_nil _ _ _ _ (fun _ => True)))); (case aS => exact (below_size (by repeat (first | (with_reducible first | exact HB.out | apply Al_ | apply Dn_ | apply D1_) | exact HB.out)))); (case aL => have := LMc3.out; omega); intro v149 w5 ho hb hg hat; rw [← Ny148.out] at ho; have n0_ := A0_ (hb); have n1_ := A0_ (ho); clear HB; have HB := n0_; have HO150 := n1_; clear n0_ n1_ ho hb hg hat))
  (try simp only [Act.put, Sa_, Sz_, Ss_])
  go_cut [14] (fun v14 wc => ∃ (kq : Nat) (x14_3 : Bool), v14 = .bool x14_3 ∧ Aside0 (r03PutInt.j0 kq a1 y148 x14_3 = some r) ∧ Aside0 (kq ≤ k) ∧ Aside0 (Kd.R (Kd.int .u8) 5 wc w.heap.size (fun _ => True) v149 y148) ∧ Aside0 (Below w.heap.size w wc))
  case first =>
   have H := HC4.out
   clear HC4
   by_cases c6 : a1 < 0
   ·
    rw [if_pos c6] at H
    have c6b0 : decide (a1 < 0) = true := decide_eq_true c6
    clear c6
    (first | rw [c6b0] | (simp only [i64_w, i32_w]; rw [c6b0]) | skip)
    have H' := A0_ H
    clear H
    go_wp2
    go_meet
    case rel => exact ⟨_, (true), (by first | rfl | (simp; done) | (simp [*]; done)), H', ⟨by first | omega | exact Nat.le_refl _⟩, ⟨by (with_reducible repeat (first | apply Ra_ | apply Rn_ | apply Rd_)); exact HO150.out⟩, ⟨by repeat (first | (with_reducible first | exact HB.out | apply Al_ | apply Dn_ | apply D1_) | exact HB.out)⟩⟩
   ·
    rw [if_neg c6] at H
    have c6b0 : decide (a1 < 0) = false := decide_eq_false c6
    clear c6
    (first | rw [c6b0] | (simp only [i64_w, i32_w]; rw [c6b0]) | skip)
    have H' := A0_ H
    clear H
    go_wp2
    go_meet
    case rel => exact ⟨_, (decide (a1 > 9007199254740991)), (by first | rfl | (simp; done) | (simp [*]; done)), H', ⟨by first | omega | exact Nat.le_refl _⟩, ⟨by (with_reducible repeat (first | apply Ra_ | apply Rn_ | apply Rd_)); exact HO150.out⟩, ⟨by repeat (first | (with_reducible first | exact HB.out | apply Al_ | apply Dn_ | apply D1_) | exact HB.out)⟩⟩
  case rest =>
   clear HC4
   try clear p2
   try clear c3
   try clear c5
   try clear c6
   try clear c6b0
   obtain ⟨kq, x14_3, rfl, HA, HJ3, HO_5, HB⟩ := hcut
   cases kq with
   | zero => exact absurd HA.out (by simp [r03PutInt.j0])
   | succ kj3 =>
    have H := HA.out
    clear HA
    simp only [r03PutInt.j0] at H
    have HC7 := A0_ H
    clear H
    go_upto_if 14 with (fail)
    go_cut [1] (fun v1 wc => ∃ (kq : Nat) (x1_6 : Int), v1 = .int .i64 x1_6 ∧ Aside0 (r03PutInt.j1 kq x1_6 y148 = some r) ∧ Aside0 (kq ≤ kj3) ∧ Aside0 (Kd.R (Kd.int .u8) 5 wc w.heap.size (fun _ => True) v149 y148) ∧ Aside0 (Below w.heap.size w wc))
    case first =>
     have H := HC7.out
     clear HC7
     by_cases c8 : x14_3 = true
     ·
      subst c8
      have H1 : (r03PutInt.j1 kj3 0 y148) = some r := by rw [if_pos rfl] at H; exact H
      clear H
      have H := H1
      clear H1
      have H' := A0_ H
      clear H
      go_wp2
      go_meet
      case rel => exact ⟨_, (0), (by first | rfl | (simp; done) | (simp [*]; done)), H', ⟨by have := HJ3.out; first | omega | exact Nat.le_refl _⟩, ⟨by (with_reducible repeat (first | apply Ra_ | apply Rn_ | apply Rd_)); exact HO_5.out⟩, ⟨by repeat (first | (with_reducible first | exact HB.out | apply Al_ | apply Dn_ | apply D1_) | exact HB.out)⟩⟩
     ·
      replace c8 := Bool.eq_false_iff.mpr c8
      subst c8
      have H1 : (r03PutInt.j1 kj3 a1 y148) = some r := by rw [if_neg (show ¬ (false = true) by decide)] at H; exact H
      clear H
      have H := H1
      clear H1
      have H' := A0_ H
      clear H
      go_wp2
      go_meet
      case rel => exact ⟨_, (a1), (by first | rfl | (simp; done) | (simp [*]; done)), H', ⟨by have := HJ3.out; first | omega | exact Nat.le_refl _⟩, ⟨by (with_reducible repeat (first | apply Ra_ | apply Rn_ | apply Rd_)); exact HO_5.out⟩, ⟨by repeat (first | (with_reducible first | exact HB.out | apply Al_ | apply Dn_ | apply D1_) | exact HB.out)⟩⟩
    case rest =>
     clear HC7
     try clear p2
     try clear c3
     try clear c5
     try clear c6
     try clear c6b0
     try clear c8
     try clear p2
     obtain ⟨kq, x1_6, rfl, HA, HJ6, HO_5, HB⟩ := hcut
     cases kq with
     | zero => exact absurd HA.out (by simp [r03PutInt.j1])
     | succ kj6 =>
      have H := HA.out
      clear HA
      simp only [r03PutInt.j1] at H
      have H' := A0_ H
      clear H
      go_wp2
      go_loopg [1, 5] kj6 (fun kq v1 v5 w' => ∃ (x1_3 : Int) (x5_3 : List Int), v1 = .int .i64 x1_3 ∧ Aside0 (r03PutInt.l0 kq x1_3 x5_3 = some r) ∧ Aside0 (kq ≤ kj6) ∧ Aside0 (Kd.R (Kd.int .u8) 5 w' w.heap.size (fun _ => True) v5 x5_3) ∧ Aside0 (Below w.heap.size w w'))
      case atStart => exact ⟨(x1_6), (y148), (by first | rfl | (simp; done) | (simp [*]; done)), H', ⟨Nat.le_refl _⟩, ⟨by (with_reducible repeat (first | apply Ra_ | apply Rn_ | apply Rd_)); exact HO_5.out⟩, ⟨by repeat (first | (with_reducible first | exact HB.out | apply Al_ | apply Dn_ | apply D1_) | exact HB.out)⟩⟩
      case round =>
       clear H'
       try clear p2
       try clear c3
       try clear c5
       try clear c6
       try clear c6b0
       try clear c8
       try clear p2
       try clear HO_5
       obtain ⟨x1_3, x5_3, rfl, HA, HK3, HO_5, HB⟩ := hrel
       cases gk with
       | zero => exact absurd HA.out (by simp [r03PutInt.l0])
       | succ k3 =>
        have H := HA.out
        clear HA
        simp only [r03PutInt.l0] at H
        by_cases c9 : x1_3 > 127
        ·
         rw [if_pos c9] at H
         have c9b0 : decide (127 < x1_3) = true := decide_eq_true c9
         clear c9
         by_cases c10 : x5_3.length < 140737488355328
         ·
          rw [if_pos c10] at H
          have LMc10 := A0_ c10
          clear c10
          obtain ⟨y151, hy151⟩ : ∃ y_ : List Int, y_ = (x5_3 ++ [(wrap64 ((Int.tmod x1_3 128) + 128)) % 256]) := ⟨_, rfl⟩
          replace H : (r03PutInt.l0 k3 (wrap64 (Int.tdiv x1_3 128)) y151) = some r := by first | (rw [hy151]; with_reducible exact H) | (have H2_ := (Option.bind_some _ _).symm.trans H; rw [hy151]; with_reducible exact H2_) | (have H2_ := (Option.bind_some _ _).symm.trans H; with_reducible exact H2_) | with_reducible exact H | (rw [hy151]; exact H) | exact H
          have Ny151 := A0_ hy151
          clear hy151
          have H' := A0_ H
          clear H
          go_wp2_with (first | ((with_reducible refine gate_builtin (b := .append) (xs := #[.tmp 17, .tmp 22]) rfl ?_); at_builtin; refine Kd.R_append (Kd.int .u8) (w0 := w) w.heap.size rfl (.tmp 17) (.tmp 22) 37 5 (.int .u8 0) 1 rfl Tryd.underlying37 info5 rfl (by decide) (by omega) u5 x5_3 ((wrap64 ((Int.tmod x1_3 128) + 128)) % 256) [.int .u8 ((wrap64 ((Int.tmod x1_3 128) + 128)) % 256)] (fun _ => True) (fun _ => False) rfl rfl ?aP (fun _ hk => hk.elim) ?aF ?aO ?aB ?aS ?aL ?_; (case aP => exact rfl); (case aB => exact (by repeat (first | (with_reducible first | exact HB.out | apply Al_ | apply Dn_ | apply D1_) | exact HB.out))); (case aF => exact (fun _ _ => trivial)); (case aO => exact (by (with_reducible repeat (first | apply Ra_ | apply Rn_ | apply Rd_)); exact HO_5.out)); (case aS => exact (below_size (by repeat (first | (with_reducible first | exact HB.out | apply Al_ | apply Dn_ | apply D1_) | exact HB.out)))); (case aL => have := LMc10.out; omega); intro v152 w11 ho hb hg hat; rw [← Ny151.out] at ho; have n0_ := A0_ (hb); have n1_ := A0_ (ho); clear HB HO_5; have HB := n0_; have HO153 := n1_; clear n0_ n1_ ho hb hg hat))
          go_roundg k3
          case measure => have := HJ3.out; have := HJ6.out; have := HK3.out; omega
          case rel => exact ⟨(wrap64 (Int.tdiv x1_3 128)), (y151), (by first | rfl | (simp; done) | (simp [*]; done)), H', ⟨by have := HJ3.out; have := HJ6.out; have := HK3.out; omega⟩, ⟨by (with_reducible repeat (first | apply Ra_ | apply Rn_ | apply Rd_)); exact HO153.out⟩, ⟨by repeat (first | (with_reducible first | exact HB.out | apply Al_ | apply Dn_ | apply D1_) | exact HB.out)⟩⟩
         ·
          rw [if_neg c10] at H
          exact absurd H (by simp)
        ·
         rw [if_neg c9] at H
         have c9b0 : decide (127 < x1_3) = false := decide_eq_false c9
         clear c9
         by_cases c12 : x5_3.length < 140737488355328
         ·
          rw [if_pos c12] at H
          have LMc12 := A0_ c12
          clear c12
          obtain ⟨y154, hy154⟩ : ∃ y_ : List Int, y_ = (x5_3 ++ [(x1_3) % 256]) := ⟨_, rfl⟩
          replace H : (some y154) = some r := by first | (rw [hy154]; with_reducible exact H) | (have H2_ := (Option.bind_some _ _).symm.trans H; rw [hy154]; with_reducible exact H2_) | (have H2_ := (Option.bind_some _ _).symm.trans H; with_reducible exact H2_) | with_reducible exact H | (rw [hy154]; exact H) | exact H
          have Ny154 := A0_ hy154
          clear hy154
          obtain rfl := Option.some.inj H
          go_wp2_with (first | ((with_reducible refine gate_builtin (b := .append) (xs := #[.tmp 26, .tmp 29]) rfl ?_); at_builtin; refine Kd.R_append (Kd.int .u8) (w0 := w) w.heap.size rfl (.tmp 26) (.tmp 29) 37 5 (.int .u8 0) 1 rfl Tryd.underlying37 info5 rfl (by decide) (by omega) u5 x5_3 ((x1_3) % 256) [.int .u8 ((x1_3) % 256)] (fun _ => True) (fun _ => False) rfl rfl ?aP (fun _ hk => hk.elim) ?aF ?aO ?aB ?aS ?aL ?_; (case aP => exact rfl); (case aB => exact (by repeat (first | (with_reducible first | exact HB.out | apply Al_ | apply Dn_ | apply D1_) | exact HB.out))); (case aF => exact (fun _ _ => trivial)); (case aO => exact (by (with_reducible repeat (first | apply Ra_ | apply Rn_ | apply Rd_)); exact HO_5.out)); (case aS => exact (below_size (by repeat (first | (with_reducible first | exact HB.out | apply Al_ | apply Dn_ | apply D1_) | exact HB.out)))); (case aL => have := LMc12.out; omega); intro v155 w13 ho hb hg hat; rw [← Ny154.out] at ho; have n0_ := A0_ (hb); have n1_ := A0_ (ho); clear HB HO_5; have HB := n0_; have HO156 := n1_; clear n0_ n1_ ho hb hg hat))
          go_ret
          exact ⟨_, by first | rfl | (simp [errW_none, errW_some] <;> rfl) | (simp [*, errW_none, errW_some] <;> rfl), by (with_reducible repeat (first | apply Ra_ | apply Rn_ | apply Rd_)); exact HO156.out, by repeat (first | (with_reducible first | exact HB.out | apply Al_ | apply Dn_ | apply D1_) | exact HB.out)⟩
         ·
          rw [if_neg c12] at H
          exact absurd H (by simp)
 ·
  rw [if_neg c3] at H
  exact absurd H (by simp)
def r03PutExtents.l0 : Nat → List (S49) → List Int → Int → Option (List Int)
 | 0, _, _, _ => none
 | k + 1, x1, x5, x6 => if x6 < (x1.length : Int) then (if 0 ≤ x6 then ((r03PutInt.f k x5 ((rd_T49 x1 x6).f0)).bind fun t161 => ((r03PutInt.f k t161 ((rd_T49 x1 x6).f1)).bind fun t165 => (r03PutExtents.l0 k x1 t165 (wrap64 (x6 + 1))))) else (none)) else (some x5)
def r03PutExtents.f (k : Nat) (l0 : List Int) (l1 : List (S49)) : Option (List Int) := (r03PutInt.f k l0 (l1.length : Int)).bind fun t157 => (r03PutExtents.l0 k l1 t157 0)
def r03PutExtents.T5 : Bool × List (List Nat × List Nat) := (true, [([], []), ([], []), ([], []), ([1, 2], [1, 2]), ([3], [3]), ([4], [4]), ([0, 5], [0, 5]), ([], []), ([], []), ([7, 8], [7, 8]), ([9], [9]), ([10], [10]), ([6, 11, 6], [6, 11]), ([12, 12, 0, 1, 2, 3, 4, 5, 6, 7, 8, 9, 10, 11, 12], [0, 12])])
def r03PutExtents.B5 : List Nat := [0, 0, 0, 6, 14, 30, 63, 0, 0, 384, 896, 1920, 4095, 8191]
theorem r03PutExtents.tab5 : rtab .any (opsOf Tryd.f54 5) = r03PutExtents.T5 := by kernel_rfl
theorem r03PutExtents.bits5 : waitsOk r03PutExtents.T5.2 r03PutExtents.B5 = true := by kernel_rfl
set_option maxHeartbeats 8000000 in
set_option maxRecDepth 100000 in
theorem r03PutExtents.calls (k : Nat) (A0 : Option Addr) (c0 : Nat) (l0 : List Int) (A1 : Option Addr) (c1 : Nat) (l1 : List (S49)) (r : List Int) (w : World) (hr0 : Kd.C (Kd.int .u8) w A0 l0.length l0) (hc0 : l0.length ≤ c0) (hr1 : Kd.C k49 w A1 l1.length l1) (hc1 : l1.length ≤ c1) (h : r03PutExtents.f k l0 l1 = some r) :
  Calls Tryd.prog 54 #[.slice A0 l0.length c0, .slice A1 l1.length c1] w fun e w' => ∃ v0_ : Value, e = .returned (v0_) ∧ Kd.R (Kd.int .u8) 5 w' w.heap.size (fun _ => True) v0_ r ∧ Below w.heap.size w w' := by
 have HR0 := A0_ hr0
 have HC0 := A0_ hc0
 clear hr0 hc0
 have HR1 := A0_ hr1
 have HC1 := A0_ hc1
 clear hr1 hc1
 have HB := A0_ (Below.refl w.heap.size w)
 have H : ((r03PutInt.f k l0 (l1.length : Int)).bind fun t157 => (r03PutExtents.l0 k l1 t157 0)) = some r := h
 clear h
 replace H := Option.bind_eq_some_iff.mp H
 obtain ⟨t157, A30, H⟩ := H
 replace H : (r03PutExtents.l0 k l1 t157 0) = some r := H
 have A3 := A0_ A30
 clear A30
 have H' := A0_ H
 clear H
 go_enter Tryd.func54, Tryd.ntmps54
 go_wp2_with (first | ((with_reducible refine gate_callee (f := 55) rfl ?_); refine goesL_ (some 10) rfl rfl Tryd.func55 (by kernel_rfl) rfl #[.slice A0 l0.length c0, .int .i64 (l1.length : Int)] rfl (by (try simp only [List.map_toArray, List.map_cons, List.map_nil]); first | done | rfl | (simp only [List.length_drop, List.length_take]; rfl)) ?_; (with_reducible refine (r03PutInt.calls k _ _ l0 (l1.length : Int) t157 _ ?side1 ?side2 A3.out).mono ?_); (case side1 => repeat (first | exact HR0.out | (with_reducible first | refine Kd.C_alloc ?_ _ | refine Kd.C_drewN ?_ _ | refine Kd.C_drew ?_))); (case side2 => exact HC0.out); rintro e w4 ⟨v158, rfl, ho0, hb⟩; refine ⟨_, rfl, ?_⟩; have n0_ := A0_ (Kd.R_lower ho0 (below_size (by repeat (first | (with_reducible first | exact HB.out | apply Al_ | apply Dn_ | apply D1_) | exact HB.out)))); have n1_ := A0_ (below_step (by repeat (first | (with_reducible first | exact HB.out | apply Al_ | apply Dn_ | apply D1_) | exact HB.out)) hb); clear HB; have HO159 := n0_; have HB := n1_; clear n0_ n1_; (try clear hb); (try clear hb2); (try clear hk); (try clear hi); (try clear ho0)))
 go_loopg [5, 6] k (fun kq v5 v6 w' => ∃ (x5_1 : List Int) (x6_1 : Int), v6 = .int .i64 x6_1 ∧ Aside0 (r03PutExtents.l0 kq l1 x5_1 x6_1 = some r) ∧ Aside0 (kq ≤ k) ∧ Aside0 (Kd.R (Kd.int .u8) 5 w' w.heap.size (fun _ => True) v5 x5_1) ∧ Aside0 (Below w.heap.size w w'))
 case atStart => exact ⟨(t157), (0), (by first | rfl | (simp; done) | (simp [*]; done)), H', ⟨Nat.le_refl _⟩, ⟨by (with_reducible repeat (first | apply Ra_ | apply Rn_ | apply Rd_)); exact HO159.out⟩, ⟨by repeat (first | (with_reducible first | exact HB.out | apply Al_ | apply Dn_ | apply D1_) | exact HB.out)⟩⟩
 case round =>
  clear H'
  try clear c1
  try clear p2
  try clear HO_5
  obtain ⟨x5_1, x6_1, rfl, HA, HK1, HO_5, HB⟩ := hrel
  cases gk with
  | zero => exact absurd HA.out (by simp [r03PutExtents.l0])
  | succ k1 =>
   have H := HA.out
   clear HA
   simp only [r03PutExtents.l0] at H
   by_cases c5 : x6_1 < (l1.length : Int)
   ·
    rw [if_pos c5] at H
    have c5b0 : decide (x6_1 < (l1.length : Int)) = true := decide_eq_true c5
    clear c5
    by_cases c6 : 0 ≤ x6_1
    ·
     rw [if_pos c6] at H
     have c6b0 : decide (0 ≤ x6_1) = true := decide_eq_true c6
     clear c6
     replace H := Option.bind_eq_some_iff.mp H
     obtain ⟨t161, A70, H⟩ := H
     replace H : ((r03PutInt.f k1 t161 ((rd_T49 l1 x6_1).f1)).bind fun t165 => (r03PutExtents.l0 k1 l1 t165 (wrap64 (x6_1 + 1)))) = some r := H
     have A7 := A0_ A70
     clear A70
     replace H := Option.bind_eq_some_iff.mp H
     obtain ⟨t165, A80, H⟩ := H
     replace H : (r03PutExtents.l0 k1 l1 t165 (wrap64 (x6_1 + 1))) = some r := H
     have A8 := A0_ A80
     clear A80
     have H' := A0_ H
     clear H
     try go_wp2
     have n0_ := A0_ (Kd.R_drew HO_5.out)
     have n1_ := A0_ (D1_ HB.out)
     clear HO_5
     clear HB
     have HO_5 := n0_
     have HB := n1_
     clear n0_ n1_
     have p160 : 0 ≤ (x6_1 : Int) := of_decide_eq_true (by first | (with_reducible assumption) | assumption)
     have q160 : x6_1 < (l1.length : Int) := of_decide_eq_true (by first | (with_reducible assumption) | assumption)
     obtain ⟨ad160, e160, hx160_0, hx160_1⟩ := at_T49 HR1.out x6_1 p160 q160
     have hw160_1 := hx160_1
     have hw160_0 := hx160_0
     cases e160
     replace hx160_0 := (HB.out.cell (World.block_lt_of_cell? w _ hx160_0)).trans hx160_0
     replace hx160_1 := (HB.out.cell (World.block_lt_of_cell? w _ hx160_1)).trans hx160_1
     replace p160 := eq_true p160
     replace q160 := eq_true q160
     have p164 : 0 ≤ (x6_1 : Int) := of_decide_eq_true (by first | (with_reducible assumption) | assumption)
     have q164 : x6_1 < (l1.length : Int) := of_decide_eq_true (by first | (with_reducible assumption) | assumption)
     obtain ⟨ad164, e164, hx164_0, hx164_1⟩ := at_T49 HR1.out x6_1 p164 q164
     have hw164_1 := hx164_1
     have hw164_0 := hx164_0
     obtain rfl : ad160 = ad164 := (by injection e164)
     replace hx164_0 := (HB.out.cell (World.block_lt_of_cell? w _ hx164_0)).trans hx164_0
     replace hx164_1 := (HB.out.cell (World.block_lt_of_cell? w _ hx164_1)).trans hx164_1
     replace p164 := eq_true p164
     replace q164 := eq_true q164
     obtain ⟨Ao10, co10, eo10⟩ := Kd.R_slice HO_5.out
     (first | subst eo10 | (injection eo10 with f1_ f2_ f3_; have f4_ := f1_.symm; have f5_ := f3_.symm; clear f1_ f2_ f3_; subst f4_; subst f5_))
     refine start_ (n := 14) (S := fun w' => w'.cell? (ad160.add ((x6_1).toNat * 2)) = some (.int .i64 ((rd_T49 l1 x6_1).f0)) ∧ w'.cell? ⟨(ad160.add ((x6_1).toNat * 2)).block, (ad160.add ((x6_1).toNat * 2)).off + 1, none⟩ = some (.int .i64 ((rd_T49 l1 x6_1).f1)) ∧ w'.cell? (ad160.add ((x6_1).toNat * 2)) = some (.int .i64 ((rd_T49 l1 x6_1).f0)) ∧ w'.cell? ⟨(ad160.add ((x6_1).toNat * 2)).block, (ad160.add ((x6_1).toNat * 2)).off + 1, none⟩ = some (.int .i64 ((rd_T49 l1 x6_1).f1))) (ds := []) #[false, false, false, false, false, false, false, false, false, false, false, false, false, false] (by kernel_rfl) rfl rfl ⟨((HB.out.cell (World.block_lt_of_cell? w _ hw160_0)).trans hw160_0), ((HB.out.cell (World.block_lt_of_cell? w _ hw160_1)).trans hw160_1), ((HB.out.cell (World.block_lt_of_cell? w _ hw164_0)).trans hw164_0), ((HB.out.cell (World.block_lt_of_cell? w _ hw164_1)).trans hw164_1)⟩ (fun hHeld => ?_); refine with_tabW r03PutExtents.tab5 r03PutExtents.bits5 (fun HT_ HW_ => ?_)
     generalize wr.drew = w9 at HO_5 HB hx160_0 hx160_1 hx164_0 hx164_1 hHeld ⊢
     refine pure_ (i := 0) (N := some 17) (v := ?_) (a' := ?_) #[true, false, false, false, false, false, false, false, false, false, false, false, false, false] rfl rfl (any_of HT_.out (by kernel_rfl)) (fun _ _ _ h => h) (Or.inl ⟨by rfl, ?_⟩) ?_ ?_
     rotate_left
     ·
      intro w'
      go_simp
      with_reducible rfl
     rotate_left
     ·
      simp only [Act.put, Sa_, Sz_, Ss_, i64_w, i32_w]
      rfl
     refine pure_ (i := 1) (N := some 18) (v := ?_) (a' := ?_) #[true, true, false, false, false, false, false, false, false, false, false, false, false, false] rfl rfl (any_of HT_.out (by kernel_rfl)) (fun _ _ _ h => h) (Or.inl ⟨by rfl, ?_⟩) ?_ ?_
     rotate_left
     ·
      intro w'
      go_simp
      with_reducible rfl
     rotate_left
     ·
      simp only [Act.put, Sa_, Sz_, Ss_, i64_w, i32_w]
      rfl
     refine pure_ (i := 2) (N := some 19) (v := ?_) (a' := ?_) #[true, true, true, false, false, false, false, false, false, false, false, false, false, false] rfl rfl (any_of HT_.out (by kernel_rfl)) (fun _ _ _ h => h) (Or.inl ⟨by rfl, ?_⟩) ?_ ?_
     rotate_left
     ·
      intro w'
      go_simp
      with_reducible rfl
     rotate_left
     ·
      simp only [Act.put, Sa_, Sz_, Ss_, i64_w, i32_w]
      rfl
     refine pure_ (i := 3) (N := some 20) (v := ?_) (a' := ?_) #[true, true, true, true, false, false, false, false, false, false, false, false, false, false] rfl rfl (any_of HT_.out (by kernel_rfl)) (fun _ _ _ h => h) (Or.inl ⟨by rfl, ?_⟩) ?_ ?_
     rotate_left
     ·
      intro w'
      go_simp
      with_reducible rfl
     rotate_left
     ·
      simp only [Act.put, Sa_, Sz_, Ss_, i64_w, i32_w]
      rfl
     refine pure_ (i := 4) (N := some 21) (v := ?_) (a' := ?_) #[true, true, true, true, true, false, false, false, false, false, false, false, false, false] rfl rfl (any_of HT_.out (by kernel_rfl)) (fun _ _ _ h => h) (Or.inl ⟨by rfl, ?_⟩) ?_ ?_
     rotate_left
     ·
      intro w'
      go_simp
      with_reducible rfl
     rotate_left
     ·
      simp only [Act.put, Sa_, Sz_, Ss_, i64_w, i32_w]
      rfl
     refine pure_ (i := 7) (N := some 24) (v := ?_) (a' := ?_) #[true, true, true, true, true, false, false, true, false, false, false, false, false, false] rfl rfl (any_of HT_.out (by kernel_rfl)) (fun _ _ _ h => h) (Or.inl ⟨by rfl, ?_⟩) ?_ ?_
     rotate_left
     ·
      intro w'
      go_simp
      with_reducible rfl
     rotate_left
     ·
      simp only [Act.put, Sa_, Sz_, Ss_, i64_w, i32_w]
      rfl
     refine pure_ (i := 8) (N := some 25) (v := ?_) (a' := ?_) #[true, true, true, true, true, false, false, true, true, false, false, false, false, false] rfl rfl (any_of HT_.out (by kernel_rfl)) (fun _ _ _ h => h) (Or.inl ⟨by rfl, ?_⟩) ?_ ?_
     rotate_left
     ·
      intro w'
      go_simp
      with_reducible rfl
     rotate_left
     ·
      simp only [Act.put, Sa_, Sz_, Ss_, i64_w, i32_w]
      rfl
     refine pure_ (i := 9) (N := some 26) (v := ?_) (a' := ?_) #[true, true, true, true, true, false, false, true, true, true, false, false, false, false] rfl rfl (any_of HT_.out (by kernel_rfl)) (fun _ _ _ h => h) (Or.inl ⟨by rfl, ?_⟩) ?_ ?_
     rotate_left
     ·
      intro w'
      go_simp
      with_reducible rfl
     rotate_left
     ·
      simp only [Act.put, Sa_, Sz_, Ss_, i64_w, i32_w]
      rfl
     refine pure_ (i := 10) (N := some 27) (v := ?_) (a' := ?_) #[true, true, true, true, true, false, false, true, true, true, true, false, false, false] rfl rfl (any_of HT_.out (by kernel_rfl)) (fun _ _ _ h => h) (Or.inl ⟨by rfl, ?_⟩) ?_ ?_
     rotate_left
     ·
      intro w'
      go_simp
      with_reducible rfl
     rotate_left
     ·
      simp only [Act.put, Sa_, Sz_, Ss_, i64_w, i32_w]
      rfl
     refine take_ (i := 5) (N := some 22) (v := ?_) (a' := ?_) #[true, true, true, true, true, true, false, true, true, true, true, false, false, false] rfl rfl (take_ofW HT_.out HW_.out (by kernel_rfl)) (fun _ _ _ h => h) (Or.inl ⟨by rfl, ?_⟩) hHeld ?_ ?_
     rotate_left
     ·
      rintro w' ⟨s0, s1, s2, s3⟩
      go_simp
      with_reducible rfl
     rotate_left
     ·
      simp only [Act.put, Sa_, Sz_, Ss_, i64_w, i32_w]
      rfl
     refine take_ (i := 11) (N := some 28) (v := ?_) (a' := ?_) #[true, true, true, true, true, true, false, true, true, true, true, true, false, false] rfl rfl (take_ofW HT_.out HW_.out (by kernel_rfl)) (fun _ _ _ h => h) (Or.inl ⟨by rfl, ?_⟩) hHeld ?_ ?_
     rotate_left
     ·
      rintro w' ⟨s0, s1, s2, s3⟩
      go_simp
      with_reducible rfl
     rotate_left
     ·
      simp only [Act.put, Sa_, Sz_, Ss_, i64_w, i32_w]
      rfl
     refine one_ (i := 6) (N := some 23) #[true, true, true, true, true, true, true, true, true, true, true, true, false, false] rfl rfl (one_of HT_.out (by kernel_rfl)) (by decide) (fun K hK => ?_)
     refine goes_ Tryd.func55 (by kernel_rfl) rfl #[.slice Ao10 x5_1.length co10, .int .i64 ((rd_T49 l1 x6_1).f0)] (by rfl) rfl rfl (by (try simp only [List.map_toArray, List.map_cons, List.map_nil]); first | done | rfl | (simp only [List.length_drop, List.length_take]; rfl)) ?_
     with_reducible refine (r03PutInt.calls k1 _ _ x5_1 ((rd_T49 l1 x6_1).f0) t161 _ ?side1 ?side2 A7.out).mono ?_
     (case side1 => repeat (first | exact (Kd.R_reads' HO_5.out).2.2 | (with_reducible first | refine Kd.C_alloc ?_ _ | refine Kd.C_drewN ?_ _ | refine Kd.C_drew ?_)))
     (case side2 => exact (Kd.R_reads' HO_5.out).2.1)
     rintro e w11 ⟨v162, rfl, ho0, hb⟩
     refine ⟨_, rfl, ?_⟩
     have n0_ := A0_ (Kd.R_elder' (by (with_reducible repeat (first | apply Ra_ | apply Rn_ | apply Rd_)); exact HO_5.out) (Kd.R_base ho0) hb)
     have n1_ := A0_ (Kd.R_lower (Kd.R_new' ho0 (Kd.R_lt (by (with_reducible repeat (first | apply Ra_ | apply Rn_ | apply Rd_)); exact HO_5.out))) (below_size (by repeat (first | (with_reducible first | exact HB.out | apply Al_ | apply Dn_ | apply D1_) | exact HB.out))))
     have n2_ := A0_ (below_step (by repeat (first | (with_reducible first | exact HB.out | apply Al_ | apply Dn_ | apply D1_) | exact HB.out)) hb)
     clear HO_5
     clear HB
     have HO_5 := n0_
     have HO163 := n1_
     have HB := n2_
     clear n0_ n1_ n2_
     (try clear hb)
     (try clear hb2)
     (try clear hk)
     (try clear hi)
     (try clear ho0)
     obtain ⟨Ao12, co12, eo12⟩ := Kd.R_slice HO163.out
     (first | subst eo12 | (injection eo12 with f1_ f2_ f3_; have f4_ := f1_.symm; have f5_ := f3_.symm; clear f1_ f2_ f3_; subst f4_; subst f5_))
     refine hK.out _ _ ⟨((HB.out.cell (World.block_lt_of_cell? w _ hw160_0)).trans hw160_0), ((HB.out.cell (World.block_lt_of_cell? w _ hw160_1)).trans hw160_1), ((HB.out.cell (World.block_lt_of_cell? w _ hw164_0)).trans hw164_0), ((HB.out.cell (World.block_lt_of_cell? w _ hw164_1)).trans hw164_1)⟩ (fun hHeld => ?_)
     clear hK K
     refine norm_ (a' := ?_) ?_ ?_
     rotate_left
     ·
      show Act.put _ (some 23) _ = _
      simp only [Act.put, Sa_, Sz_, Ss_, i64_w, i32_w]
      rfl
     refine one_ (i := 12) (N := some 29) #[true, true, true, true, true, true, true, true, true, true, true, true, true, false] rfl rfl (one_of HT_.out (by kernel_rfl)) (by decide) (fun K hK => ?_)
     refine goes_ Tryd.func55 (by kernel_rfl) rfl #[.slice Ao12 t161.length co12, .int .i64 ((rd_T49 l1 x6_1).f1)] (by rfl) rfl rfl (by (try simp only [List.map_toArray, List.map_cons, List.map_nil]); first | done | rfl | (simp only [List.length_drop, List.length_take]; rfl)) ?_
     with_reducible refine (r03PutInt.calls k1 _ _ t161 ((rd_T49 l1 x6_1).f1) t165 _ ?side1 ?side2 A8.out).mono ?_
     (case side1 => repeat (first | exact (Kd.R_reads' HO163.out).2.2 | (with_reducible first | refine Kd.C_alloc ?_ _ | refine Kd.C_drewN ?_ _ | refine Kd.C_drew ?_)))
     (case side2 => exact (Kd.R_reads' HO163.out).2.1)
     rintro e w13 ⟨v166, rfl, ho0, hb⟩
     refine ⟨_, rfl, ?_⟩
     have n0_ := A0_ (Kd.R_elder' (by (with_reducible repeat (first | apply Ra_ | apply Rn_ | apply Rd_)); exact HO_5.out) (Kd.R_base ho0) hb)
     have n1_ := A0_ (Kd.R_elder' (by (with_reducible repeat (first | apply Ra_ | apply Rn_ | apply Rd_)); exact HO163.out) (Kd.R_base ho0) hb)
     have n2_ := A0_ (Kd.R_lower (Kd.R_new' (Kd.R_new' ho0 (Kd.R_lt (by (with_reducible repeat (first | apply Ra_ | apply Rn_ | apply Rd_)); exact HO_5.out))) (Kd.R_lt (by (with_reducible repeat (first | apply Ra_ | apply Rn_ | apply Rd_)); exact HO163.out))) (below_size (by repeat (first | (with_reducible first | exact HB.out | apply Al_ | apply Dn_ | apply D1_) | exact HB.out))))
     have n3_ := A0_ (below_step (by repeat (first | (with_reducible first | exact HB.out | apply Al_ | apply Dn_ | apply D1_) | exact HB.out)) hb)
     clear HO_5
     clear HO163
     clear HB
     have HO_5 := n0_
     have HO163 := n1_
     have HO167 := n2_
     have HB := n3_
     clear n0_ n1_ n2_ n3_
     (try clear hb)
     (try clear hb2)
     (try clear hk)
     (try clear hi)
     (try clear ho0)
     refine hK.out _ _ ⟨((HB.out.cell (World.block_lt_of_cell? w _ hw160_0)).trans hw160_0), ((HB.out.cell (World.block_lt_of_cell? w _ hw160_1)).trans hw160_1), ((HB.out.cell (World.block_lt_of_cell? w _ hw164_0)).trans hw164_0), ((HB.out.cell (World.block_lt_of_cell? w _ hw164_1)).trans hw164_1)⟩ (fun hHeld => ?_)
     clear hK K
     refine norm_ (a' := ?_) ?_ ?_
     rotate_left
     ·
      show Act.put _ (some 29) _ = _
      simp only [Act.put, Sa_, Sz_, Ss_, i64_w, i32_w]
      rfl
     refine pure_ (i := 13) (N := some 5) (v := ?_) (a' := ?_) #[true, true, true, true, true, true, true, true, true, true, true, true, true, true] rfl rfl (any_of HT_.out (by kernel_rfl)) (fun _ _ _ h => h) (Or.inl ⟨by rfl, ?_⟩) ?_ ?_
     rotate_left
     ·
      intro w'
      go_simp
      with_reducible rfl
     rotate_left
     ·
      simp only [Act.put, Sa_, Sz_, Ss_, i64_w, i32_w]
      rfl
     refine done_ (done_of HT_.out (by kernel_rfl)) ?_
     try go_wp2
     go_roundg k1
     case measure => have := HK1.out; omega
     case rel => exact ⟨(t165), (wrap64 (x6_1 + 1)), (by first | rfl | (simp; done) | (simp [*]; done)), H', ⟨by have := HK1.out; omega⟩, ⟨by (with_reducible repeat (first | apply Ra_ | apply Rn_ | apply Rd_)); exact Kd.R_mono HO167.out (fun _ hk => trivial)⟩, ⟨by repeat (first | (with_reducible first | exact HB.out | apply Al_ | apply Dn_ | apply D1_) | exact HB.out)⟩⟩
    ·
     rw [if_neg c6] at H
     exact absurd H (by simp)
   ·
    rw [if_neg c5] at H
    have c5b0 : decide (x6_1 < (l1.length : Int)) = false := decide_eq_false c5
    clear c5
    obtain rfl := Option.some.inj H
    go_wp2
    go_ret
    exact ⟨_, by first | rfl | (simp [errW_none, errW_some] <;> rfl) | (simp [*, errW_none, errW_some] <;> rfl), by (with_reducible repeat (first | apply Ra_ | apply Rn_ | apply Rd_)); exact HO_5.out, by repeat (first | (with_reducible first | exact HB.out | apply Al_ | apply Dn_ | apply D1_) | exact HB.out)⟩
def wire_putExtent.f (k : Nat) (l0 : List Int) (a1_0 : Int) (a1_1 : Int) : Option (List Int) := (wire_putInt.f k l0 a1_0).bind fun t169 => ((wire_putInt.f k t169 a1_1).bind fun t172 => (some t172))
def wire_putExtent.T1 : Bool × List (List Nat × List Nat) := (true, [([], []), ([], []), ([1], [1]), ([0, 2], [0, 2]), ([], []), ([4], [4]), ([3, 5, 3], [3, 5]), ([6, 6, 0, 1, 2, 3, 4, 5, 6], [6])])
def wire_putExtent.B1 : List Nat := [0, 0, 2, 7, 0, 16, 63, 127]
theorem wire_putExtent.tab1 : rtab .any (opsOf Tryd.f61 1) = wire_putExtent.T1 := by kernel_rfl
theorem wire_putExtent.bits1 : waitsOk wire_putExtent.T1.2 wire_putExtent.B1 = true := by kernel_rfl
set_option maxHeartbeats 8000000 in
set_option maxRecDepth 100000 in
theorem wire_putExtent.calls (k : Nat) (P0_ : Nat → Prop) (u9000_ : Value) (l0 : List Int) (a1_0 : Int) (a1_1 : Int) (r : List Int) (w0 w : World) (hB : Below w0.heap.size w0 w) (ho0 : Kd.R (Kd.int .u8) 5 w w0.heap.size P0_ u9000_ l0) (h : wire_putExtent.f k l0 a1_0 a1_1 = some r) :
  Calls Tryd.prog 61 #[u9000_, .agg #[.int .i64 a1_0, .int .i64 a1_1]] w fun e w' => ∃ v0_ : Value, e = .returned (v0_) ∧ Kd.R (Kd.int .u8) 5 w' w0.heap.size (fun k_ => (P0_ k_ ∨ w.heap.size ≤ k_)) v0_ r ∧ Below w0.heap.size w0 w' ∧ Kept w w' (fun k_ => P0_ k_) := by
 have hu49 := Tryd.underlying49
 have HO0 := A0_ (show Kd.R (Kd.int .u8) 5 w w0.heap.size (fun k_ => (P0_ k_ ∨ w.heap.size ≤ k_)) u9000_ l0 from Kd.R_mono ho0 (fun k_ hk => (.inl hk)))
 have HK := A0_ (Kept.refl w (fun k_ => P0_ k_))
 have HW0 := A0_ hB.size
 have HB := A0_ hB
 clear hB
 have H : ((wire_putInt.f k l0 a1_0).bind fun t169 => ((wire_putInt.f k t169 a1_1).bind fun t172 => (some t172))) = some r := h
 clear h
 replace H := Option.bind_eq_some_iff.mp H
 obtain ⟨t169, A30, H⟩ := H
 replace H : ((wire_putInt.f k t169 a1_1).bind fun t172 => (some t172)) = some r := H
 have A3 := A0_ A30
 clear A30
 replace H := Option.bind_eq_some_iff.mp H
 obtain ⟨t172, A40, H⟩ := H
 replace H : (some t172) = some r := H
 have A4 := A0_ A40
 clear A40
 obtain rfl := Option.some.inj H
 go_enter Tryd.func61, Tryd.ntmps61
 try go_wp2_with (first | ((with_reducible refine gate_dst (N := 3) rfl ?_); refine box_event ?hg (N := 3) ?hd (cs := #[.int .i64 a1_0, .int .i64 a1_1]) (t := 49) ?hr ?_; (case hd => rfl); (case hg => rfl); (case hr => first | (go_simp; done) | (go_simp; rfl)); intro gb168 hg w5 hbox hb; have n0_ := A0_ (Kd.R_below (by (with_reducible repeat (first | apply Ra_ | apply Rn_ | apply Rd_)); exact HO0.out) hb); have n1_ := A0_ (Kept.below (S := (fun k_ => P0_ k_)) (by repeat (first | (with_reducible first | exact HK.out | apply Kept.alloc | apply Kept.drewN | apply Kept.drew) | exact HK.out)) hb); have n2_ := A0_ (below_step (by repeat (first | (with_reducible first | exact HB.out | apply Al_ | apply Dn_ | apply D1_) | exact HB.out)) hb); have n3_ := A0_ (hbox); have n4_ := A0_ ((by rw [hg]; exact (by first | exact HK.out.1 | exact (show Kept w _ (fun k_ => P0_ k_) from by repeat (first | (with_reducible first | exact HK.out | apply Kept.alloc | apply Kept.drewN | apply Kept.drew) | exact HK.out)).1) : w.heap.size ≤ gb168)); have n5_ := A0_ ((by rw [hg]; exact (below_size (by repeat (first | (with_reducible first | exact HB.out | apply Al_ | apply Dn_ | apply D1_) | exact HB.out))) : w0.heap.size ≤ gb168)); clear HO0 HK HB; have HO0 := n0_; have HK := n1_; have HB := n2_; have BK168 := n3_; have GW168 := n4_; have GE168 := n5_; clear n0_ n1_ n2_ n3_ n4_ n5_ hb hbox hg))
 have n0_ := A0_ (Kd.R_drew HO0.out)
 have n1_ := A0_ (blk_drew BK168.out)
 have n2_ := A0_ (Kept.drew HK.out)
 have n3_ := A0_ (D1_ HB.out)
 clear HO0
 clear BK168
 clear HK
 clear HB
 have HO0 := n0_
 have BK168 := n1_
 have HK := n2_
 have HB := n3_
 clear n0_ n1_ n2_ n3_
 obtain ⟨Ao7, co7, eo7⟩ := Kd.R_slice HO0.out
 (first | subst eo7 | (injection eo7 with f1_ f2_ f3_; have f4_ := f1_.symm; have f5_ := f3_.symm; clear f1_ f2_ f3_; subst f4_; subst f5_))
 refine start_ (n := 8) (S := fun w' => w'.cell? ⟨gb168, 0, none⟩ = some (.int .i64 a1_0) ∧ w'.cell? ⟨gb168, 1, none⟩ = some (.int .i64 a1_1)) (ds := []) #[false, false, false, false, false, false, false, false] (by kernel_rfl) rfl rfl ⟨(Bc_ BK168.out 0).trans rfl, (Bc_ BK168.out 1).trans rfl⟩ (fun hHeld => ?_); refine with_tabW wire_putExtent.tab1 wire_putExtent.bits1 (fun HT_ HW_ => ?_)
 generalize w5.drew = w6 at HO0 BK168 HK HB hHeld ⊢
 refine pure_ (i := 0) (N := some 5) (v := ?_) (a' := ?_) #[true, false, false, false, false, false, false, false] rfl rfl (any_of HT_.out (by kernel_rfl)) (fun _ _ _ h => h) (Or.inl ⟨by rfl, ?_⟩) ?_ ?_
 rotate_left
 ·
  intro w'
  go_simp
  with_reducible rfl
 rotate_left
 ·
  simp only [Act.put, Sa_, Sz_, Ss_, i64_w, i32_w]
  rfl
 refine pure_ (i := 1) (N := some 6) (v := ?_) (a' := ?_) #[true, true, false, false, false, false, false, false] rfl rfl (any_of HT_.out (by kernel_rfl)) (fun _ _ _ h => h) (Or.inl ⟨by rfl, ?_⟩) ?_ ?_
 rotate_left
 ·
  intro w'
  go_simp
  with_reducible rfl
 rotate_left
 ·
  simp only [Act.put, Sa_, Sz_, Ss_, i64_w, i32_w]
  rfl
 refine pure_ (i := 4) (N := some 9) (v := ?_) (a' := ?_) #[true, true, false, false, true, false, false, false] rfl rfl (any_of HT_.out (by kernel_rfl)) (fun _ _ _ h => h) (Or.inl ⟨by rfl, ?_⟩) ?_ ?_
 rotate_left
 ·
  intro w'
  go_simp
  with_reducible rfl
 rotate_left
 ·
  simp only [Act.put, Sa_, Sz_, Ss_, i64_w, i32_w]
  rfl
 refine take_ (i := 2) (N := some 7) (v := ?_) (a' := ?_) #[true, true, true, false, true, false, false, false] rfl rfl (take_ofW HT_.out HW_.out (by kernel_rfl)) (fun _ _ _ h => h) (Or.inl ⟨by rfl, ?_⟩) hHeld ?_ ?_
 rotate_left
 ·
  rintro w' ⟨s0, s1⟩
  go_simp
  with_reducible rfl
 rotate_left
 ·
  simp only [Act.put, Sa_, Sz_, Ss_, i64_w, i32_w]
  rfl
 refine take_ (i := 5) (N := some 10) (v := ?_) (a' := ?_) #[true, true, true, false, true, true, false, false] rfl rfl (take_ofW HT_.out HW_.out (by kernel_rfl)) (fun _ _ _ h => h) (Or.inl ⟨by rfl, ?_⟩) hHeld ?_ ?_
 rotate_left
 ·
  rintro w' ⟨s0, s1⟩
  go_simp
  with_reducible rfl
 rotate_left
 ·
  simp only [Act.put, Sa_, Sz_, Ss_, i64_w, i32_w]
  rfl
 refine one_ (i := 3) (N := some 8) #[true, true, true, true, true, true, false, false] rfl rfl (one_of HT_.out (by kernel_rfl)) (by decide) (fun K hK => ?_)
 refine goes_ Tryd.func58 (by kernel_rfl) rfl #[.slice Ao7 l0.length co7, .int .i64 a1_0] (by rfl) rfl rfl (by (try simp only [List.map_toArray, List.map_cons, List.map_nil]); first | done | rfl | (simp only [List.length_drop, List.length_take]; rfl)) ?_
 with_reducible refine (wire_putInt.calls k (fun k_ => some k_ = (.slice Ao7 l0.length co7 : Value).ownBlock) (.slice Ao7 l0.length co7) l0 a1_0 t169 w0 _ ?side1 ?side2 A3.out).mono ?_
 (case side1 => repeat (first | (with_reducible first | exact HB.out | apply Al_ | apply Dn_ | apply D1_ | refine Bs_ ?_ GE168.out) | exact HB.out))
 (case side2 => exact Kd.R_tight rfl HO0.out)
 rintro e w8 ⟨v170, rfl, ho0, hb, hkp⟩
 refine ⟨_, rfl, ?_⟩
 have n0_ := A0_ (blk_kept (by (with_reducible repeat (first | refine Bn_ ?_ _ | refine Bd_ ?_ | refine Ba_ ?_ _)); exact BK168.out) hkp (fun hs_ => (fun e_ => (Kd.R_ne HO0.out BK168.out (by decide)) e_) hs_))
 have n1_ := A0_ (Kd.R_mono (ok' := fun k_ => (P0_ k_ ∨ w.heap.size ≤ k_)) ho0 (fun k_ hk_ => Or.elim hk_ (fun hs_ => (HO0.out.1 k_ (hs_).symm)) (fun hn_ => (.inr (Nat.le_trans (by first | exact HK.out.1 | exact (show Kept w _ (fun k_ => P0_ k_) from by repeat (first | (with_reducible first | exact HK.out | apply Kept.alloc | apply Kept.drewN | apply Kept.drew | refine Kept.setCell ?_ (.inr GW168.out) _) | exact HK.out)).1) hn_)))))
 have n2_ := A0_ (Kept.then_ (S := (fun k_ => P0_ k_)) (by repeat (first | (with_reducible first | exact HK.out | apply Kept.alloc | apply Kept.drewN | apply Kept.drew | refine Kept.setCell ?_ (.inr GW168.out) _) | exact HK.out)) hkp (fun k_ hs_ => (fun e_ => (HO0.out.1 k_ e_.symm)) hs_))
 have n3_ := A0_ (hb)
 clear BK168
 clear HK
 clear HB
 clear HO0
 have BK168 := n0_
 have HO171 := n1_
 have HK := n2_
 have HB := n3_
 clear n0_ n1_ n2_ n3_
 (try clear hb)
 (try clear hkp)
 (try clear ho0)
 obtain ⟨Ao9, co9, eo9⟩ := Kd.R_slice HO171.out
 (first | subst eo9 | (injection eo9 with f1_ f2_ f3_; have f4_ := f1_.symm; have f5_ := f3_.symm; clear f1_ f2_ f3_; subst f4_; subst f5_))
 refine hK.out _ _ ⟨(Bc_ BK168.out 0).trans rfl, (Bc_ BK168.out 1).trans rfl⟩ (fun hHeld => ?_)
 clear hK K
 refine norm_ (a' := ?_) ?_ ?_
 rotate_left
 ·
  show Act.put _ (some 8) _ = _
  simp only [Act.put, Sa_, Sz_, Ss_, i64_w, i32_w]
  rfl
 refine one_ (i := 6) (N := some 11) #[true, true, true, true, true, true, true, false] rfl rfl (one_of HT_.out (by kernel_rfl)) (by decide) (fun K hK => ?_)
 refine goes_ Tryd.func58 (by kernel_rfl) rfl #[.slice Ao9 t169.length co9, .int .i64 a1_1] (by rfl) rfl rfl (by (try simp only [List.map_toArray, List.map_cons, List.map_nil]); first | done | rfl | (simp only [List.length_drop, List.length_take]; rfl)) ?_
 with_reducible refine (wire_putInt.calls k (fun k_ => some k_ = (.slice Ao9 t169.length co9 : Value).ownBlock) (.slice Ao9 t169.length co9) t169 a1_1 t172 w0 _ ?side1 ?side2 A4.out).mono ?_
 (case side1 => repeat (first | (with_reducible first | exact HB.out | apply Al_ | apply Dn_ | apply D1_ | refine Bs_ ?_ GE168.out) | exact HB.out))
 (case side2 => exact Kd.R_tight rfl HO171.out)
 rintro e w10 ⟨v173, rfl, ho0, hb, hkp⟩
 refine ⟨_, rfl, ?_⟩
 have n0_ := A0_ (blk_kept (by (with_reducible repeat (first | refine Bn_ ?_ _ | refine Bd_ ?_ | refine Ba_ ?_ _)); exact BK168.out) hkp (fun hs_ => (fun e_ => (Kd.R_ne HO171.out BK168.out (by decide)) e_) hs_))
 have n1_ := A0_ (Kd.R_mono (ok' := fun k_ => (P0_ k_ ∨ w.heap.size ≤ k_)) ho0 (fun k_ hk_ => Or.elim hk_ (fun hs_ => (HO171.out.1 k_ (hs_).symm)) (fun hn_ => (.inr (Nat.le_trans (by first | exact HK.out.1 | exact (show Kept w _ (fun k_ => P0_ k_) from by repeat (first | (with_reducible first | exact HK.out | apply Kept.alloc | apply Kept.drewN | apply Kept.drew | refine Kept.setCell ?_ (.inr GW168.out) _) | exact HK.out)).1) hn_)))))
 have n2_ := A0_ (Kept.then_ (S := (fun k_ => P0_ k_)) (by repeat (first | (with_reducible first | exact HK.out | apply Kept.alloc | apply Kept.drewN | apply Kept.drew | refine Kept.setCell ?_ (.inr GW168.out) _) | exact HK.out)) hkp (fun k_ hs_ => (fun e_ => (HO171.out.1 k_ e_.symm)) hs_))
 have n3_ := A0_ (hb)
 clear BK168
 clear HK
 clear HB
 clear HO171
 have BK168 := n0_
 have HO174 := n1_
 have HK := n2_
 have HB := n3_
 clear n0_ n1_ n2_ n3_
 (try clear hb)
 (try clear hkp)
 (try clear ho0)
 refine hK.out _ _ ⟨(Bc_ BK168.out 0).trans rfl, (Bc_ BK168.out 1).trans rfl⟩ (fun hHeld => ?_)
 clear hK K
 refine norm_ (a' := ?_) ?_ ?_
 rotate_left
 ·
  show Act.put _ (some 11) _ = _
  simp only [Act.put, Sa_, Sz_, Ss_, i64_w, i32_w]
  rfl
 refine pure_ (i := 7) (N := some 4) (v := ?_) (a' := ?_) #[true, true, true, true, true, true, true, true] rfl rfl (any_of HT_.out (by kernel_rfl)) (fun _ _ _ h => h) (Or.inl ⟨by rfl, ?_⟩) ?_ ?_
 rotate_left
 ·
  intro w'
  go_simp
  with_reducible rfl
 rotate_left
 ·
  simp only [Act.put, Sa_, Sz_, Ss_, i64_w, i32_w]
  rfl
 refine done_ (done_of HT_.out (by kernel_rfl)) ?_
 try go_wp2
 go_ret
 exact ⟨_, by first | rfl | (simp [errW_none, errW_some] <;> rfl) | (simp [*, errW_none, errW_some] <;> rfl), by (with_reducible repeat (first | apply Ra_ | apply Rn_ | apply Rd_)); exact HO174.out, by repeat (first | (with_reducible first | exact HB.out | apply Al_ | apply Dn_ | apply D1_ | refine Bs_ ?_ GE168.out) | exact HB.out), by repeat (first | (with_reducible first | exact HK.out | apply Kept.alloc | apply Kept.drewN | apply Kept.drew | refine Kept.setCell ?_ (.inr GW168.out) _) | exact HK.out)⟩
end Go.Proofs.YtnjbdcnefienhaaDoor.P

namespace Go.Proofs.YtnjbdcnefienhaaDoor.P
open Go.RowKit Go.Shelf Go.Proofs.YtnjbdcnefienhaaDoorW.PrintWords Go.Proofs.YtnjbdcnefienhaaDoorW.PrintLast Go.Proofs.YtnjbdcnefienhaaDoorW.PrintMore
attribute [local go_sem] Oper.semAt_some
set_option maxHeartbeats 1000000 in
theorem tz_core (x k idx : Nat) (w : World) (hx0 : ((x : Int) == 0) = false)
    (key : IntKind.u64.wrap (bits BinOp.and IntKind.u64 (x : Int) (IntKind.u64.wrap (-(x : Int))) * 285870213051353865) / 288230376151711744 = (idx : Int))
    (hi : idx < 64) (hk : k < 64) (hcell : w.cell? ⟨0, idx, none⟩ = some (.int .u8 k)) :
    Calls Tryd.prog 79 #[.int .u64 x] w fun e w' => e = .returned (.int .i64 k) ∧ w' = w := by
  go_enter Tryd.func79, Tryd.ntmps79
  go_wp2_with (simp only [key])
  go_ret
  exact ⟨rfl, rfl⟩
theorem tz_any (x : Nat) (hx0 : x ≠ 0) (hx : x < 18446744073709551616) (w : World) (hG : TabOK w) :
    Calls Tryd.prog 79 #[.int .u64 x] w fun e w' => e = .returned (.int .i64 (Lib.ctz 64 x)) ∧ w' = w := by
  obtain ⟨hlow, hk⟩ := Lib.lowest_bit 64 x hx0 hx
  obtain ⟨hi, htab⟩ := Lib.deBruijn64_at _ hk
  have hcell := hG.out _ hi
  rw [htab] at hcell
  exact tz_core x _ _ w (by simp; omega) (tz64_key x _ hx hx0 hlow) hi hk hcell
end Go.Proofs.YtnjbdcnefienhaaDoor.P

namespace Go.Proofs.YtnjbdcnefienhaaDoor.P
open Go.RowKit Go.Shelf Go.Proofs.YtnjbdcnefienhaaDoorW.PrintWords Go.Proofs.YtnjbdcnefienhaaDoorW.PrintLast Go.Proofs.YtnjbdcnefienhaaDoorW.PrintMore
attribute [local go_sem] Oper.semAt_some
attribute [local go_sem] max2_int min2_int max_two min_two max_three min_three max_four min_four
theorem mask_total (i lo hi : Int) : bmask.f i lo hi = some (mkW i lo hi) := by
 unfold mkW
 suffices h : ∃ r, bmask.f i lo hi = some r by
  obtain ⟨r, h⟩ := h
  rw [h]; rfl
 unfold bmask.f
 rw [mx_eq, mn_eq]
 generalize wrap64 (lo - wrap64 (i * 64)) = a
 generalize wrap64 (hi - wrap64 (i * 64)) = b
 by_cases h : max a 0 ≥ min b 64
 ·
  rw [if_pos h]; exact ⟨_, rfl⟩
 ·
  rw [if_neg h, w64 (min b 64 - max a 0) (by omega) (by omega), w64 (64 - (min b 64 - max a 0)) (by omega) (by omega), if_pos (by omega)]
  exact ⟨_, rfl⟩
theorem read_at' {w : World} {A : Option Addr} {xs : List Int} (h : Kd.C (Kd.int .u64) w A xs.length xs) {k : Nat} (hk : k < xs.length) : ∃ ad, A = some ad ∧ w.cell? (ad.add k) = some (.int .u64 (rd xs k)) := by
 obtain ⟨ad, e, h⟩ := h.2.2 (by omega)
 obtain ⟨cs, hl, hk', hcell⟩ := h k _ (List.getElem?_eq_getElem hk)
 have hcs : cs = [Value.int .u64 xs[k]] := hk'
 subst hcs
 have := hcell 0 _ rfl
 refine ⟨ad, e, ?_⟩
 simpa [rd, List.getD, hk, show (Kd.int .u64).sz = 1 from rfl] using this
def upto (ws : List Int) (lo size : Int) (k : Nat) : List Int := (List.range k).flatMap (elemsW ws lo size)
theorem upto_succ (ws : List Int) (lo size : Int) (k : Nat) : upto ws lo size (k + 1) = upto ws lo size k ++ elemsW ws lo size k := by simp [upto, List.range_succ]
theorem upto_prefix (ws : List Int) (lo size : Int) (n : Nat) : ∀ k, k ≤ n → upto ws lo size k <+: upto ws lo size n := by
 induction n with
 | zero =>
  intro k hk
  have h0 : k = 0 := by omega
  subst h0
  exact List.prefix_refl _
 | succ n ih =>
  intro k hk
  rcases Nat.lt_or_ge k (n + 1) with h | h
  ·
   rw [upto_succ]; exact (ih k (by omega)).trans (List.prefix_append _ _)
  ·
   have h0 : k = n + 1 := by omega
   subst h0
   exact List.prefix_refl _
theorem cutW_lt (ws : List Int) (lo size : Int) (i : Nat) : cutW ws lo size i < 18446744073709551616 := by
 unfold cutW
 have : Go.bits .and .u64 (rd ws i) (mkW i lo size) = IntKind.u64.wrap ((BitVec.ofInt 64 (rd ws i) &&& BitVec.ofInt 64 (mkW i lo size)).toNat : Int) := rfl
 rw [this, IntKind.wrap_u64]
 omega
theorem cutW_cast (ws : List Int) (lo size : Int) (i : Nat) : Go.bits .and .u64 (rd ws i) (mkW i lo size) = ((cutW ws lo size i : Nat) : Int) := by
 unfold cutW
 have : Go.bits .and .u64 (rd ws i) (mkW i lo size) = IntKind.u64.wrap ((BitVec.ofInt 64 (rd ws i) &&& BitVec.ofInt 64 (mkW i lo size)).toNat : Int) := rfl
 rw [this, IntKind.wrap_u64]
 omega
set_option maxHeartbeats 4000000 in
set_option maxRecDepth 100000 in
theorem elems1_bad (n l : Nat) (B1 B2 : Nat) (size : Int) (A : Option Addr) (c : Nat) (ws : List Int) (W : World) (hb1 : W.heap[B1]? = some (.cells #[.int .i64 size, .slice A ws.length c] 26 (0, 0)))
  (hr : Kd.C (Kd.int .u64) W A ws.length ws) (hc : ws.length ≤ c) (hg : ¬ Good size ws) :
  CallsIn Fence.wide n Tryd.prog 77 #[.func (.yield l) #[] #[], .pointer (some ⟨B1, 0, none⟩), .pointer (some ⟨B2, 0, none⟩)] W fun e W' => (∃ v, e = .returned v) ∧ Below W.heap.size W W' := by
 have HR := Aside0.mk hr
 have HC := Aside0.mk hc
 have HE := Aside0.mk (good_no hg 0)
 obtain ⟨c10, c11, -, -⟩ := cells2 hb1
 clear hr hc hg hb1
 refine callsIn_of_wp Tryd.func77 rfl trivial ?_ rfl
 simp only [Tryd.ntmps77, List.size_toArray, List.length_cons, List.length_nil, Nat.reduceAdd, Nat.reduceSub, Array.replicate_succ, Array.replicate_zero, List.push_toArray, List.append_toArray, List.nil_append, List.cons_append]
 gi_wp2
 refine ⟨trivial, fun h => (by cases h), (callsIn_wide.2 (bCheck.calls 1 size _ c ws 3 W HR.out HC.out HE.out)).mono ?_⟩
 rintro e w1 ⟨rfl, hb⟩
 have HB := Aside0.mk hb
 clear hb
 gi_wp2
 refine bodyPost_ret (results_none rfl _ _ _) rfl ?_
 exact ⟨⟨_, rfl⟩, HB.out⟩
def KpE (n₀ B1 B2 : Nat) (X Y : World) : Prop := Below n₀ X Y ∧ Y.heap[B1]? = X.heap[B1]? ∧ Y.heap[B2]? = X.heap[B2]?
theorem KpE.trans {n₀ B1 B2 : Nat} {X Y Z : World} (h : KpE n₀ B1 B2 X Y) (k : KpE n₀ B1 B2 Y Z) : KpE n₀ B1 B2 X Z := ⟨h.1.trans k.1, k.2.1.trans h.2.1, k.2.2.trans h.2.2⟩
theorem KpE.putObj {n₀ B1 B2 : Nat} {w : World} (hn : n₀ ≤ w.heap.size) (h1 : B1 < w.heap.size) (h2 : B2 < w.heap.size) (W : World) (l : Nat) (o o' : Obj) (hl : w.heap.size ≤ l) (h : W.heap[l]? = some o) (hc : o.isCells = false) (hw : o.isWalk = false) : KpE n₀ B1 B2 W (W.putObj l o') :=
 ⟨belowK_b hn W l o o' hl h hc hw, World.putObj_heap_other (by omega), World.putObj_heap_other (by omega)⟩
structure EI (W0 : World) (B1 B2 : Nat) (size lo : Int) (v : Value) (W : World) : Prop where
 below : Below W0.heap.size W0 W
 b1 : W.heap[B1]? = some (.cells #[.int .i64 size, v] 26 (0, 0))
 b2 : W.heap[B2]? = some (.cells #[.int .i64 lo] 3 (0, 0))
theorem EI.kp {W0 : World} {B1 B2 : Nat} {size lo : Int} {v : Value} {X Y : World} (h : EI W0 B1 B2 size lo v X) (k : KpE W0.heap.size B1 B2 X Y) : EI W0 B1 B2 size lo v Y := ⟨h.below.trans k.1, k.2.1.trans h.b1, k.2.2.trans h.b2⟩
theorem EI.step {W0 : World} {B1 B2 : Nat} {size lo : Int} {v : Value} {X Y : World} (h : EI W0 B1 B2 size lo v X) (k : Below X.heap.size X Y) : EI W0 B1 B2 size lo v Y := ⟨h.below.trans (k.mono h.below.size), blk_of_below h.b1 k, blk_of_below h.b2 k⟩
set_option maxHeartbeats 8000000 in
set_option maxRecDepth 100000 in
theorem elems1_ok (n l : Nat) (B1 B2 : Nat) (size lo : Int) (A : Option Addr) (c : Nat) (ws : List Int) (W0 W : World) (hBW : EI W0 B1 B2 size lo (.slice A ws.length c) W)
  (hr : Kd.C (Kd.int .u64) W0 A ws.length ws) (hc : ws.length ≤ c) (hG : TabOK W0) (hg : Good size ws) (J Jx : List Int → World → Prop) (hJ : AbidesFrom W.heap.size J)
  (hY : ∀ pre x W, J pre W → pre.length < (elems ws lo size).length → YieldAt Fence.wide (n - 1) Tryd.prog l #[.int .i64 x] W fun e W' =>
   (e = .returned (.bool true) ∧ J (pre ++ [x]) W' ∧ KpE W0.heap.size B1 B2 W W') ∨ (e = .returned (.bool false) ∧ Jx (pre ++ [x]) W')) (h0 : J [] W) :
  CallsIn Fence.wide n Tryd.prog 77 #[.func (.yield l) #[] #[], .pointer (some ⟨B1, 0, none⟩), .pointer (some ⟨B2, 0, none⟩)] W fun e W' => (∃ v, e = .returned v) ∧
   (J (elems ws lo size) W' ∨ ∃ pre, pre <+: elems ws lo size ∧ Jx pre W') := by
 have HR := Aside0.mk hr
 have HC := Aside0.mk hc
 have HE := Aside0.mk (good_yes hg 0)
 have HGD := Aside0.mk hg
 have HL := Aside0.mk hg.len_le
 have HBW := Aside0.mk hBW
 have HJ := Aside0.mk hJ
 have HY := Aside0.mk hY
 have H0 := Aside0.mk h0
 have hlen : ws.length ≤ 64 := hg.len_le
 obtain ⟨c10, c11, -, -⟩ := cells2 hBW.b1
 clear hr hc hg hBW hJ hY h0
 refine callsIn_of_wp Tryd.func77 rfl trivial ?_ rfl
 simp only [Tryd.ntmps77, List.size_toArray, List.length_cons, List.length_nil, Nat.reduceAdd, Nat.reduceSub, Array.replicate_succ, Array.replicate_zero, List.push_toArray, List.append_toArray, List.nil_append, List.cons_append]
 gi_wp2
 refine ⟨trivial, fun h => (by cases h), (callsIn_wide.2 (bCheck.calls 1 size _ c ws 0 W (Kd.C_below HR.out HBW.out.below) HC.out HE.out)).mono ?_⟩
 rintro e w1 ⟨rfl, hb⟩
 have H1 : Aside0 (J [] w1) := ⟨HJ.out [] W w1 none H0.out (grown_of_below hb none) (fun r e => by cases e)⟩
 have HB := Aside0.mk (HBW.out.step hb)
 clear hb c10 c11
 obtain ⟨c10, c11, -, -⟩ := cells2 HB.out.b1
 gi_wp2
 gi_loopw [12] (fun i wr => ∃ k : Nat, k ≤ ws.length ∧ i = .int .i64 k ∧ J (upto ws lo size k) wr ∧ EI W0 B1 B2 size lo (.slice A ws.length c) wr)
  (fun i _ => ws.length - (intOf i).toNat)
 case atStart => exact ⟨0, Nat.zero_le _, rfl, H1.out, HB.out⟩
 case round =>
  obtain ⟨k, hk, rfl, hJs, hnx⟩ := hrel
  have HJs := Aside0.mk hJs
  have HNX := Aside0.mk hnx
  clear hJs hnx
  by_cases hlt : k < ws.length
  ·
   obtain ⟨c20, c21, -, -⟩ := cells2 HNX.out.b1
   have c30 : wr.cell? ⟨B2, 0, none⟩ = some (.int .i64 lo) := (blk_cell HNX.out.b2 0).trans rfl
   obtain ⟨ad, hA, hxk⟩ := read_at' (Kd.C_below HR.out HNX.out.below) hlt
   subst hA
   obtain ⟨x, hx⟩ : ∃ x, x = rd ws k := ⟨_, rfl⟩
   rw [← hx] at hxk
   have HX := Aside0.mk hx
   clear hx
   gi_wp2
   refine ⟨trivial, fun h => (by cases h), (callsIn_wide.2 (bmask.same k lo size _ wr (mask_total k lo size))).mono ?_⟩
   rintro e w' ⟨rfl, rfl⟩
   gi_wp2
   rw [show Go.bits .and .u64 x (mkW k lo size) = ((cutW ws lo size k : Nat) : Int) from by rw [HX.out]; exact cutW_cast ws lo size k]
   have HWO := Aside0.mk (show ∃ wo : World, wo = w' from ⟨_, rfl⟩)
   obtain ⟨wo, hwo⟩ := HWO.out
   rw [← hwo] at HJs HNX ⊢
   clear HWO c20 c21 c30 hxk hwo
   gi_loopw [5] (fun v wi => ∃ (m : Nat) (done : List Int), m < 18446744073709551616 ∧ v = .int .u64 m ∧ Aside0 (elemsW ws lo size k = done ++ (bitsOf m).map fun (b : Nat) => ((k * 64 + b : Nat) : Int)) ∧ Aside0 (J (upto ws lo size k ++ done) wi) ∧ Aside0 (EI W0 B1 B2 size lo (.slice (some ad) ws.length c) wi))
    (fun v _ => (intOf v).toNat)
   case atStart => exact ⟨cutW ws lo size k, [], cutW_lt ws lo size k, rfl, ⟨rfl⟩, ⟨by rw [List.append_nil]; exact HJs.out⟩, HNX⟩
   case round =>
    obtain ⟨m, done, hm, rfl, HD, HJ2, HN2⟩ := hrel
    by_cases hm0 : m = 0
    ·
     subst hm0
     gi_wp2
     refine ⟨⟨k + 1, by omega, by go_num, ?_, HN2.out⟩, by simp [intOf]; omega⟩
     have e := HD.out
     rw [bitsOf_zero, List.map_nil, List.append_nil] at e
     rw [upto_succ, e]
     exact HJ2.out
    ·
     have hq : ((m : Int) != 0) = true := by simpa using hm0
     obtain ⟨hb1, hb2, hb3⟩ := bitsOf_step m hm0 hm
     have HBS := Aside0.mk hb1
     have HD2 : Aside0 (elemsW ws lo size k = done ++ ((k : Int) * 64 + ((Lib.ctz 64 m : Nat) : Int)) :: (bitsOf (m &&& (m - 1))).map fun (b : Nat) => ((k * 64 + b : Nat) : Int)) := ⟨by rw [HD.out, HBS.out, List.map_cons]; congr 2⟩
     have HPRE : Aside0 (upto ws lo size k ++ done ++ [(k : Int) * 64 + ((Lib.ctz 64 m : Nat) : Int)] <+: elems ws lo size) := ⟨by
      refine List.IsPrefix.trans ?_ (upto_prefix ws lo size ws.length (k + 1) (by omega))
      rw [upto_succ, HD2.out]
      exact ⟨(bitsOf (m &&& (m - 1))).map fun (b : Nat) => ((k * 64 + b : Nat) : Int), by simp⟩⟩
     obtain ⟨fn, tmps, assign, body, hy, hR⟩ := HY.out _ ((k : Int) * 64 + ((Lib.ctz 64 m : Nat) : Int)) wr HJ2.out (by have := HPRE.out.length_le; simp at this ⊢; omega)
     have HRR := Aside0.mk hR
     have HM := Aside0.mk (And.intro hm0 hm)
     clear hb1 hR hm0
     gi_wp2
     refine ⟨trivial, fun h => (by cases h), (callsIn_wide.2 (tz_any m HM.out.1 HM.out.2 wr (hG.below HN2.out.below))).mono ?_⟩
     rintro e w2 ⟨rfl, rfl⟩
     gi_wp2
     refine ⟨fun h => (by cases h), HRR.out.mono ?_⟩
     rintro e W3 (⟨rfl, hJ3, hk3⟩ | ⟨rfl, hJx3⟩)
     ·
      have HJ3 := Aside0.mk hJ3
      have HN3 := Aside0.mk (HN2.out.kp hk3)
      have HLT := Aside0.mk hb2
      have hm1 : 1 ≤ m := by have := HM.out.1; omega
      have hm2 : m < 18446744073709551616 := HM.out.2
      clear hJ3 hk3 hy hb2
      gi_wp2
      have hbe : Go.bits .and .u64 (m : Int) ((m : Int) - 1) = ((m &&& (m - 1) : Nat) : Int) := by
       rw [show (m : Int) - 1 = ((m - 1 : Nat) : Int) from by omega]
       exact bits_and_u64_nat m (m - 1) hm2 (by omega)
      rw [hbe]
      refine ⟨⟨m &&& (m - 1), done ++ [(k : Int) * 64 + ((Lib.ctz 64 m : Nat) : Int)], Nat.lt_trans HLT.out hm2, rfl, ⟨by rw [HD2.out]; simp⟩, ⟨by rw [← List.append_assoc]; exact HJ3.out⟩, HN3⟩, ?_⟩
      have := HLT.out
      simp [intOf]; omega
     ·
      have HJ3 := Aside0.mk hJx3
      clear hJx3 hy
      gi_wp2
      refine bodyPost_ret (results_none rfl _ _ _) rfl ?_
      exact ⟨⟨_, rfl⟩, .inr ⟨_, HPRE.out, HJ3.out⟩⟩
  ·
   obtain rfl : k = ws.length := by omega
   gi_wp2
   go_end0
   exact ⟨⟨_, rfl⟩, .inl HJs.out⟩
theorem elems_stops (n : Nat) (B1 B2 : Nat) (size lo : Int) (A : Option Addr) (c : Nat) (ws : List Int) (W0 W1 : World) (hE : EI W0 B1 B2 size lo (.slice A ws.length c) W1)
  (hr : Kd.C (Kd.int .u64) W0 A ws.length ws) (hc : ws.length ≤ c) (hG : TabOK W0) :
  SeqStopsK Fence.wide n Tryd.prog 77 #[.pointer (some ⟨B1, 0, none⟩), .pointer (some ⟨B2, 0, none⟩)] (fun x : Int => #[Value.int .i64 x]) (KpE W0.heap.size B1 B2) (fun ys => ys = bElems size ws lo) (fun pre => pre <+: bElems size ws lo) (bElems size ws lo).length W1 := fun l J Jx W hW hJ _ hY h0 => by
 by_cases hg : Good size ws
 ·
  have e : bElems size ws lo = elems ws lo size := by unfold bElems; rw [if_pos ((good_iff _ _).2 hg)]
  rw [e] at hY ⊢
  refine (elems1_ok n l B1 B2 size lo A c ws W0 W (hE.step hW) hr hc hG hg J Jx hJ hY h0).mono ?_
  rintro e W' ⟨he, h | h⟩
  ·
   exact ⟨he, .inl ⟨_, rfl, h⟩⟩
  ·
   exact ⟨he, .inr h⟩
 ·
  have e : bElems size ws lo = [] := by unfold bElems; rw [if_neg (fun h => hg ((good_iff _ _).1 h))]
  rw [e]
  refine (elems1_bad n l B1 B2 size A c ws W (hE.step hW).b1 (Kd.C_below hr (hE.step hW).below) hc hg).mono ?_
  rintro e W' ⟨he, hb⟩
  exact ⟨he, .inl ⟨_, rfl, hJ [] W W' none h0 (grown_of_below hb none) (fun r e => by cases e)⟩⟩
set_option maxHeartbeats 2000000 in
theorem elements_any (n : Nat) (size lo : Int) (v : Value) (w : World) :
  CallsIn Fence.wide n Tryd.prog 62 #[.agg #[.int .i64 size, v], .int .i64 lo] w fun e w' => e = .returned (.func (.func 77) #[] #[.pointer (some ⟨w.heap.size, 0, none⟩), .pointer (some ⟨w.heap.size + 1, 0, none⟩)]) ∧ w' = (w.alloc (.cells #[.int .i64 size, v] 26)).alloc (.cells #[.int .i64 lo] 3) := by
 refine callsIn_of_wp Tryd.func62 rfl trivial ?_ rfl
 simp only [Tryd.ntmps62, List.size_toArray, List.length_cons, List.length_nil, Nat.reduceAdd, Nat.reduceSub, Array.replicate_succ, Array.replicate_zero, List.push_toArray, List.append_toArray, List.nil_append, List.cons_append]
 gi_wp2
 go_ret
 exact ⟨rfl, rfl⟩
def flat (l : List S49) : List Value := l.flatMap fun e => [.int .i64 e.f0, .int .i64 e.f1]
theorem flat_append (l m : List S49) : flat (l ++ m) = flat l ++ flat m := by simp [flat]
theorem flat_length (l : List S49) : (flat l).length = l.length * 2 := by induction l with | nil => rfl | cons a l ih => simp [flat] at ih ⊢; omega
theorem info26' : (Tryd.prog.info? 49).map (fun i => (i.zero, i.size, i.bytes)) = some (some (.agg #[.int .i64 0, .int .i64 0]), 2, 16) := by kernel_rfl
theorem joinE_length (xs : List Int) : (xs.foldl joinE []).length ≤ xs.length := by
 suffices h : ∀ (l : List S49), (xs.foldl joinE l).length ≤ l.length + xs.length by simpa using h []
 induction xs with
 | nil => intro l; simp
 | cons x xs ih =>
  intro l
  rw [List.foldl_cons]
  refine Nat.le_trans (ih _) ?_
  have : (joinE l x).length ≤ l.length + 1 := by
   unfold joinE
   split
   ·
    rename_i e he
    have hl : l ≠ [] := by rintro rfl; simp at he
    have := List.length_pos_iff.2 hl
    split <;> simp
    all_goals omega
   ·
    simp
  simp only [List.length_cons]
  omega
theorem cells_two_new (W : World) (a b : Value) (t : TypeId) : ∀ j u, ([a, b] : List Value)[j]? = some u → (W.alloc (.cells #[a, b] t)).cell? ((⟨W.heap.size, 0, none⟩ : Addr).add j) = some u := by
 intro j u hj
 rw [add_plain]
 have h := blk_cell (heap_alloc_new W (.cells #[a, b] t)) j
 rw [h]
 simpa using hj
theorem ownFrom_EI {α : Type} {w : World} {B B1 B2 : Nat} {size lo : Int} {v : Value} (hn : w.heap.size ≤ B) (h1 : B1 < B) (h2 : B2 < B) : OwnFrom (β := α) B (fun _ W => EI w B1 B2 size lo v W) := by
 intro s X Y row hs hg hr
 have hne : ∀ k, k < B → some k ≠ row := fun k hk e => by have := (hr k e.symm).1; omega
 refine ⟨hs.below.grown hg hs.below.size (fun k e => by have := (hr k e).1; omega), ?_, ?_⟩
 ·
  exact (hg.block B1 (Array.getElem?_eq_some_iff.1 hs.b1).1 (hne _ h1)).trans hs.b1
 ·
  exact (hg.block B2 (Array.getElem?_eq_some_iff.1 hs.b2).1 (hne _ h2)).trans hs.b2
theorem row_ne {W : World} {B : Nat} {t e : TypeId} {cs : Array Value} (h : W.heap[B]? = some (.cells cs t (0, 0))) (hte : t ≠ e) {base size k : Nat} {v : Value} {xs : List Value} (hr : W.ownsRow base e size v k xs) : some B ≠ v.ownBlock := by
 rcases hr.2 with ⟨rfl, _⟩ | ⟨g, cap, cur, rfl, _, hgb, _⟩
 ·
  simp [Value.ownBlock]
 ·
  intro e'
  obtain rfl : B = g := by simpa [Value.ownBlock] using e'
  have := h.symm.trans hgb
  simp at this
  exact hte this.2
theorem EI.app {w : World} {B1 B2 : Nat} {size lo : Int} {v : Value} {W w1 : World} (h : EI w B1 B2 size lo v W) {tmp : Obj} {base k sz : Nat} {u : Value} {xs : List Value} (hr : W.ownsRow base 49 sz u k xs) (hg : (W.alloc tmp).grownBy w1 u.ownBlock) {B : Nat} (v' : Value) (hB : w.heap.size ≤ B) (hb : w.heap.size ≤ base) (h1 : B1 ≠ B) (h2 : B2 ≠ B) : EI w B1 B2 size lo v (w1.setCell ⟨B, 0, none⟩ v') := by
 have l1 := (Array.getElem?_eq_some_iff.1 h.b1).1
 have l2 := (Array.getElem?_eq_some_iff.1 h.b2).1
 refine ⟨?_, ?_, ?_⟩
 ·
  refine ((below_alloc h.below tmp).grown hg (by simp; have := h.below.size; omega) (fun k e => ?_)).setCell (p := ⟨B, 0, none⟩) hB _
  have := own_base hr k e
  omega
 ·
  rw [Below.heap_setCell _ _ _ _ h1, hg.block B1 (by simp; omega) (row_ne h.b1 (by decide) hr), Below.heap_alloc _ _ _ l1]; exact h.b1
 ·
  rw [Below.heap_setCell _ _ _ _ h2, hg.block B2 (by simp; omega) (row_ne h.b2 (by decide) hr), Below.heap_alloc _ _ _ l2]; exact h.b2
end Go.Proofs.YtnjbdcnefienhaaDoor.P

namespace Go.Proofs.YtnjbdcnefienhaaDoor.P
open Go.RowKit Go.Shelf Go.Proofs.YtnjbdcnefienhaaDoorW.PrintWords Go.Proofs.YtnjbdcnefienhaaDoorW.PrintLast Go.Proofs.YtnjbdcnefienhaaDoorW.PrintMore
attribute [local go_sem] Oper.semAt_some
attribute [local go_sem] max2_int min2_int max_two min_two max_three min_three max_four min_four
theorem row_cell {W : World} {base : Nat} {e : TypeId} {size : Nat} {g n cap k : Nat} {xs : List Value} (h : W.ownsRow base e size (.slice (some ⟨g, 0, none⟩) n cap) k xs) {j : Nat} {u : Value} (hx : xs[j]? = some u) :
  W.cell? ⟨g, j, none⟩ = some u ∧ W.frozen? ⟨g, j, none⟩ = false := by
 have := h.cells (g := g) rfl j u hx
 rw [add_plain] at this
 refine ⟨this, ?_⟩
 rcases h.2 with ⟨h1, _⟩ | ⟨g', cap', cur, h1, _, hg, _⟩
 ·
  cases h1
 ·
  injection h1 with h1 _ _
  injection h1 with h1
  injection h1 with h1 _ _
  subst h1
  simp [World.frozen?, hg]
theorem row_set {W : World} {base : Nat} {e : TypeId} {size : Nat} {g n cap k : Nat} {xs : List Value} (h : W.ownsRow base e size (.slice (some ⟨g, 0, none⟩) n cap) k xs) {j : Nat} (_hj : j < xs.length) (u : Value) :
  (W.setCell ⟨g, j, none⟩ u).ownsRow base e size (.slice (some ⟨g, 0, none⟩) n cap) k (xs.set j u) := by
 refine ⟨by simpa using h.1, ?_⟩
 rcases h.2 with ⟨h1, _⟩ | ⟨g', cap', cur, h1, hb, hg, hle, hm, hs, ht⟩
 ·
  cases h1
 ·
  injection h1 with h1 h2 h3
  injection h1 with h1
  injection h1 with h1 _ _
  subst h1 h2 h3
  refine .inr ⟨g, cap, cur.set! j u, rfl, hb, ?_, hle, hm, by simp [hs], ?_⟩
  ·
   have hl := (Array.getElem?_eq_some_iff.1 hg).1
   unfold World.setCell
   have hget := (Array.getElem?_eq_some_iff.1 hg).2
   simp only [Array.getElem?_modify, if_pos trivial]
   rw [hg]
   simp
  ·
   simp only [Array.set!_eq_setIfInBounds, Array.toList_setIfInBounds]
   rw [List.take_set, ht]
set_option maxHeartbeats 4000000 in
set_option maxRecDepth 100000 in
theorem extents_any (size : Int) (A : Option Addr) (c : Nat) (ws : List Int) (w : World) (hG : TabOK w) (hr : Kd.C (Kd.int .u64) w A ws.length ws) (hc : ws.length ≤ c) (hN : (bElems size ws 0).length ≤ 5000) :
  Calls Tryd.prog 36 #[.agg #[.int .i64 size, .slice A ws.length c]] w fun e w' => ∃ v, e = .returned v ∧ w'.ownsRow w.heap.size 49 2 v ((bElems size ws 0).foldl joinE []).length (flat ((bElems size ws 0).foldl joinE [])) ∧ Below w.heap.size w w' := by
 refine (callsIn_wide (n := 5)).1 ?_
 have HR := Aside0.mk hr
 have HC := Aside0.mk hc
 clear hr hc
 refine callsIn_of_wp_marks Tryd.func36 rfl trivial ?_ rfl
 simp only [Tryd.ntmps36, List.size_toArray, List.length_cons, List.length_nil, Nat.reduceAdd, Nat.reduceSub, Array.replicate_succ, Array.replicate_zero, List.push_toArray, List.append_toArray, List.nil_append, List.cons_append]
 gi_wp2
 refine ⟨trivial, (elements_any _ _ _ _ _).mono ?_⟩
 rintro e w' ⟨rfl, rfl⟩
 gi_wp2
 obtain ⟨W0, hW0, hB, hS, -, h1, h2, h3⟩ := new4 w (Obj.cells #[Value.int IntKind.i64 size, Value.slice A ws.length c] 26) (Obj.cells #[Value.slice none 0 0] 56) (Obj.cells #[Value.int IntKind.i64 size, Value.slice A ws.length c] 26) (Obj.cells #[Value.int IntKind.i64 0] 3)
 rw [hW0]
 refine wpIn_rangeFunc_ownF rfl (by omega) (gf := 77) (lb := #[.pointer (some ⟨w.heap.size + 1 + 1, 0, none⟩), .pointer (some ⟨w.heap.size + 1 + 1 + 1, 0, none⟩)]) rfl trivial (enters_of Tryd.func77 (by kernel_rfl) rfl)
  (elems_stops _ _ _ size 0 A c ws w W0 ⟨hB, h2, h3⟩ HR.out HC.out hG) KpE.trans (KpE.putObj hB.size (by omega) (by omega)) (Below.refl _ _) (fun _ => rfl)
  (fun (pre : List Int) W => (∃ v, Boxed W (w.heap.size + 1) 56 v ∧ W.ownsRow w.heap.size 49 2 v (pre.foldl joinE []).length (flat (pre.foldl joinE [])) ∧ True) ∧ EI w (w.heap.size + 1 + 1) (w.heap.size + 1 + 1 + 1) size 0 (.slice A ws.length c) W)
  (fun _ _ _ => False)
  (OwnFrom.and (Own.from (holdsRow_own w.heap.size (w.heap.size + 1) 56 49 2 (fun (pre : List Int) => (pre.foldl joinE []).length) (fun (pre : List Int) => flat (pre.foldl joinE [])) (fun _ _ => True)) _) (ownFrom_EI hB.size (by omega) (by omega)))
  (fun _ _ _ _ _ h _ _ => h)
  ⟨⟨.slice none 0 0, h1, own_nil _ _ _ _, trivial⟩, ⟨hB, h2, h3⟩⟩
  (fun x => { tmps := #[.agg #[.int .i64 size, .slice A ws.length c], .pointer (some ⟨w.heap.size, 0, none⟩), .slice none 0 0, .pointer (some ⟨w.heap.size + 1, 0, none⟩), .int .i64 x, undef, .agg #[.int .i64 size, .slice A ws.length c], .func (.func 77) #[] #[.pointer (some ⟨w.heap.size + 1 + 1, 0, none⟩), .pointer (some ⟨w.heap.size + 1 + 1 + 1, 0, none⟩)], .int .i64 x, undef, undef, undef, undef, undef, undef, undef, undef, undef, undef, undef, undef, undef, undef, undef, undef, undef, undef, undef, undef, undef, undef, undef, undef, undef, undef, undef, undef, undef, undef, undef, undef, undef, undef, undef, undef], defers := [] }) ?assign ?body ?done ?stop
 case assign =>
  intro l x W K hK
  gi_wp2
  exact hK
 case body =>
  rintro l pre x W ⟨⟨v, hv, hrow, -⟩, hB2⟩ hlen
  have hmx : Tryd.prog.follows .mixedOrders = true := by kernel_rfl
  have hd : 1 ≤ 5 - 1 - 1 := by omega
  obtain ⟨i0, hi, hz0, hz1, hz2⟩ := info_parts info26'
  have hle : w.heap.size ≤ w.heap.size + 1 := by omega
  have HBX := Aside0.mk hv
  have hcv := hv.cell
  have hfv := hv.frozen
  have HJL := Aside0.mk (List.foldl_append (f := joinE) (b := []) (l := pre) (l' := [x]))
  have hjl := joinE_length pre
  have hlp : (pre.foldl joinE []).length < 5000 := by omega
  generalize pre.foldl joinE [] = L at hrow HJL hjl hlp
  have HROW := Aside0.mk hrow
  have HB2 := Aside0.mk hB2
  clear hrow hv hB2 hlen hjl
  rcases L.eq_nil_or_concat with h0 | ⟨L', e, h0⟩
  ·
   subst h0
   obtain ⟨A2, c2, hvv⟩ := own_slice HROW.out
   subst hvv
   gi_wp2
   refine wpIn_region_quiet_lit_r (by rfl) hmx (by kernel_rfl) ?_
   repeat (gi_big_quiet_step (fail))
   refine wpQuietIn_nil ?_
   intro _ hw'
   obtain ⟨nq, hw''⟩ := hw'
   subst hw''
   obtain ⟨Wq, hWq⟩ : ∃ Wq, Wq = W.drewN nq := ⟨_, rfl⟩
   have HQ : Aside0 (Below w.heap.size W Wq ∧ KeepsOthers W Wq) := ⟨by rw [hWq]; exact ⟨pw_below_drewN (Below.refl _ _) nq, ⟨Nat.le_refl _, fun _ _ h _ => h⟩⟩⟩
   have HROWQ : Aside0 (Wq.ownsRow w.heap.size 49 2 (.slice A2 0 c2) 0 (flat [])) := ⟨by rw [hWq]; exact HROW.out⟩
   have HBXQ : Aside0 (Boxed Wq (w.heap.size + 1) 56 (.slice A2 0 c2)) := ⟨by rw [hWq]; exact HBX.out⟩
   have hBq : EI w (w.heap.size + 1 + 1) (w.heap.size + 1 + 1 + 1) size 0 (.slice A ws.length c) Wq := by rw [hWq]; exact ⟨pw_below_drewN HB2.out.below nq, HB2.out.b1, HB2.out.b2⟩
   rw [← hWq]
   have hcv := HBXQ.out.cell
   have hfv := HBXQ.out.frozen
   clear hWq
   gi_wp2_with (gi_at_builtin; refine wpListIn_append_own _ rfl _ _ 56 rfl w.heap.size 49 i0 (.agg #[.int .i64 0, .int .i64 0]) 2 16 Tryd.underlying56 hi hz0 hz1 hz2 rfl (by decide) _ _ _ rfl (HROWQ.out.alloc _) ⟨Wq.heap.size, 0, none⟩ 1 1 [.int .i64 x, .int .i64 1] rfl rfl (cells_two_new _ _ _ _) (by simp [Value.oneCell']) (by unfold maxLen; omega) (by omega) (by have := hBq.below.size; simp; omega) ?_; intro v' w1 hown' hgrow _; obtain ⟨g', cap', rfl⟩ := ownsRow_succ hown'; obtain ⟨hv1, hv2, hr2, hk2, hb2⟩ := HBXQ.out.appended (by decide) HROWQ.out hBq.below.size hle hown' hgrow; have hc1 := hv1.cell; have hf1 := hv1.frozen; have HV2 := Aside0.mk hv2; have HE2 := Aside0.mk (hBq.app (B := w.heap.size + 1) HROWQ.out hgrow (.slice (some ⟨g', 0, none⟩) (0 + 1) cap') (by omega) (Nat.le_refl _) (by omega) (by omega)); have HR2 := Aside0.mk hr2; have HK2 := Aside0.mk hk2; have HB2' := Aside0.mk hb2; clear hv1 hv2 hr2 hk2 hb2 hown' hgrow)
   refine ⟨HQ.out.2.trans HK2.out, ⟨HQ.out.1.trans HB2'.out, HE2.out.b1.trans HB2.out.b1.symm, HE2.out.b2.trans HB2.out.b2.symm⟩, ⟨_, HV2.out, ?_, trivial⟩, HE2.out⟩
   rw [HJL.out]
   exact HR2.out
  ·
   have HROW' : Aside0 (W.ownsRow w.heap.size 49 2 v (L'.length + 1) (flat L' ++ [.int .i64 e.f0, .int .i64 e.f1])) := ⟨by have := HROW.out; rw [h0] at this; simpa [flat] using this⟩
   clear HROW
   obtain ⟨g, cap, hvv⟩ := ownsRow_succ HROW'.out
   subst hvv
   have hlp' : L'.length < 5000 := by rw [h0] at hlp; simp at hlp; omega
   have hfl := flat_length L'
   obtain ⟨hca0, hfa0⟩ := row_cell HROW'.out (j := L'.length * 2) (u := .int .i64 e.f0) (by rw [List.getElem?_append_right (by omega)]; simp [hfl])
   obtain ⟨hca1, hfa1⟩ := row_cell HROW'.out (j := L'.length * 2 + 1) (u := .int .i64 e.f1) (by rw [List.getElem?_append_right (by omega)]; simp [hfl])
   by_cases hj : wrap64 (e.f0 + e.f1) = x
   ·
    gi_wp2
    refine wpIn_region_quiet_lit_r (by rfl) hmx (by kernel_rfl) ?_
    repeat (gi_big_quiet_step (fail))
    refine wpQuietIn_nil ?_
    intro _ hw'
    obtain ⟨nq, hw''⟩ := hw'
    subst hw''
    obtain ⟨Wq, hWq⟩ : ∃ Wq, Wq = W.drewN nq := ⟨_, rfl⟩
    have HQ : Aside0 (Below w.heap.size W Wq ∧ KeepsOthers W Wq) := ⟨by rw [hWq]; exact ⟨pw_below_drewN (Below.refl _ _) nq, ⟨Nat.le_refl _, fun _ _ h _ => h⟩⟩⟩
    have HROWQ : Aside0 (Wq.ownsRow w.heap.size 49 2 (.slice (some ⟨g, 0, none⟩) (L'.length + 1) cap) (L'.length + 1) (flat L' ++ [.int .i64 e.f0, .int .i64 e.f1])) := ⟨by rw [hWq]; exact HROW'.out⟩
    have HBXQ : Aside0 (Boxed Wq (w.heap.size + 1) 56 (.slice (some ⟨g, 0, none⟩) (L'.length + 1) cap)) := ⟨by rw [hWq]; exact HBX.out⟩
    have hBq : EI w (w.heap.size + 1 + 1) (w.heap.size + 1 + 1 + 1) size 0 (.slice A ws.length c) Wq := by rw [hWq]; exact ⟨pw_below_drewN HB2.out.below nq, HB2.out.b1, HB2.out.b2⟩
    rw [← hWq]
    have hcv := HBXQ.out.cell
    have hfv := HBXQ.out.frozen
    clear hWq hca0 hca1 hfa0 hfa1
    obtain ⟨hca1, hfa1⟩ := row_cell HROWQ.out (j := L'.length * 2 + 1) (u := .int .i64 e.f1) (by rw [List.getElem?_append_right (by omega)]; simp [hfl])
    have HJE : Aside0 (joinE L x = L' ++ [⟨e.f0, wrap64 (e.f1 + 1)⟩]) := ⟨by rw [h0]; simp [joinE, hj]⟩
    gi_wp2
    have hgB : some (w.heap.size + 1) ≠ some g := HBXQ.out.not_row (by decide) HROWQ.out
    have hgB2 : w.heap.size + 1 ≠ g := fun h => hgB (congrArg some h)
    have hg1 : some (w.heap.size + 1 + 1) ≠ some g := row_ne hBq.b1 (by decide) HROWQ.out
    have hg2 : some (w.heap.size + 1 + 1 + 1) ≠ some g := row_ne hBq.b2 (by decide) HROWQ.out
    have hg0 := own_base HROWQ.out g rfl
    have hSB : Below w.heap.size Wq (Wq.setCell ⟨g, L'.length * 2 + 1, none⟩ (.int .i64 (wrap64 (e.f1 + 1)))) := (Below.refl _ _).setCell (p := ⟨g, L'.length * 2 + 1, none⟩) hg0 _
    have e1 : (Wq.setCell ⟨g, L'.length * 2 + 1, none⟩ (.int .i64 (wrap64 (e.f1 + 1)))).heap[w.heap.size + 1 + 1]? = Wq.heap[w.heap.size + 1 + 1]? := Below.heap_setCell _ _ _ _ (fun h => hg1 (congrArg some h))
    have e2 : (Wq.setCell ⟨g, L'.length * 2 + 1, none⟩ (.int .i64 (wrap64 (e.f1 + 1)))).heap[w.heap.size + 1 + 1 + 1]? = Wq.heap[w.heap.size + 1 + 1 + 1]? := Below.heap_setCell _ _ _ _ (fun h => hg2 (congrArg some h))
    refine ⟨HQ.out.2.trans (KeepsOthers.setCell _ _ _), ⟨HQ.out.1.trans hSB, (e1.trans hBq.b1).trans HB2.out.b1.symm, (e2.trans hBq.b2).trans HB2.out.b2.symm⟩, ⟨.slice (some ⟨g, 0, none⟩) (L'.length + 1) cap, ?_, ?_, trivial⟩, ⟨hBq.below.trans hSB, e1.trans hBq.b1, e2.trans hBq.b2⟩⟩
    ·
     exact (Below.heap_setCell _ _ _ _ hgB2).trans HBXQ.out
    ·
     rw [HJL.out, List.foldl_cons, List.foldl_nil, HJE.out]
     have := row_set HROWQ.out (j := L'.length * 2 + 1) (by simp [hfl]) (.int .i64 (wrap64 (e.f1 + 1)))
     rw [List.set_append_right _ _ (by omega), hfl] at this
     simpa [flat, Nat.add_sub_cancel_left] using this
   ·
    gi_wp2
    refine wpIn_region_quiet_lit_r (by rfl) hmx (by kernel_rfl) ?_
    repeat (gi_big_quiet_step (fail))
    refine wpQuietIn_nil ?_
    intro _ hw'
    obtain ⟨nq, hw''⟩ := hw'
    subst hw''
    obtain ⟨Wq, hWq⟩ : ∃ Wq, Wq = W.drewN nq := ⟨_, rfl⟩
    have HQ : Aside0 (Below w.heap.size W Wq ∧ KeepsOthers W Wq) := ⟨by rw [hWq]; exact ⟨pw_below_drewN (Below.refl _ _) nq, ⟨Nat.le_refl _, fun _ _ h _ => h⟩⟩⟩
    have HROWQ : Aside0 (Wq.ownsRow w.heap.size 49 2 (.slice (some ⟨g, 0, none⟩) (L'.length + 1) cap) (L'.length + 1) (flat L' ++ [.int .i64 e.f0, .int .i64 e.f1])) := ⟨by rw [hWq]; exact HROW'.out⟩
    have HBXQ : Aside0 (Boxed Wq (w.heap.size + 1) 56 (.slice (some ⟨g, 0, none⟩) (L'.length + 1) cap)) := ⟨by rw [hWq]; exact HBX.out⟩
    have hBq : EI w (w.heap.size + 1 + 1) (w.heap.size + 1 + 1 + 1) size 0 (.slice A ws.length c) Wq := by rw [hWq]; exact ⟨pw_below_drewN HB2.out.below nq, HB2.out.b1, HB2.out.b2⟩
    rw [← hWq]
    have hcv := HBXQ.out.cell
    have hfv := HBXQ.out.frozen
    clear hWq hca0 hca1 hfa0 hfa1
    obtain ⟨hca1, hfa1⟩ := row_cell HROWQ.out (j := L'.length * 2 + 1) (u := .int .i64 e.f1) (by rw [List.getElem?_append_right (by omega)]; simp [hfl])
    have HJE : Aside0 (joinE L x = L' ++ [e] ++ [⟨x, 1⟩]) := ⟨by rw [h0]; simp [joinE, hj]⟩
    gi_wp2_with (gi_at_builtin; refine wpListIn_append_own _ rfl _ _ 56 rfl w.heap.size 49 i0 (.agg #[.int .i64 0, .int .i64 0]) 2 16 Tryd.underlying56 hi hz0 hz1 hz2 rfl (by decide) _ _ _ rfl (HROWQ.out.alloc _) ⟨Wq.heap.size, 0, none⟩ 1 1 [.int .i64 x, .int .i64 1] rfl rfl (cells_two_new _ _ _ _) (by simp [Value.oneCell']) (by unfold maxLen; omega) (by omega) (by have := hBq.below.size; simp; omega) ?_; intro v' w1 hown' hgrow _; obtain ⟨g', cap', rfl⟩ := ownsRow_succ hown'; obtain ⟨hv1, hv2, hr2, hk2, hb2⟩ := HBXQ.out.appended (by decide) HROWQ.out hBq.below.size hle hown' hgrow; have hc1 := hv1.cell; have hf1 := hv1.frozen; have HV2 := Aside0.mk hv2; have HE2 := Aside0.mk (hBq.app (B := w.heap.size + 1) HROWQ.out hgrow (.slice (some ⟨g', 0, none⟩) (L'.length + 1 + 1) cap') (by omega) (Nat.le_refl _) (by omega) (by omega)); have HR2 := Aside0.mk hr2; have HK2 := Aside0.mk hk2; have HB2' := Aside0.mk hb2; clear hv1 hv2 hr2 hk2 hb2 hown' hgrow)
    refine ⟨HQ.out.2.trans HK2.out, ⟨HQ.out.1.trans HB2'.out, HE2.out.b1.trans HB2.out.b1.symm, HE2.out.b2.trans HB2.out.b2.symm⟩, ⟨_, HV2.out, ?_, trivial⟩, HE2.out⟩
    rw [HJL.out, List.foldl_cons, List.foldl_nil, HJE.out]
    have := HR2.out
    simpa [flat] using this
 case done =>
  rintro D ys W hD hys ⟨⟨v, hv, hrow, -⟩, hB2⟩ hK
  rw [hys] at hrow
  have hcv := hv.cell
  have HROW := Aside0.mk hrow
  clear hrow hys hv
  gi_wp2
  refine ⟨by simp, .inl ⟨_, _, rfl, run_takeDeferred hK, ?_⟩⟩
  refine ⟨v, ?_, v, rfl, ownsRow_putObj HROW.out _ hK rfl, hB2.below.trans (belowK_b (w := w) (Nat.le_refl _) W D _ _ (by have := hB.size; omega) hK rfl rfl)⟩
  simp [results, Tryd.f36, go_sem]
 case stop =>
  rintro D c pre W _ _ h
  exact h.elim
end Go.Proofs.YtnjbdcnefienhaaDoor.P

namespace Go.Proofs.YtnjbdcnefienhaaDoor.P
open Go.RowKit Go.Shelf Go.Proofs.YtnjbdcnefienhaaDoorW.PrintWords Go.Proofs.YtnjbdcnefienhaaDoorW.PrintLast Go.Proofs.YtnjbdcnefienhaaDoorW.PrintMore
theorem elemsW_length (ws : List Int) (lo size : Int) (i : Nat) : (elemsW ws lo size i).length ≤ 64 := by
  unfold elemsW bitsOf
  rw [List.length_map]
  exact Nat.le_trans (List.length_filter_le _ _) (by simp)
theorem flatMap_length_le {α β : Type} (f : α → List β) (n : Nat) (h : ∀ a, (f a).length ≤ n) (l : List α) : (l.flatMap f).length ≤ l.length * n := by
  induction l with
  | nil => simp
  | cons a l ih => rw [List.flatMap_cons, List.length_append, List.length_cons, Nat.succ_mul]; have := h a; omega
theorem bElems_length (size : Int) (ws : List Int) (lo : Int) : (bElems size ws lo).length ≤ 5000 := by
  unfold bElems
  split
  · rename_i h
    have := ((good_iff _ _).1 h).len_le
    have h2 := flatMap_length_le (elemsW ws lo size) 64 (elemsW_length ws lo size) (List.range ws.length)
    rw [List.length_range] at h2
    unfold elems
    omega
  · simp
theorem reps_flat (w : World) (base : Nat) (ok : Nat → Prop) (l : List S49) : Reps (k49.M w base ok) 2 l (flat l) := by
  suffices h : ∀ (m l : List S49), Reps (k49.M w base ok) 2 m (flat m) → Reps (k49.M w base ok) 2 (m ++ l) (flat (m ++ l)) by simpa using h [] l (Reps.none _ _)
  intro m l
  induction l generalizing m with
  | nil => intro h; simpa using h
  | cons a l ih =>
    intro h
    have := ih (m ++ [a]) (by rw [flat_append]; exact h.snoc (k49_mkM w base ok a) rfl)
    simpa using this
theorem bExtents.calls (a0_0 : Int) (A0_1 : Option Addr) (c0_1 : Nat) (l0_1 : List Int) (r : List (S49)) (w : World) (hG : TabOK w) (hr0_1 : Kd.C (Kd.int .u64) w A0_1 l0_1.length l0_1) (hc0_1 : l0_1.length ≤ c0_1) (h : bExtents.f a0_0 l0_1 = some r) :
  Calls Tryd.prog 36 #[.agg #[.int .i64 a0_0, .slice A0_1 l0_1.length c0_1]] w fun e w' => ∃ v0_ : Value, e = .returned (v0_) ∧ Kd.R k49 49 w' w.heap.size (fun _ => True) v0_ r ∧ Below w.heap.size w w' := by
  simp only [bExtents.f, Option.some.injEq] at h
  subst h
  refine (extents_any a0_0 A0_1 c0_1 l0_1 w hG hr0_1 hc0_1 (bElems_length _ _ _)).mono ?_
  rintro e w' ⟨v, rfl, ho, hb⟩
  exact ⟨v, rfl, ⟨fun _ _ => trivial, _, ho, reps_flat _ _ _ _⟩, hb⟩
end Go.Proofs.YtnjbdcnefienhaaDoor.P

namespace Go.Proofs.YtnjbdcnefienhaaDoor.P
open Go.RowKit Go.Proofs.YtnjbdcnefienhaaDoorW.PrintWords Go.Proofs.YtnjbdcnefienhaaDoorW.PrintLast Go.Proofs.YtnjbdcnefienhaaDoorW.PrintMore
def enc7 : Nat → Nat → List Int
  | 0, n => [(n : Int)]
  | k + 1, n => if n < 128 then [(n : Int)] else ((n % 128 + 128 : Nat) : Int) :: enc7 k (n / 128)
def encI (n : Int) : List Int := enc7 8 (if n < 0 ∨ n > 9007199254740991 then 0 else n.toNat)
def encE (e : S49) : List Int := encI e.f0 ++ encI e.f1
def encL (l : List S49) : List Int := encI l.length ++ l.flatMap encE
def wire_PutExtents.f (d : List Int) (l : List S49) : Option (List Int) := if d.length ≤ 1000000 ∧ l.length ≤ 1000000 then some (d ++ encL l) else none
def valB (n b : Int) (i : Nat) : Int := Go.bits .or .i64 n (wrap64 (wrap64 (Go.bits .and .u8 b 127) * 2 ^ (7 * i)))
def dec7 : Nat → Nat → Int → List Int → Int × List Int × Int
  | 0, _, _, _ => (0, [], 3)
  | _ + 1, _, _, [] => (0, [], 10)
  | k + 1, i, n, b :: l =>
    if (Go.bits .and .u8 b 128 != 0) = true then dec7 k (i + 1) (valB n b i) l
    else if (b = 0 ∧ 0 < i) ∨ valB n b i > 9007199254740991 then (0, [], 3) else (valB n b i, l, 0)
def decI (l : List Int) : Int × List Int × Int := dec7 8 0 0 l
def decLen (l : List Int) : Int × List Int × Int := if (decI l).2.2 = 0 then (if (decI l).1 > 65536 then (0, [], 5) else decI l) else (0, [], (decI l).2.2)
def decE (l : List Int) : S49 × List Int × Int :=
  if (decI l).2.2 ≠ 0 then (⟨0, 0⟩, [], (decI l).2.2) else if (decI (decI l).2.1).2.2 ≠ 0 then (⟨0, 0⟩, [], (decI (decI l).2.1).2.2) else (⟨(decI l).1, (decI (decI l).2.1).1⟩, (decI (decI l).2.1).2.1, 0)
def decEs : Nat → List S49 → List Int → List S49 × List Int × Int
  | 0, out, l => (out, l, 0)
  | n + 1, out, l => if (decE l).2.2 ≠ 0 then ([], [], (decE l).2.2) else decEs n (out ++ [(decE l).1]) (decE l).2.1
def decL (l : List Int) : List S49 × List Int × Int := if (decLen l).2.2 ≠ 0 then ([], [], (decLen l).2.2) else decEs (decLen l).1.toNat [] (decLen l).2.1
def wire_Int.f (l : List Int) : Option (Int × List Int × Int) := if l.length ≤ 1000000 then some (decI l) else none
def wire_Extents.f (l : List Int) : Option (List S49 × List Int × Int) := if l.length ≤ 1000000 then some (decL l) else none
end Go.Proofs.YtnjbdcnefienhaaDoor.P

namespace Go.Proofs.YtnjbdcnefienhaaDoor.P
open Go.RowKit Go.Proofs.YtnjbdcnefienhaaDoorW.PrintWords Go.Proofs.YtnjbdcnefienhaaDoorW.PrintLast Go.Proofs.YtnjbdcnefienhaaDoorW.PrintMore
attribute [local go_sem] max2_int min2_int max_two min_two max_three min_three max_four min_four   -- for this text's walks alone
set_option linter.unusedVariables false
set_option linter.unusedSimpArgs false
def bFromExtents.l0 : Nat → List (S49) → Int → Int → Int → List Int → Option (Int × List Int × Int)
 | 0, _, _, _, _, _ => none
 | k + 1, x19, x20, x21, x317000, x317001 => if x21 < x20 then (if 0 ≤ x21 then (if x21 < (x19.length : Int) then ((bSet.f x317000 x317001 ((rd_T49 x19 x21).f0) ((rd_T49 x19 x21).f1)).bind fun bt319 => (if bt319.2.2 = 0 then (bFromExtents.l0 k x19 x20 (wrap64 (x21 + 1)) bt319.1 bt319.2.1) else (some (0, ([] : List Int), bt319.2.2)))) else (none)) else (none)) else (some (x317000, x317001, 0))
def bFromExtents.f (k : Nat) (a0 : Int) (l1 : List (S49)) : Option (Int × List Int × Int) := (bNew.f a0).bind fun bt311 => (if bt311.2.2 = 0 then (bFromExtents.l0 k l1 (l1.length : Int) 0 bt311.1 bt311.2.1) else (some (0, ([] : List Int), bt311.2.2)))
set_option maxHeartbeats 8000000 in
set_option maxRecDepth 100000 in
theorem bFromExtents.calls (k : Nat) (a0 : Int) (A1 : Option Addr) (c1 : Nat) (l1 : List (S49)) (r1 : Int) (r2 : List Int) (r3 : Int) (w : World) (hr1 : Kd.C k49 w A1 l1.length l1) (hc1 : l1.length ≤ c1) (h : bFromExtents.f k a0 l1 = some (r1, r2, r3)) :
  Calls Tryd.prog 49 #[.int .i64 a0, .slice A1 l1.length c1] w fun e w' => ∃ v1_ : Value, e = .returned (.tuple #[.agg #[.int .i64 r1, v1_], .int .i64 r3]) ∧ Kd.R (Kd.int .u64) 90 w' w.heap.size (fun _ => True) v1_ r2 ∧ Below w.heap.size w w' := by
 have hu26 := Tryd.underlying26
 have hu49 := Tryd.underlying49
 have HR1 := A0_ hr1
 have HC1 := A0_ hc1
 clear hr1 hc1
 have HB := A0_ (Below.refl w.heap.size w)
 have H : ((bNew.f a0).bind fun bt311 => (if bt311.2.2 = 0 then (bFromExtents.l0 k l1 (l1.length : Int) 0 bt311.1 bt311.2.1) else (some (0, ([] : List Int), bt311.2.2)))) = some (r1, r2, r3) := h
 clear h
 replace H := Option.bind_eq_some_iff.mp H
 obtain ⟨⟨t311, t312, t315⟩, A30, H⟩ := H
 replace H : (if t315 = 0 then (bFromExtents.l0 k l1 (l1.length : Int) 0 t311 t312) else (some (0, ([] : List Int), t315))) = some (r1, r2, r3) := H
 have A3 := A0_ A30
 clear A30
 by_cases c4 : t315 = 0
 ·
  rw [if_pos c4] at H
  have c4b0 : (t315 == 0) = true := beq_iff_eq.mpr c4
  have c4b1 : (t315 != 0) = false := bne_eq_false_iff_eq.mpr c4
  clear c4
  have H' := A0_ H
  clear H
  go_enter Tryd.func49, Tryd.ntmps49
  go_wp2_with (first | ((with_reducible refine gate_dst (N := 4) rfl ?_); refine box_event ?hg (N := 4) ?hd (cs := #[.int .i64 0, .slice none 0 0]) (t := 26) ?hr ?_; (case hd => rfl); (case hg => rfl); (case hr => first | (go_simp; done) | (go_simp; rfl)); intro gb310 hg w5 hbox hb; have n0_ := A0_ (below_step (by repeat (first | (with_reducible first | exact HB.out | apply Al_ | apply Dn_ | apply D1_) | exact HB.out)) hb); have n1_ := A0_ (hbox); have n2_ := A0_ ((by rw [hg]; exact (below_size (by repeat (first | (with_reducible first | exact HB.out | apply Al_ | apply Dn_ | apply D1_) | exact HB.out))) : w.heap.size ≤ gb310)); have n3_ := A0_ ((by rw [hg]; exact (below_size (by repeat (first | (with_reducible first | exact HB.out | apply Al_ | apply Dn_ | apply D1_) | exact HB.out))) : w.heap.size ≤ gb310)); clear HB; have HB := n0_; have BK310 := n1_; have GW310 := n2_; have GE310 := n3_; clear n0_ n1_ n2_ n3_ hb hbox hg) | ((with_reducible refine gate_callee (f := 29) rfl ?_); refine goesL_ (some 12) rfl rfl Tryd.func29 (by kernel_rfl) rfl #[.int .i64 a0] rfl (by (try simp only [List.map_toArray, List.map_cons, List.map_nil]); first | done | rfl | (simp only [List.length_drop, List.length_take]; rfl)) ?_; (with_reducible refine (bNew.calls a0 t311 t312 t315 _ A3.out).mono ?_); rintro e w6 ⟨v313, rfl, ho0, hb⟩; refine ⟨_, rfl, ?_⟩; have n0_ := A0_ (Kd.R_lower ho0 (below_size (by repeat (first | (with_reducible first | exact HB.out | apply Al_ | apply Dn_ | apply D1_ | refine Bs_ ?_ GE310.out) | exact HB.out)))); have n1_ := A0_ (blk_below (g := gb310) (o := .cells #[.int .i64 0, .slice none 0 0] 26 (0, 0)) (by (with_reducible repeat (first | refine Bn_ ?_ _ | refine Bd_ ?_ | refine Ba_ ?_ _)); exact BK310.out) hb); have n2_ := A0_ (below_step (by repeat (first | (with_reducible first | exact HB.out | apply Al_ | apply Dn_ | apply D1_ | refine Bs_ ?_ GE310.out) | exact HB.out)) hb); clear BK310 HB; have HO314 := n0_; have BK310 := n1_; have HB := n2_; clear n0_ n1_ n2_; (try clear hb); (try clear hb2); (try clear hk); (try clear hi); (try clear ho0)) | ((with_reducible refine gate_dst (N := 6) rfl ?_); refine box_event ?hg (N := 6) ?hd (cs := #[.int .i64 0, .slice none 0 0]) (t := 26) ?hr ?_; (case hd => rfl); (case hg => rfl); (case hr => first | (go_simp; done) | (go_simp; rfl)); intro gb316 hg w7 hbox hb; have n0_ := A0_ (Kd.R_below (by (with_reducible repeat (first | apply Ra_ | apply Rn_ | apply Rd_)); exact HO314.out) hb); have n1_ := A0_ (blk_below (g := gb310) (o := .cells #[.int .i64 0, .slice none 0 0] 26 (0, 0)) (by (with_reducible repeat (first | refine Bn_ ?_ _ | refine Bd_ ?_ | refine Ba_ ?_ _)); exact BK310.out) hb); have n2_ := A0_ (below_step (by repeat (first | (with_reducible first | exact HB.out | apply Al_ | apply Dn_ | apply D1_ | refine Bs_ ?_ GE310.out) | exact HB.out)) hb); have n3_ := A0_ (hbox); have n4_ := A0_ ((by rw [hg]; exact (below_size (by repeat (first | (with_reducible first | exact HB.out | apply Al_ | apply Dn_ | apply D1_ | refine Bs_ ?_ GE310.out) | exact HB.out))) : w.heap.size ≤ gb316)); have n5_ := A0_ ((by rw [hg]; exact (below_size (by repeat (first | (with_reducible first | exact HB.out | apply Al_ | apply Dn_ | apply D1_ | refine Bs_ ?_ GE310.out) | exact HB.out))) : w.heap.size ≤ gb316)); have n6_ := A0_ ((by rw [hg]; exact Nat.ne_of_lt (blk_lt (g := gb310) (o := .cells #[.int .i64 0, .slice none 0 0] 26 (0, 0)) (by (with_reducible repeat (first | refine Bn_ ?_ _ | refine Bd_ ?_ | refine Ba_ ?_ _)); exact BK310.out)) : gb310 ≠ gb316)); have n7_ := A0_ ((by rw [hg]; exact Nat.ne_of_gt (blk_lt (g := gb310) (o := .cells #[.int .i64 0, .slice none 0 0] 26 (0, 0)) (by (with_reducible repeat (first | refine Bn_ ?_ _ | refine Bd_ ?_ | refine Ba_ ?_ _)); exact BK310.out)) : gb316 ≠ gb310)); clear HO314 BK310 HB; have HO314 := n0_; have BK310 := n1_; have HB := n2_; have BK316 := n3_; have GW316 := n4_; have GE316 := n5_; have NB310_316 := n6_; have NB316_310 := n7_; clear n0_ n1_ n2_ n3_ n4_ n5_ n6_ n7_ hb hbox hg; have hnb8 := NB316_310.out; have hnc8 := NB310_316.out; have hcz9_0 : w7.cell? ⟨gb316, 0, none⟩ = some (.int .i64 0) := (Bc_ BK316.out 0).trans rfl; have hcz9_1 : w7.cell? ⟨gb316, 1, none⟩ = some (.slice none 0 0) := (Bc_ BK316.out 1).trans rfl; have hfz9_0 := Bf_ BK316.out 0; have hfz9_1 := Bf_ BK316.out 1; obtain ⟨Ao10, co10, eo10⟩ := Kd.R_slice HO314.out; subst eo10))
  go_loopg [21] k (fun kq v21 w' => ∃ (x21_1 : Int) (x311000_1 : Int) (x317000_1 : Int) (x317001_1 : List Int) (u317001 : Value), v21 = .int .i64 x21_1 ∧ Aside0 (bFromExtents.l0 kq l1 (l1.length : Int) x21_1 x317000_1 x317001_1 = some (r1, r2, r3)) ∧ Aside0 (kq ≤ k) ∧ Aside0 (Kd.R (Kd.int .u64) 90 w' w.heap.size (fun _ => True) u317001 x317001_1) ∧ Aside0 (w'.heap[gb310]? = some (.cells #[.int .i64 x311000_1, (.slice none 0 0)] 26 (0, 0))) ∧ Aside0 (w'.heap[gb316]? = some (.cells #[.int .i64 x317000_1, u317001] 26 (0, 0))) ∧ Aside0 (Below w.heap.size w w'))
  case atStart => exact ⟨(0), (0), (t311), (t312), (.slice Ao10 t312.length co10), (by first | rfl | (simp; done) | (simp [*]; done)), H', ⟨Nat.le_refl _⟩, ⟨by (with_reducible repeat (first | apply Ra_ | apply Rn_ | apply Rd_)); exact Kd.R_mono (Rf_ (p := ⟨gb316, 1, none⟩) (Rf_ (p := ⟨gb316, 0, none⟩) (Kd.R_types HO314.out BK316.out (by decide)) K2_ (.int .i64 t311)) K2_ (.slice Ao10 t312.length co10)) (fun _ hk => trivial)⟩, ⟨by (with_reducible repeat (first | refine Bn_ ?_ _ | refine Bd_ ?_ | refine Ba_ ?_ _)); refine Bz_ ?_ NB310_316.out _; (with_reducible repeat (first | refine Bn_ ?_ _ | refine Bd_ ?_ | refine Ba_ ?_ _)); refine Bz_ ?_ NB310_316.out _; (with_reducible repeat (first | refine Bn_ ?_ _ | refine Bd_ ?_ | refine Ba_ ?_ _)); exact BK310.out⟩, ⟨by (with_reducible repeat (first | refine Bn_ ?_ _ | refine Bd_ ?_ | refine Ba_ ?_ _)); refine blk_put (cs := #[.int .i64 t311, .slice none 0 0]) ?_ 1 _ rfl; (with_reducible repeat (first | refine Bn_ ?_ _ | refine Bd_ ?_ | refine Ba_ ?_ _)); refine blk_put (cs := #[.int .i64 0, .slice none 0 0]) ?_ 0 _ rfl; (with_reducible repeat (first | refine Bn_ ?_ _ | refine Bd_ ?_ | refine Ba_ ?_ _)); exact BK316.out⟩, ⟨by repeat (first | (with_reducible first | exact HB.out | apply Al_ | apply Dn_ | apply D1_ | refine Bs_ ?_ GE310.out | refine Bs_ ?_ GE316.out) | exact HB.out)⟩⟩
  case round =>
   clear H'
   try clear c1
   try clear c2
   try clear p2
   try clear c4
   try clear c4b0
   try clear c4b1
   try clear c8
   try clear hcz9_0
   try clear hcz9_1
   try clear hfz9_0
   try clear hfz9_1
   try clear HO_317001
   try clear BK310
   try clear BK316
   obtain ⟨x21_1, x311000_1, x317000_1, x317001_1, u317001, rfl, HA, HK1, HO_317001, BK310, BK316, HB⟩ := hrel
   cases gk with
   | zero => exact absurd HA.out (by simp [bFromExtents.l0])
   | succ k1 =>
    have H := HA.out
    clear HA
    simp only [bFromExtents.l0] at H
    by_cases c11 : x21_1 < (l1.length : Int)
    ·
     rw [if_pos c11] at H
     have c11b0 : decide (x21_1 < (l1.length : Int)) = true := decide_eq_true c11
     clear c11
     by_cases c12 : 0 ≤ x21_1
     ·
      rw [if_pos c12] at H
      have c12b0 : decide (0 ≤ x21_1) = true := decide_eq_true c12
      clear c12
      by_cases c13 : x21_1 < (l1.length : Int)
      ·
       rw [if_pos c13] at H
       have c13b0 : decide (x21_1 < (l1.length : Int)) = true := decide_eq_true c13
       clear c13
       replace H := Option.bind_eq_some_iff.mp H
       obtain ⟨⟨t319, t320, t323⟩, A140, H⟩ := H
       replace H : (if t323 = 0 then (bFromExtents.l0 k1 l1 (l1.length : Int) (wrap64 (x21_1 + 1)) t319 t320) else (some (0, ([] : List Int), t323))) = some (r1, r2, r3) := H
       have A14 := A0_ A140
       clear A140
       by_cases c15 : t323 = 0
       ·
        rw [if_pos c15] at H
        have c15b0 : (t323 == 0) = true := beq_iff_eq.mpr c15
        have c15b1 : (t323 != 0) = false := bne_eq_false_iff_eq.mpr c15
        clear c15
        have H' := A0_ H
        clear H
        have p317 : 0 ≤ (x21_1 : Int) := of_decide_eq_true (by first | (with_reducible assumption) | assumption)
        have q317 : x21_1 < (l1.length : Int) := of_decide_eq_true (by first | (with_reducible assumption) | assumption)
        obtain ⟨ad317, e317, hx317_0, hx317_1⟩ := at_T49 HR1.out x21_1 p317 q317
        cases e317
        replace hx317_0 := (HB.out.cell (World.block_lt_of_cell? w _ hx317_0)).trans hx317_0
        replace hx317_1 := (HB.out.cell (World.block_lt_of_cell? w _ hx317_1)).trans hx317_1
        replace p317 := eq_true p317
        replace q317 := eq_true q317
        go_wp2_with (first | ((with_reducible refine gate_dst (N := 9) rfl ?_); refine box_event ?hg (N := 9) ?hd (cs := #[.int .i64 0, .int .i64 0]) (t := 49) ?hr ?_; (case hd => rfl); (case hg => rfl); (case hr => first | (go_simp; done) | (go_simp; rfl)); intro gb318 hg w16 hbox hb; have n0_ := A0_ (Kd.R_below (by (with_reducible repeat (first | apply Ra_ | apply Rn_ | apply Rd_)); exact HO_317001.out) hb); have n1_ := A0_ (blk_below (g := gb310) (o := .cells #[.int .i64 x311000_1, .slice none 0 0] 26 (0, 0)) (by (with_reducible repeat (first | refine Bn_ ?_ _ | refine Bd_ ?_ | refine Ba_ ?_ _)); exact BK310.out) hb); have n2_ := A0_ (blk_below (g := gb316) (o := .cells #[.int .i64 x317000_1, u317001] 26 (0, 0)) (by (with_reducible repeat (first | refine Bn_ ?_ _ | refine Bd_ ?_ | refine Ba_ ?_ _)); exact BK316.out) hb); have n3_ := A0_ (below_step (by repeat (first | (with_reducible first | exact HB.out | apply Al_ | apply Dn_ | apply D1_ | refine Bs_ ?_ GE310.out | refine Bs_ ?_ GE316.out) | exact HB.out)) hb); have n4_ := A0_ (hbox); have n5_ := A0_ ((by rw [hg]; exact (below_size (by repeat (first | (with_reducible first | exact HB.out | apply Al_ | apply Dn_ | apply D1_ | refine Bs_ ?_ GE310.out | refine Bs_ ?_ GE316.out) | exact HB.out))) : w.heap.size ≤ gb318)); have n6_ := A0_ ((by rw [hg]; exact (below_size (by repeat (first | (with_reducible first | exact HB.out | apply Al_ | apply Dn_ | apply D1_ | refine Bs_ ?_ GE310.out | refine Bs_ ?_ GE316.out) | exact HB.out))) : w.heap.size ≤ gb318)); have n7_ := A0_ ((by rw [hg]; exact Nat.ne_of_lt (blk_lt (g := gb310) (o := .cells #[.int .i64 x311000_1, .slice none 0 0] 26 (0, 0)) (by (with_reducible repeat (first | refine Bn_ ?_ _ | refine Bd_ ?_ | refine Ba_ ?_ _)); exact BK310.out)) : gb310 ≠ gb318)); have n8_ := A0_ ((by rw [hg]; exact Nat.ne_of_gt (blk_lt (g := gb310) (o := .cells #[.int .i64 x311000_1, .slice none 0 0] 26 (0, 0)) (by (with_reducible repeat (first | refine Bn_ ?_ _ | refine Bd_ ?_ | refine Ba_ ?_ _)); exact BK310.out)) : gb318 ≠ gb310)); have n9_ := A0_ ((by rw [hg]; exact Nat.ne_of_lt (blk_lt (g := gb316) (o := .cells #[.int .i64 x317000_1, u317001] 26 (0, 0)) (by (with_reducible repeat (first | refine Bn_ ?_ _ | refine Bd_ ?_ | refine Ba_ ?_ _)); exact BK316.out)) : gb316 ≠ gb318)); have n10_ := A0_ ((by rw [hg]; exact Nat.ne_of_gt (blk_lt (g := gb316) (o := .cells #[.int .i64 x317000_1, u317001] 26 (0, 0)) (by (with_reducible repeat (first | refine Bn_ ?_ _ | refine Bd_ ?_ | refine Ba_ ?_ _)); exact BK316.out)) : gb318 ≠ gb316)); clear HO_317001 BK310 BK316 HB; have HO_317001 := n0_; have BK310 := n1_; have BK316 := n2_; have HB := n3_; have BK318 := n4_; have GW318 := n5_; have GE318 := n6_; have NB310_318 := n7_; have NB318_310 := n8_; have NB316_318 := n9_; have NB318_316 := n10_; clear n0_ n1_ n2_ n3_ n4_ n5_ n6_ n7_ n8_ n9_ n10_ hb hbox hg; have hnb17 := NB318_310.out; have hnc17 := NB310_318.out; have hnb18 := NB318_316.out; have hnc18 := NB316_318.out; have hcz19_0 : w16.cell? ⟨gb318, 0, none⟩ = some (.int .i64 0) := (Bc_ BK318.out 0).trans rfl; have hcz19_1 : w16.cell? ⟨gb318, 1, none⟩ = some (.int .i64 0) := (Bc_ BK318.out 1).trans rfl; have hfz19_0 := Bf_ BK318.out 0; have hfz19_1 := Bf_ BK318.out 1; have hnb20 := NB316_310.out; have hnc20 := NB310_316.out; have hcz21_0 : w16.cell? ⟨gb316, 0, none⟩ = some (.int .i64 x317000_1) := (Bc_ BK316.out 0).trans rfl; have hcz21_1 : w16.cell? ⟨gb316, 1, none⟩ = some (u317001) := (Bc_ BK316.out 1).trans rfl; have hfz21_0 := Bf_ BK316.out 0; have hfz21_1 := Bf_ BK316.out 1; obtain ⟨Ao22, co22, eo22⟩ := Kd.R_slice HO_317001.out; subst eo22) | ((with_reducible refine gate_callee (f := 42) rfl ?_); refine goesL_ (some 28) rfl rfl Tryd.func42 (by kernel_rfl) rfl #[.agg #[.int .i64 x317000_1, .slice Ao22 x317001_1.length co22], .agg #[.int .i64 ((rd_T49 l1 x21_1).f0), .int .i64 ((rd_T49 l1 x21_1).f1)]] rfl (by (try simp only [List.map_toArray, List.map_cons, List.map_nil]); first | done | rfl | (simp only [List.length_drop, List.length_take]; rfl)) ?_; (with_reducible refine (bSet.calls x317000_1 _ _ x317001_1 ((rd_T49 l1 x21_1).f0) ((rd_T49 l1 x21_1).f1) t319 t320 t323 _ ?side1 ?side2 A14.out).mono ?_); (case side1 => refine (Kd.R_reads' (e := 90) (base := w.heap.size) (ok := fun k_ => True) (n := x317001_1.length) (c := co22) ?_).2.2; exact (by (with_reducible repeat (first | apply Ra_ | apply Rn_ | apply Rd_)); exact (Kd.R_mono (Rf_ (p := ⟨gb318, 1, none⟩) (Rf_ (p := ⟨gb318, 0, none⟩) (Kd.R_types HO_317001.out BK318.out (by decide)) K2_ (.int .i64 ((rd_T49 l1 x21_1).f0))) K2_ (.int .i64 ((rd_T49 l1 x21_1).f1))) (fun _ h_ => h_.1)))); (case side2 => exact (Kd.R_reads' HO_317001.out).2.1); rintro e w23 ⟨v321, rfl, ho0, hb⟩; refine ⟨_, rfl, ?_⟩; have n0_ := A0_ (Kd.R_elder' (by (with_reducible repeat (first | apply Ra_ | apply Rn_ | apply Rd_)); exact (Kd.R_mono (Rf_ (p := ⟨gb318, 1, none⟩) (Rf_ (p := ⟨gb318, 0, none⟩) (Kd.R_types HO_317001.out BK318.out (by decide)) K2_ (.int .i64 ((rd_T49 l1 x21_1).f0))) K2_ (.int .i64 ((rd_T49 l1 x21_1).f1))) (fun _ h_ => h_.1))) (Kd.R_base ho0) hb); have n1_ := A0_ (Kd.R_lower (Kd.R_new' ho0 (Kd.R_lt (by (with_reducible repeat (first | apply Ra_ | apply Rn_ | apply Rd_)); exact (Kd.R_mono (Rf_ (p := ⟨gb318, 1, none⟩) (Rf_ (p := ⟨gb318, 0, none⟩) (Kd.R_types HO_317001.out BK318.out (by decide)) K2_ (.int .i64 ((rd_T49 l1 x21_1).f0))) K2_ (.int .i64 ((rd_T49 l1 x21_1).f1))) (fun _ h_ => h_.1))))) (below_size (by repeat (first | (with_reducible first | exact HB.out | apply Al_ | apply Dn_ | apply D1_ | refine Bs_ ?_ GE310.out | refine Bs_ ?_ GE316.out | refine Bs_ ?_ GE318.out) | exact HB.out)))); have n2_ := A0_ (blk_below (g := gb310) (o := .cells #[.int .i64 x311000_1, .slice none 0 0] 26 (0, 0)) (by (with_reducible repeat (first | refine Bn_ ?_ _ | refine Bd_ ?_ | refine Ba_ ?_ _)); refine Bz_ ?_ NB310_318.out _; (with_reducible repeat (first | refine Bn_ ?_ _ | refine Bd_ ?_ | refine Ba_ ?_ _)); refine Bz_ ?_ NB310_318.out _; (with_reducible repeat (first | refine Bn_ ?_ _ | refine Bd_ ?_ | refine Ba_ ?_ _)); exact BK310.out) hb); have n3_ := A0_ (blk_below (g := gb316) (o := .cells #[.int .i64 x317000_1, .slice Ao22 x317001_1.length co22] 26 (0, 0)) (by (with_reducible repeat (first | refine Bn_ ?_ _ | refine Bd_ ?_ | refine Ba_ ?_ _)); refine Bz_ ?_ NB316_318.out _; (with_reducible repeat (first | refine Bn_ ?_ _ | refine Bd_ ?_ | refine Ba_ ?_ _)); refine Bz_ ?_ NB316_318.out _; (with_reducible repeat (first | refine Bn_ ?_ _ | refine Bd_ ?_ | refine Ba_ ?_ _)); exact BK316.out) hb); have n4_ := A0_ (blk_below (g := gb318) (o := .cells #[.int .i64 ((rd_T49 l1 x21_1).f0), .int .i64 ((rd_T49 l1 x21_1).f1)] 49 (0, 0)) (by (with_reducible repeat (first | refine Bn_ ?_ _ | refine Bd_ ?_ | refine Ba_ ?_ _)); refine blk_put (cs := #[.int .i64 ((rd_T49 l1 x21_1).f0), .int .i64 0]) ?_ 1 _ rfl; (with_reducible repeat (first | refine Bn_ ?_ _ | refine Bd_ ?_ | refine Ba_ ?_ _)); refine blk_put (cs := #[.int .i64 0, .int .i64 0]) ?_ 0 _ rfl; (with_reducible repeat (first | refine Bn_ ?_ _ | refine Bd_ ?_ | refine Ba_ ?_ _)); exact BK318.out) hb); have n5_ := A0_ (below_step (by repeat (first | (with_reducible first | exact HB.out | apply Al_ | apply Dn_ | apply D1_ | refine Bs_ ?_ GE310.out | refine Bs_ ?_ GE316.out | refine Bs_ ?_ GE318.out) | exact HB.out)) hb); clear HO_317001 BK310 BK316 BK318 HB; have HO_317001 := n0_; have HO322 := n1_; have BK310 := n2_; have BK316 := n3_; have BK318 := n4_; have HB := n5_; clear n0_ n1_ n2_ n3_ n4_ n5_; (try clear hb); (try clear hb2); (try clear hk); (try clear hi); (try clear ho0); have hcz24_0 : w23.cell? ⟨gb316, 0, none⟩ = some (.int .i64 x317000_1) := (Bc_ BK316.out 0).trans rfl; have hcz24_1 : w23.cell? ⟨gb316, 1, none⟩ = some (.slice Ao22 x317001_1.length co22) := (Bc_ BK316.out 1).trans rfl; have hfz24_0 := Bf_ BK316.out 0; have hfz24_1 := Bf_ BK316.out 1; obtain ⟨Ao25, co25, eo25⟩ := Kd.R_slice HO322.out; subst eo25))
        go_roundg k1
        case measure => have := HK1.out; omega
        case rel => exact ⟨(wrap64 (x21_1 + 1)), (x311000_1), (t319), (t320), (.slice Ao25 t320.length co25), (by first | rfl | (simp; done) | (simp [*]; done)), H', ⟨by have := HK1.out; omega⟩, ⟨by (with_reducible repeat (first | apply Ra_ | apply Rn_ | apply Rd_)); exact Kd.R_mono (Rf_ (p := ⟨gb316, 1, none⟩) (Rf_ (p := ⟨gb316, 0, none⟩) (Kd.R_types HO322.out BK316.out (by decide)) K2_ (.int .i64 t319)) K2_ (.slice Ao25 t320.length co25)) (fun _ hk => trivial)⟩, ⟨by (with_reducible repeat (first | refine Bn_ ?_ _ | refine Bd_ ?_ | refine Ba_ ?_ _)); refine Bz_ ?_ NB310_316.out _; (with_reducible repeat (first | refine Bn_ ?_ _ | refine Bd_ ?_ | refine Ba_ ?_ _)); refine Bz_ ?_ NB310_316.out _; (with_reducible repeat (first | refine Bn_ ?_ _ | refine Bd_ ?_ | refine Ba_ ?_ _)); exact BK310.out⟩, ⟨by (with_reducible repeat (first | refine Bn_ ?_ _ | refine Bd_ ?_ | refine Ba_ ?_ _)); refine blk_put (cs := #[.int .i64 t319, .slice Ao22 x317001_1.length co22]) ?_ 1 _ rfl; (with_reducible repeat (first | refine Bn_ ?_ _ | refine Bd_ ?_ | refine Ba_ ?_ _)); refine blk_put (cs := #[.int .i64 x317000_1, .slice Ao22 x317001_1.length co22]) ?_ 0 _ rfl; (with_reducible repeat (first | refine Bn_ ?_ _ | refine Bd_ ?_ | refine Ba_ ?_ _)); exact BK316.out⟩, ⟨by repeat (first | (with_reducible first | exact HB.out | apply Al_ | apply Dn_ | apply D1_ | refine Bs_ ?_ GE310.out | refine Bs_ ?_ GE316.out | refine Bs_ ?_ GE318.out) | exact HB.out)⟩⟩
       ·
        rw [if_neg c15] at H
        have c15b0 : (t323 == 0) = false := beq_eq_false_iff_ne.mpr c15
        have c15b1 : (t323 != 0) = true := bne_iff_ne.mpr c15
        simp only [Option.some.injEq, Prod.mk.injEq] at H
        obtain ⟨rfl, rfl, rfl⟩ := H
        have p317 : 0 ≤ (x21_1 : Int) := of_decide_eq_true (by first | (with_reducible assumption) | assumption)
        have q317 : x21_1 < (l1.length : Int) := of_decide_eq_true (by first | (with_reducible assumption) | assumption)
        obtain ⟨ad317, e317, hx317_0, hx317_1⟩ := at_T49 HR1.out x21_1 p317 q317
        cases e317
        replace hx317_0 := (HB.out.cell (World.block_lt_of_cell? w _ hx317_0)).trans hx317_0
        replace hx317_1 := (HB.out.cell (World.block_lt_of_cell? w _ hx317_1)).trans hx317_1
        replace p317 := eq_true p317
        replace q317 := eq_true q317
        go_wp2_with (first | ((with_reducible refine gate_dst (N := 9) rfl ?_); refine box_event ?hg (N := 9) ?hd (cs := #[.int .i64 0, .int .i64 0]) (t := 49) ?hr ?_; (case hd => rfl); (case hg => rfl); (case hr => first | (go_simp; done) | (go_simp; rfl)); intro gb318 hg w26 hbox hb; have n0_ := A0_ (Kd.R_below (by (with_reducible repeat (first | apply Ra_ | apply Rn_ | apply Rd_)); exact HO_317001.out) hb); have n1_ := A0_ (blk_below (g := gb310) (o := .cells #[.int .i64 x311000_1, .slice none 0 0] 26 (0, 0)) (by (with_reducible repeat (first | refine Bn_ ?_ _ | refine Bd_ ?_ | refine Ba_ ?_ _)); exact BK310.out) hb); have n2_ := A0_ (blk_below (g := gb316) (o := .cells #[.int .i64 x317000_1, u317001] 26 (0, 0)) (by (with_reducible repeat (first | refine Bn_ ?_ _ | refine Bd_ ?_ | refine Ba_ ?_ _)); exact BK316.out) hb); have n3_ := A0_ (below_step (by repeat (first | (with_reducible first | exact HB.out | apply Al_ | apply Dn_ | apply D1_ | refine Bs_ ?_ GE310.out | refine Bs_ ?_ GE316.out) | exact HB.out)) hb); have n4_ := A0_ (hbox); have n5_ := A0_ ((by rw [hg]; exact (below_size (by repeat (first | (with_reducible first | exact HB.out | apply Al_ | apply Dn_ | apply D1_ | refine Bs_ ?_ GE310.out | refine Bs_ ?_ GE316.out) | exact HB.out))) : w.heap.size ≤ gb318)); have n6_ := A0_ ((by rw [hg]; exact (below_size (by repeat (first | (with_reducible first | exact HB.out | apply Al_ | apply Dn_ | apply D1_ | refine Bs_ ?_ GE310.out | refine Bs_ ?_ GE316.out) | exact HB.out))) : w.heap.size ≤ gb318)); have n7_ := A0_ ((by rw [hg]; exact Nat.ne_of_lt (blk_lt (g := gb310) (o := .cells #[.int .i64 x311000_1, .slice none 0 0] 26 (0, 0)) (by (with_reducible repeat (first | refine Bn_ ?_ _ | refine Bd_ ?_ | refine Ba_ ?_ _)); exact BK310.out)) : gb310 ≠ gb318)); have n8_ := A0_ ((by rw [hg]; exact Nat.ne_of_gt (blk_lt (g := gb310) (o := .cells #[.int .i64 x311000_1, .slice none 0 0] 26 (0, 0)) (by (with_reducible repeat (first | refine Bn_ ?_ _ | refine Bd_ ?_ | refine Ba_ ?_ _)); exact BK310.out)) : gb318 ≠ gb310)); have n9_ := A0_ ((by rw [hg]; exact Nat.ne_of_lt (blk_lt (g := gb316) (o := .cells #[.int .i64 x317000_1, u317001] 26 (0, 0)) (by (with_reducible repeat (first | refine Bn_ ?_ _ | refine Bd_ ?_ | refine Ba_ ?_ _)); exact BK316.out)) : gb316 ≠ gb318)); have n10_ := A0_ ((by rw [hg]; exact Nat.ne_of_gt (blk_lt (g := gb316) (o := .cells #[.int .i64 x317000_1, u317001] 26 (0, 0)) (by (with_reducible repeat (first | refine Bn_ ?_ _ | refine Bd_ ?_ | refine Ba_ ?_ _)); exact BK316.out)) : gb318 ≠ gb316)); clear HO_317001 BK310 BK316 HB; have HO_317001 := n0_; have BK310 := n1_; have BK316 := n2_; have HB := n3_; have BK318 := n4_; have GW318 := n5_; have GE318 := n6_; have NB310_318 := n7_; have NB318_310 := n8_; have NB316_318 := n9_; have NB318_316 := n10_; clear n0_ n1_ n2_ n3_ n4_ n5_ n6_ n7_ n8_ n9_ n10_ hb hbox hg; have hnb27 := NB318_310.out; have hnc27 := NB310_318.out; have hnb28 := NB318_316.out; have hnc28 := NB316_318.out; have hcz29_0 : w26.cell? ⟨gb318, 0, none⟩ = some (.int .i64 0) := (Bc_ BK318.out 0).trans rfl; have hcz29_1 : w26.cell? ⟨gb318, 1, none⟩ = some (.int .i64 0) := (Bc_ BK318.out 1).trans rfl; have hfz29_0 := Bf_ BK318.out 0; have hfz29_1 := Bf_ BK318.out 1; have hnb30 := NB316_310.out; have hnc30 := NB310_316.out; have hcz31_0 : w26.cell? ⟨gb316, 0, none⟩ = some (.int .i64 x317000_1) := (Bc_ BK316.out 0).trans rfl; have hcz31_1 : w26.cell? ⟨gb316, 1, none⟩ = some (u317001) := (Bc_ BK316.out 1).trans rfl; have hfz31_0 := Bf_ BK316.out 0; have hfz31_1 := Bf_ BK316.out 1; obtain ⟨Ao32, co32, eo32⟩ := Kd.R_slice HO_317001.out; subst eo32) | ((with_reducible refine gate_callee (f := 42) rfl ?_); refine goesL_ (some 28) rfl rfl Tryd.func42 (by kernel_rfl) rfl #[.agg #[.int .i64 x317000_1, .slice Ao32 x317001_1.length co32], .agg #[.int .i64 ((rd_T49 l1 x21_1).f0), .int .i64 ((rd_T49 l1 x21_1).f1)]] rfl (by (try simp only [List.map_toArray, List.map_cons, List.map_nil]); first | done | rfl | (simp only [List.length_drop, List.length_take]; rfl)) ?_; (with_reducible refine (bSet.calls x317000_1 _ _ x317001_1 ((rd_T49 l1 x21_1).f0) ((rd_T49 l1 x21_1).f1) t319 t320 t323 _ ?side1 ?side2 A14.out).mono ?_); (case side1 => refine (Kd.R_reads' (e := 90) (base := w.heap.size) (ok := fun k_ => True) (n := x317001_1.length) (c := co32) ?_).2.2; exact (by (with_reducible repeat (first | apply Ra_ | apply Rn_ | apply Rd_)); exact (Kd.R_mono (Rf_ (p := ⟨gb318, 1, none⟩) (Rf_ (p := ⟨gb318, 0, none⟩) (Kd.R_types HO_317001.out BK318.out (by decide)) K2_ (.int .i64 ((rd_T49 l1 x21_1).f0))) K2_ (.int .i64 ((rd_T49 l1 x21_1).f1))) (fun _ h_ => h_.1)))); (case side2 => exact (Kd.R_reads' HO_317001.out).2.1); rintro e w33 ⟨v321, rfl, ho0, hb⟩; refine ⟨_, rfl, ?_⟩; have n0_ := A0_ (Kd.R_elder' (by (with_reducible repeat (first | apply Ra_ | apply Rn_ | apply Rd_)); exact (Kd.R_mono (Rf_ (p := ⟨gb318, 1, none⟩) (Rf_ (p := ⟨gb318, 0, none⟩) (Kd.R_types HO_317001.out BK318.out (by decide)) K2_ (.int .i64 ((rd_T49 l1 x21_1).f0))) K2_ (.int .i64 ((rd_T49 l1 x21_1).f1))) (fun _ h_ => h_.1))) (Kd.R_base ho0) hb); have n1_ := A0_ (Kd.R_lower (Kd.R_new' ho0 (Kd.R_lt (by (with_reducible repeat (first | apply Ra_ | apply Rn_ | apply Rd_)); exact (Kd.R_mono (Rf_ (p := ⟨gb318, 1, none⟩) (Rf_ (p := ⟨gb318, 0, none⟩) (Kd.R_types HO_317001.out BK318.out (by decide)) K2_ (.int .i64 ((rd_T49 l1 x21_1).f0))) K2_ (.int .i64 ((rd_T49 l1 x21_1).f1))) (fun _ h_ => h_.1))))) (below_size (by repeat (first | (with_reducible first | exact HB.out | apply Al_ | apply Dn_ | apply D1_ | refine Bs_ ?_ GE310.out | refine Bs_ ?_ GE316.out | refine Bs_ ?_ GE318.out) | exact HB.out)))); have n2_ := A0_ (blk_below (g := gb310) (o := .cells #[.int .i64 x311000_1, .slice none 0 0] 26 (0, 0)) (by (with_reducible repeat (first | refine Bn_ ?_ _ | refine Bd_ ?_ | refine Ba_ ?_ _)); refine Bz_ ?_ NB310_318.out _; (with_reducible repeat (first | refine Bn_ ?_ _ | refine Bd_ ?_ | refine Ba_ ?_ _)); refine Bz_ ?_ NB310_318.out _; (with_reducible repeat (first | refine Bn_ ?_ _ | refine Bd_ ?_ | refine Ba_ ?_ _)); exact BK310.out) hb); have n3_ := A0_ (blk_below (g := gb316) (o := .cells #[.int .i64 x317000_1, .slice Ao32 x317001_1.length co32] 26 (0, 0)) (by (with_reducible repeat (first | refine Bn_ ?_ _ | refine Bd_ ?_ | refine Ba_ ?_ _)); refine Bz_ ?_ NB316_318.out _; (with_reducible repeat (first | refine Bn_ ?_ _ | refine Bd_ ?_ | refine Ba_ ?_ _)); refine Bz_ ?_ NB316_318.out _; (with_reducible repeat (first | refine Bn_ ?_ _ | refine Bd_ ?_ | refine Ba_ ?_ _)); exact BK316.out) hb); have n4_ := A0_ (blk_below (g := gb318) (o := .cells #[.int .i64 ((rd_T49 l1 x21_1).f0), .int .i64 ((rd_T49 l1 x21_1).f1)] 49 (0, 0)) (by (with_reducible repeat (first | refine Bn_ ?_ _ | refine Bd_ ?_ | refine Ba_ ?_ _)); refine blk_put (cs := #[.int .i64 ((rd_T49 l1 x21_1).f0), .int .i64 0]) ?_ 1 _ rfl; (with_reducible repeat (first | refine Bn_ ?_ _ | refine Bd_ ?_ | refine Ba_ ?_ _)); refine blk_put (cs := #[.int .i64 0, .int .i64 0]) ?_ 0 _ rfl; (with_reducible repeat (first | refine Bn_ ?_ _ | refine Bd_ ?_ | refine Ba_ ?_ _)); exact BK318.out) hb); have n5_ := A0_ (below_step (by repeat (first | (with_reducible first | exact HB.out | apply Al_ | apply Dn_ | apply D1_ | refine Bs_ ?_ GE310.out | refine Bs_ ?_ GE316.out | refine Bs_ ?_ GE318.out) | exact HB.out)) hb); clear HO_317001 BK310 BK316 BK318 HB; have HO_317001 := n0_; have HO322 := n1_; have BK310 := n2_; have BK316 := n3_; have BK318 := n4_; have HB := n5_; clear n0_ n1_ n2_ n3_ n4_ n5_; (try clear hb); (try clear hb2); (try clear hk); (try clear hi); (try clear ho0); have hcz34_0 : w33.cell? ⟨gb316, 0, none⟩ = some (.int .i64 x317000_1) := (Bc_ BK316.out 0).trans rfl; have hcz34_1 : w33.cell? ⟨gb316, 1, none⟩ = some (.slice Ao32 x317001_1.length co32) := (Bc_ BK316.out 1).trans rfl; have hfz34_0 := Bf_ BK316.out 0; have hfz34_1 := Bf_ BK316.out 1; obtain ⟨Ao35, co35, eo35⟩ := Kd.R_slice HO322.out; subst eo35; have hcz36_0 : w33.cell? ⟨gb310, 0, none⟩ = some (.int .i64 x311000_1) := (Bc_ BK310.out 0).trans rfl; have hcz36_1 : w33.cell? ⟨gb310, 1, none⟩ = some (.slice none 0 0) := (Bc_ BK310.out 1).trans rfl; have hfz36_0 := Bf_ BK310.out 0; have hfz36_1 := Bf_ BK310.out 1))
        refine bodyPost_ret (results_ct rfl _ _ gb310 26 #[.int .i64 0, .slice none 0 0] (0, 0) _ rfl (by (with_reducible repeat (first | refine Bn_ ?_ _ | refine Bd_ ?_ | refine Ba_ ?_ _)); refine blk_put (cs := #[.int .i64 0, .slice none 0 0]) ?_ 1 _ rfl; (with_reducible repeat (first | refine Bn_ ?_ _ | refine Bd_ ?_ | refine Ba_ ?_ _)); refine blk_put (cs := #[.int .i64 x311000_1, .slice none 0 0]) ?_ 0 _ rfl; (with_reducible repeat (first | refine Bn_ ?_ _ | refine Bd_ ?_ | refine Ba_ ?_ _)); refine Bz_ ?_ NB310_316.out _; (with_reducible repeat (first | refine Bn_ ?_ _ | refine Bd_ ?_ | refine Ba_ ?_ _)); refine Bz_ ?_ NB310_316.out _; (with_reducible repeat (first | refine Bn_ ?_ _ | refine Bd_ ?_ | refine Ba_ ?_ _)); exact BK310.out) Tryd.underlying26 rfl (by kernel_rfl)) rfl ?_
        exact ⟨_, by first | rfl | (simp [errW_none, errW_some] <;> rfl) | (simp [*, errW_none, errW_some] <;> rfl), by first | exact Kd.R_nil _ _ _ _ _ | exact Kd.N_nil _ _ _ _ _ | exact Kd.V_nil _ _ _ _ _ | exact Kd.Q_nil _ _ _ _ _ | exact Kd.S_nil _ _ _ _ _, by repeat (first | (with_reducible first | exact HB.out | apply Al_ | apply Dn_ | apply D1_ | refine Bs_ ?_ GE310.out | refine Bs_ ?_ GE316.out | refine Bs_ ?_ GE318.out) | exact HB.out)⟩
      ·
       rw [if_neg c13] at H
       exact absurd H (by simp)
     ·
      rw [if_neg c12] at H
      exact absurd H (by simp)
    ·
     rw [if_neg c11] at H
     have c11b0 : decide (x21_1 < (l1.length : Int)) = false := decide_eq_false c11
     clear c11
     simp only [Option.some.injEq, Prod.mk.injEq] at H
     obtain ⟨rfl, rfl, rfl⟩ := H
     have hnb37 := NB316_310.out
     have hnc37 := NB310_316.out
     have hcz38_0 : wr.cell? ⟨gb316, 0, none⟩ = some (.int .i64 x317000_1) := (Bc_ BK316.out 0).trans rfl
     have hcz38_1 : wr.cell? ⟨gb316, 1, none⟩ = some (u317001) := (Bc_ BK316.out 1).trans rfl
     have hfz38_0 := Bf_ BK316.out 0
     have hfz38_1 := Bf_ BK316.out 1
     have hcz39_0 : wr.cell? ⟨gb310, 0, none⟩ = some (.int .i64 x311000_1) := (Bc_ BK310.out 0).trans rfl
     have hcz39_1 : wr.cell? ⟨gb310, 1, none⟩ = some (.slice none 0 0) := (Bc_ BK310.out 1).trans rfl
     have hfz39_0 := Bf_ BK310.out 0
     have hfz39_1 := Bf_ BK310.out 1
     obtain ⟨Ao40, co40, eo40⟩ := Kd.R_slice HO_317001.out
     subst eo40
     go_wp2
     refine bodyPost_ret (results_ct rfl _ _ gb310 26 #[.int .i64 x317000_1, .slice Ao40 x317001_1.length co40] (0, 0) _ rfl (by (with_reducible repeat (first | refine Bn_ ?_ _ | refine Bd_ ?_ | refine Ba_ ?_ _)); refine blk_put (cs := #[.int .i64 x317000_1, .slice none 0 0]) ?_ 1 _ rfl; (with_reducible repeat (first | refine Bn_ ?_ _ | refine Bd_ ?_ | refine Ba_ ?_ _)); refine blk_put (cs := #[.int .i64 x311000_1, .slice none 0 0]) ?_ 0 _ rfl; (with_reducible repeat (first | refine Bn_ ?_ _ | refine Bd_ ?_ | refine Ba_ ?_ _)); exact BK310.out) Tryd.underlying26 rfl (by kernel_rfl)) rfl ?_
     exact ⟨_, by first | rfl | (simp [errW_none, errW_some] <;> rfl) | (simp [*, errW_none, errW_some] <;> rfl), by (with_reducible repeat (first | apply Ra_ | apply Rn_ | apply Rd_)); exact Kd.R_mono (Rf_ (p := ⟨gb310, 1, none⟩) (Rf_ (p := ⟨gb310, 0, none⟩) (Kd.R_types HO_317001.out BK310.out (by decide)) K2_ (.int .i64 x317000_1)) K2_ (.slice Ao40 x317001_1.length co40)) (fun _ hk => trivial), by repeat (first | (with_reducible first | exact HB.out | apply Al_ | apply Dn_ | apply D1_ | refine Bs_ ?_ GE310.out | refine Bs_ ?_ GE316.out) | exact HB.out)⟩
 ·
  rw [if_neg c4] at H
  have c4b0 : (t315 == 0) = false := beq_eq_false_iff_ne.mpr c4
  have c4b1 : (t315 != 0) = true := bne_iff_ne.mpr c4
  simp only [Option.some.injEq, Prod.mk.injEq] at H
  obtain ⟨rfl, rfl, rfl⟩ := H
  go_enter Tryd.func49, Tryd.ntmps49
  go_wp2_with (first | ((with_reducible refine gate_dst (N := 4) rfl ?_); refine box_event ?hg (N := 4) ?hd (cs := #[.int .i64 0, .slice none 0 0]) (t := 26) ?hr ?_; (case hd => rfl); (case hg => rfl); (case hr => first | (go_simp; done) | (go_simp; rfl)); intro gb310 hg w41 hbox hb; have n0_ := A0_ (below_step (by repeat (first | (with_reducible first | exact HB.out | apply Al_ | apply Dn_ | apply D1_) | exact HB.out)) hb); have n1_ := A0_ (hbox); have n2_ := A0_ ((by rw [hg]; exact (below_size (by repeat (first | (with_reducible first | exact HB.out | apply Al_ | apply Dn_ | apply D1_) | exact HB.out))) : w.heap.size ≤ gb310)); have n3_ := A0_ ((by rw [hg]; exact (below_size (by repeat (first | (with_reducible first | exact HB.out | apply Al_ | apply Dn_ | apply D1_) | exact HB.out))) : w.heap.size ≤ gb310)); clear HB; have HB := n0_; have BK310 := n1_; have GW310 := n2_; have GE310 := n3_; clear n0_ n1_ n2_ n3_ hb hbox hg) | ((with_reducible refine gate_callee (f := 29) rfl ?_); refine goesL_ (some 12) rfl rfl Tryd.func29 (by kernel_rfl) rfl #[.int .i64 a0] rfl (by (try simp only [List.map_toArray, List.map_cons, List.map_nil]); first | done | rfl | (simp only [List.length_drop, List.length_take]; rfl)) ?_; (with_reducible refine (bNew.calls a0 t311 t312 t315 _ A3.out).mono ?_); rintro e w42 ⟨v313, rfl, ho0, hb⟩; refine ⟨_, rfl, ?_⟩; have n0_ := A0_ (Kd.R_lower ho0 (below_size (by repeat (first | (with_reducible first | exact HB.out | apply Al_ | apply Dn_ | apply D1_ | refine Bs_ ?_ GE310.out) | exact HB.out)))); have n1_ := A0_ (blk_below (g := gb310) (o := .cells #[.int .i64 0, .slice none 0 0] 26 (0, 0)) (by (with_reducible repeat (first | refine Bn_ ?_ _ | refine Bd_ ?_ | refine Ba_ ?_ _)); exact BK310.out) hb); have n2_ := A0_ (below_step (by repeat (first | (with_reducible first | exact HB.out | apply Al_ | apply Dn_ | apply D1_ | refine Bs_ ?_ GE310.out) | exact HB.out)) hb); clear BK310 HB; have HO314 := n0_; have BK310 := n1_; have HB := n2_; clear n0_ n1_ n2_; (try clear hb); (try clear hb2); (try clear hk); (try clear hi); (try clear ho0)) | ((with_reducible refine gate_dst (N := 6) rfl ?_); refine box_event ?hg (N := 6) ?hd (cs := #[.int .i64 0, .slice none 0 0]) (t := 26) ?hr ?_; (case hd => rfl); (case hg => rfl); (case hr => first | (go_simp; done) | (go_simp; rfl)); intro gb316 hg w43 hbox hb; have n0_ := A0_ (Kd.R_below (by (with_reducible repeat (first | apply Ra_ | apply Rn_ | apply Rd_)); exact HO314.out) hb); have n1_ := A0_ (blk_below (g := gb310) (o := .cells #[.int .i64 0, .slice none 0 0] 26 (0, 0)) (by (with_reducible repeat (first | refine Bn_ ?_ _ | refine Bd_ ?_ | refine Ba_ ?_ _)); exact BK310.out) hb); have n2_ := A0_ (below_step (by repeat (first | (with_reducible first | exact HB.out | apply Al_ | apply Dn_ | apply D1_ | refine Bs_ ?_ GE310.out) | exact HB.out)) hb); have n3_ := A0_ (hbox); have n4_ := A0_ ((by rw [hg]; exact (below_size (by repeat (first | (with_reducible first | exact HB.out | apply Al_ | apply Dn_ | apply D1_ | refine Bs_ ?_ GE310.out) | exact HB.out))) : w.heap.size ≤ gb316)); have n5_ := A0_ ((by rw [hg]; exact (below_size (by repeat (first | (with_reducible first | exact HB.out | apply Al_ | apply Dn_ | apply D1_ | refine Bs_ ?_ GE310.out) | exact HB.out))) : w.heap.size ≤ gb316)); have n6_ := A0_ ((by rw [hg]; exact Nat.ne_of_lt (blk_lt (g := gb310) (o := .cells #[.int .i64 0, .slice none 0 0] 26 (0, 0)) (by (with_reducible repeat (first | refine Bn_ ?_ _ | refine Bd_ ?_ | refine Ba_ ?_ _)); exact BK310.out)) : gb310 ≠ gb316)); have n7_ := A0_ ((by rw [hg]; exact Nat.ne_of_gt (blk_lt (g := gb310) (o := .cells #[.int .i64 0, .slice none 0 0] 26 (0, 0)) (by (with_reducible repeat (first | refine Bn_ ?_ _ | refine Bd_ ?_ | refine Ba_ ?_ _)); exact BK310.out)) : gb316 ≠ gb310)); clear HO314 BK310 HB; have HO314 := n0_; have BK310 := n1_; have HB := n2_; have BK316 := n3_; have GW316 := n4_; have GE316 := n5_; have NB310_316 := n6_; have NB316_310 := n7_; clear n0_ n1_ n2_ n3_ n4_ n5_ n6_ n7_ hb hbox hg; have hnb44 := NB316_310.out; have hnc44 := NB310_316.out; have hcz45_0 : w43.cell? ⟨gb316, 0, none⟩ = some (.int .i64 0) := (Bc_ BK316.out 0).trans rfl; have hcz45_1 : w43.cell? ⟨gb316, 1, none⟩ = some (.slice none 0 0) := (Bc_ BK316.out 1).trans rfl; have hfz45_0 := Bf_ BK316.out 0; have hfz45_1 := Bf_ BK316.out 1; obtain ⟨Ao46, co46, eo46⟩ := Kd.R_slice HO314.out; subst eo46; have hcz47_0 : w43.cell? ⟨gb310, 0, none⟩ = some (.int .i64 0) := (Bc_ BK310.out 0).trans rfl; have hcz47_1 : w43.cell? ⟨gb310, 1, none⟩ = some (.slice none 0 0) := (Bc_ BK310.out 1).trans rfl; have hfz47_0 := Bf_ BK310.out 0; have hfz47_1 := Bf_ BK310.out 1))
  refine bodyPost_ret (results_ct rfl _ _ gb310 26 #[.int .i64 0, .slice none 0 0] (0, 0) _ rfl (by (with_reducible repeat (first | refine Bn_ ?_ _ | refine Bd_ ?_ | refine Ba_ ?_ _)); refine blk_put (cs := #[.int .i64 0, .slice none 0 0]) ?_ 1 _ rfl; (with_reducible repeat (first | refine Bn_ ?_ _ | refine Bd_ ?_ | refine Ba_ ?_ _)); refine blk_put (cs := #[.int .i64 0, .slice none 0 0]) ?_ 0 _ rfl; (with_reducible repeat (first | refine Bn_ ?_ _ | refine Bd_ ?_ | refine Ba_ ?_ _)); refine Bz_ ?_ NB310_316.out _; (with_reducible repeat (first | refine Bn_ ?_ _ | refine Bd_ ?_ | refine Ba_ ?_ _)); refine Bz_ ?_ NB310_316.out _; (with_reducible repeat (first | refine Bn_ ?_ _ | refine Bd_ ?_ | refine Ba_ ?_ _)); exact BK310.out) Tryd.underlying26 rfl (by kernel_rfl)) rfl ?_
  exact ⟨_, by first | rfl | (simp [errW_none, errW_some] <;> rfl) | (simp [*, errW_none, errW_some] <;> rfl), by first | exact Kd.R_nil _ _ _ _ _ | exact Kd.N_nil _ _ _ _ _ | exact Kd.V_nil _ _ _ _ _ | exact Kd.Q_nil _ _ _ _ _ | exact Kd.S_nil _ _ _ _ _, by repeat (first | (with_reducible first | exact HB.out | apply Al_ | apply Dn_ | apply D1_ | refine Bs_ ?_ GE310.out | refine Bs_ ?_ GE316.out) | exact HB.out)⟩
def xwithin.f (a0_0 : Int) (a0_1 : Int) : Option (Int × Int × Bool) := if a0_1 ≤ 0 then (some (0, 0, false)) else (if a0_0 < 0 then (some (mx a0_0 0, mn (wrap64 (a0_0 + a0_1)) 4096, decide ((mx a0_0 0) < (mn (wrap64 (a0_0 + a0_1)) 4096)))) else (if a0_1 < (wrap64 (4096 - a0_0)) then (some (mx a0_0 0, mn (wrap64 (a0_0 + a0_1)) 4096, decide ((mx a0_0 0) < (mn (wrap64 (a0_0 + a0_1)) 4096)))) else (some (mx a0_0 0, 4096, decide ((mx a0_0 0) < 4096)))))
set_option maxHeartbeats 8000000 in
set_option maxRecDepth 100000 in
theorem xwithin.calls (a0_0 : Int) (a0_1 : Int) (r1 : Int) (r2 : Int) (r3 : Bool) (w : World) (h : xwithin.f a0_0 a0_1 = some (r1, r2, r3)) :
  Calls Tryd.prog 87 #[.agg #[.int .i64 a0_0, .int .i64 a0_1]] w fun e w' => e = .returned (.tuple #[.int .i64 r1, .int .i64 r2, .bool r3]) ∧ Below w.heap.size w w' := by
 have hu49 := Tryd.underlying49
 have HB := A0_ (Below.refl w.heap.size w)
 have H : (if a0_1 ≤ 0 then (some (0, 0, false)) else (if a0_0 < 0 then (some (mx a0_0 0, mn (wrap64 (a0_0 + a0_1)) 4096, decide ((mx a0_0 0) < (mn (wrap64 (a0_0 + a0_1)) 4096)))) else (if a0_1 < (wrap64 (4096 - a0_0)) then (some (mx a0_0 0, mn (wrap64 (a0_0 + a0_1)) 4096, decide ((mx a0_0 0) < (mn (wrap64 (a0_0 + a0_1)) 4096)))) else (some (mx a0_0 0, 4096, decide ((mx a0_0 0) < 4096)))))) = some (r1, r2, r3) := h
 clear h
 by_cases c2 : a0_1 ≤ 0
 ·
  rw [if_pos c2] at H
  have c2b0 : decide (a0_1 ≤ 0) = true := decide_eq_true c2
  clear c2
  simp only [Option.some.injEq, Prod.mk.injEq] at H
  obtain ⟨rfl, rfl, rfl⟩ := H
  go_enter Tryd.func87, Tryd.ntmps87
  go_wp2_with (first | ((with_reducible refine gate_dst (N := 1) rfl ?_); refine box_event ?hg (N := 1) ?hd (cs := #[.int .i64 a0_0, .int .i64 a0_1]) (t := 49) ?hr ?_; (case hd => rfl); (case hg => rfl); (case hr => first | (go_simp; done) | (go_simp; rfl)); intro gb324 hg w3 hbox hb; have n0_ := A0_ (below_step (by repeat (first | (with_reducible first | exact HB.out | apply Al_ | apply Dn_ | apply D1_) | exact HB.out)) hb); have n1_ := A0_ (hbox); have n2_ := A0_ ((by rw [hg]; exact (below_size (by repeat (first | (with_reducible first | exact HB.out | apply Al_ | apply Dn_ | apply D1_) | exact HB.out))) : w.heap.size ≤ gb324)); have n3_ := A0_ ((by rw [hg]; exact (below_size (by repeat (first | (with_reducible first | exact HB.out | apply Al_ | apply Dn_ | apply D1_) | exact HB.out))) : w.heap.size ≤ gb324)); clear HB; have HB := n0_; have BK324 := n1_; have GW324 := n2_; have GE324 := n3_; clear n0_ n1_ n2_ n3_ hb hbox hg; have hcz4_0 : w3.cell? ⟨gb324, 0, none⟩ = some (.int .i64 a0_0) := (Bc_ BK324.out 0).trans rfl; have hcz4_1 : w3.cell? ⟨gb324, 1, none⟩ = some (.int .i64 a0_1) := (Bc_ BK324.out 1).trans rfl; have hfz4_0 := Bf_ BK324.out 0; have hfz4_1 := Bf_ BK324.out 1))
  go_ret3
  exact ⟨by first | rfl | (simp [errW_none, errW_some] <;> rfl) | (simp [*, errW_none, errW_some] <;> rfl), by repeat (first | (with_reducible first | exact HB.out | apply Al_ | apply Dn_ | apply D1_ | refine Bs_ ?_ GE324.out) | exact HB.out)⟩
 ·
  rw [if_neg c2] at H
  have c2b0 : decide (a0_1 ≤ 0) = false := decide_eq_false c2
  clear c2
  obtain ⟨ji5, hji5⟩ : ∃ j_ : Int, (mx a0_0 0) = j_ := ⟨_, rfl⟩
  replace H : (if a0_0 < 0 then (some (ji5, mn (wrap64 (a0_0 + a0_1)) 4096, decide ((ji5) < (mn (wrap64 (a0_0 + a0_1)) 4096)))) else (if a0_1 < (wrap64 (4096 - a0_0)) then (some (ji5, mn (wrap64 (a0_0 + a0_1)) 4096, decide ((ji5) < (mn (wrap64 (a0_0 + a0_1)) 4096)))) else (some (ji5, 4096, decide ((ji5) < 4096))))) = some (r1, r2, r3) := by first | (rw [hji5] at H; exact H) | (simp only [hji5] at H ⊢; exact H)
  (try (have hji5l : 0 ≤ ji5 := by (rw [← hji5]; unfold mx; (repeat' split) <;> omega)))
  (try (have hji5m : 0 ≤ ji5 := by omega))
  have hji5_ : (if a0_0 < 0 then 0 else a0_0) = ji5 := hji5
  by_cases c6 : a0_0 < 0
  ·
   rw [if_pos c6] at H
   have c6b0 : decide (a0_0 < 0) = true := decide_eq_true c6
   clear c6
   obtain ⟨ji7, hji7⟩ : ∃ j_ : Int, (mn (wrap64 (a0_0 + a0_1)) 4096) = j_ := ⟨_, rfl⟩
   replace H : (some (ji5, ji7, decide ((ji5) < (ji7)))) = some (r1, r2, r3) := by first | (rw [hji7] at H; exact H) | (simp only [hji7] at H ⊢; exact H)
   (try (have hji7h : ji7 ≤ 4096 := by (rw [← hji7]; unfold mn; (repeat' split) <;> omega)))
   (try (have hji7g : ji7 ≤ 64 := by omega))
   have hji7_ : (if 4096 < (wrap64 (a0_0 + a0_1)) then 4096 else (wrap64 (a0_0 + a0_1))) = ji7 := hji7
   simp only [Option.some.injEq, Prod.mk.injEq] at H
   obtain ⟨rfl, rfl, rfl⟩ := H
   go_enter Tryd.func87, Tryd.ntmps87
   go_wp2_with (first | ((with_reducible refine gate_dst (N := 1) rfl ?_); refine box_event ?hg (N := 1) ?hd (cs := #[.int .i64 a0_0, .int .i64 a0_1]) (t := 49) ?hr ?_; (case hd => rfl); (case hg => rfl); (case hr => first | (go_simp; done) | (go_simp; rfl)); intro gb324 hg w8 hbox hb; have n0_ := A0_ (below_step (by repeat (first | (with_reducible first | exact HB.out | apply Al_ | apply Dn_ | apply D1_) | exact HB.out)) hb); have n1_ := A0_ (hbox); have n2_ := A0_ ((by rw [hg]; exact (below_size (by repeat (first | (with_reducible first | exact HB.out | apply Al_ | apply Dn_ | apply D1_) | exact HB.out))) : w.heap.size ≤ gb324)); have n3_ := A0_ ((by rw [hg]; exact (below_size (by repeat (first | (with_reducible first | exact HB.out | apply Al_ | apply Dn_ | apply D1_) | exact HB.out))) : w.heap.size ≤ gb324)); clear HB; have HB := n0_; have BK324 := n1_; have GW324 := n2_; have GE324 := n3_; clear n0_ n1_ n2_ n3_ hb hbox hg; have hcz9_0 : w8.cell? ⟨gb324, 0, none⟩ = some (.int .i64 a0_0) := (Bc_ BK324.out 0).trans rfl; have hcz9_1 : w8.cell? ⟨gb324, 1, none⟩ = some (.int .i64 a0_1) := (Bc_ BK324.out 1).trans rfl; have hfz9_0 := Bf_ BK324.out 0; have hfz9_1 := Bf_ BK324.out 1))
   go_ret3
   exact ⟨by first | rfl | (simp [errW_none, errW_some] <;> rfl) | (simp only [← hji5, ← hji7]; first | rfl | (simp [errW_none, errW_some] <;> rfl)) | (simp [*, errW_none, errW_some] <;> rfl), by repeat (first | (with_reducible first | exact HB.out | apply Al_ | apply Dn_ | apply D1_ | refine Bs_ ?_ GE324.out) | exact HB.out)⟩
  ·
   rw [if_neg c6] at H
   have c6b0 : decide (a0_0 < 0) = false := decide_eq_false c6
   clear c6
   by_cases c10 : a0_1 < (wrap64 (4096 - a0_0))
   ·
    rw [if_pos c10] at H
    have c10b0 : decide (a0_1 < (wrap64 (4096 - a0_0))) = true := decide_eq_true c10
    clear c10
    obtain ⟨ji11, hji11⟩ : ∃ j_ : Int, (mn (wrap64 (a0_0 + a0_1)) 4096) = j_ := ⟨_, rfl⟩
    replace H : (some (ji5, ji11, decide ((ji5) < (ji11)))) = some (r1, r2, r3) := by first | (rw [hji11] at H; exact H) | (simp only [hji11] at H ⊢; exact H)
    (try (have hji11h : ji11 ≤ 4096 := by (rw [← hji11]; unfold mn; (repeat' split) <;> omega)))
    (try (have hji11g : ji11 ≤ 64 := by omega))
    have hji11_ : (if 4096 < (wrap64 (a0_0 + a0_1)) then 4096 else (wrap64 (a0_0 + a0_1))) = ji11 := hji11
    simp only [Option.some.injEq, Prod.mk.injEq] at H
    obtain ⟨rfl, rfl, rfl⟩ := H
    go_enter Tryd.func87, Tryd.ntmps87
    go_wp2_with (first | ((with_reducible refine gate_dst (N := 1) rfl ?_); refine box_event ?hg (N := 1) ?hd (cs := #[.int .i64 a0_0, .int .i64 a0_1]) (t := 49) ?hr ?_; (case hd => rfl); (case hg => rfl); (case hr => first | (go_simp; done) | (go_simp; rfl)); intro gb324 hg w12 hbox hb; have n0_ := A0_ (below_step (by repeat (first | (with_reducible first | exact HB.out | apply Al_ | apply Dn_ | apply D1_) | exact HB.out)) hb); have n1_ := A0_ (hbox); have n2_ := A0_ ((by rw [hg]; exact (below_size (by repeat (first | (with_reducible first | exact HB.out | apply Al_ | apply Dn_ | apply D1_) | exact HB.out))) : w.heap.size ≤ gb324)); have n3_ := A0_ ((by rw [hg]; exact (below_size (by repeat (first | (with_reducible first | exact HB.out | apply Al_ | apply Dn_ | apply D1_) | exact HB.out))) : w.heap.size ≤ gb324)); clear HB; have HB := n0_; have BK324 := n1_; have GW324 := n2_; have GE324 := n3_; clear n0_ n1_ n2_ n3_ hb hbox hg; have hcz13_0 : w12.cell? ⟨gb324, 0, none⟩ = some (.int .i64 a0_0) := (Bc_ BK324.out 0).trans rfl; have hcz13_1 : w12.cell? ⟨gb324, 1, none⟩ = some (.int .i64 a0_1) := (Bc_ BK324.out 1).trans rfl; have hfz13_0 := Bf_ BK324.out 0; have hfz13_1 := Bf_ BK324.out 1))
    go_ret3
    exact ⟨by first | rfl | (simp [errW_none, errW_some] <;> rfl) | (simp only [← hji5, ← hji11]; first | rfl | (simp [errW_none, errW_some] <;> rfl)) | (simp [*, errW_none, errW_some] <;> rfl), by repeat (first | (with_reducible first | exact HB.out | apply Al_ | apply Dn_ | apply D1_ | refine Bs_ ?_ GE324.out) | exact HB.out)⟩
   ·
    rw [if_neg c10] at H
    have c10b0 : decide (a0_1 < (wrap64 (4096 - a0_0))) = false := decide_eq_false c10
    clear c10
    simp only [Option.some.injEq, Prod.mk.injEq] at H
    obtain ⟨rfl, rfl, rfl⟩ := H
    go_enter Tryd.func87, Tryd.ntmps87
    go_wp2_with (first | ((with_reducible refine gate_dst (N := 1) rfl ?_); refine box_event ?hg (N := 1) ?hd (cs := #[.int .i64 a0_0, .int .i64 a0_1]) (t := 49) ?hr ?_; (case hd => rfl); (case hg => rfl); (case hr => first | (go_simp; done) | (go_simp; rfl)); intro gb324 hg w14 hbox hb; have n0_ := A0_ (below_step (by repeat (first | (with_reducible first | exact HB.out | apply Al_ | apply Dn_ | apply D1_) | exact HB.out)) hb); have n1_ := A0_ (hbox); have n2_ := A0_ ((by rw [hg]; exact (below_size (by repeat (first | (with_reducible first | exact HB.out | apply Al_ | apply Dn_ | apply D1_) | exact HB.out))) : w.heap.size ≤ gb324)); have n3_ := A0_ ((by rw [hg]; exact (below_size (by repeat (first | (with_reducible first | exact HB.out | apply Al_ | apply Dn_ | apply D1_) | exact HB.out))) : w.heap.size ≤ gb324)); clear HB; have HB := n0_; have BK324 := n1_; have GW324 := n2_; have GE324 := n3_; clear n0_ n1_ n2_ n3_ hb hbox hg; have hcz15_0 : w14.cell? ⟨gb324, 0, none⟩ = some (.int .i64 a0_0) := (Bc_ BK324.out 0).trans rfl; have hcz15_1 : w14.cell? ⟨gb324, 1, none⟩ = some (.int .i64 a0_1) := (Bc_ BK324.out 1).trans rfl; have hfz15_0 := Bf_ BK324.out 0; have hfz15_1 := Bf_ BK324.out 1))
    go_ret3
    exact ⟨by first | rfl | (simp [errW_none, errW_some] <;> rfl) | (simp only [← hji5]; first | rfl | (simp [errW_none, errW_some] <;> rfl)) | (simp [*, errW_none, errW_some] <;> rfl), by repeat (first | (with_reducible first | exact HB.out | apply Al_ | apply Dn_ | apply D1_ | refine Bs_ ?_ GE324.out) | exact HB.out)⟩
end Go.Proofs.YtnjbdcnefienhaaDoor.P

namespace Go.Proofs.YtnjbdcnefienhaaDoor.P.X
open Go.Proofs.YtnjbdcnefienhaaDoor.P Go.RowKit Go.Proofs.YtnjbdcnefienhaaDoorW.PrintWords Go.Proofs.YtnjbdcnefienhaaDoorW.PrintLast Go.Proofs.YtnjbdcnefienhaaDoorW.PrintMore
theorem blk_of_below {W W' : World} {g : Nat} {o : Obj} (h : W.heap[g]? = some o) (hb : Below W.heap.size W W') : W'.heap[g]? = some o :=
  (hb.block g (Array.getElem?_eq_some_iff.1 h).1).trans h
theorem new4 (w : World) (o0 o1 o2 o3 : Obj) : ∃ W, (((w.alloc o0).alloc o1).alloc o2).alloc o3 = W ∧ Below w.heap.size w W ∧ W.heap.size = w.heap.size + 1 + 1 + 1 + 1 ∧
    W.heap[w.heap.size]? = some o0 ∧ W.heap[w.heap.size + 1]? = some o1 ∧ W.heap[w.heap.size + 1 + 1]? = some o2 ∧ W.heap[w.heap.size + 1 + 1 + 1]? = some o3 := by
  have a : ∀ (W : World) (o : Obj) (k : Nat) (x : Obj), W.heap[k]? = some x → (W.alloc o).heap[k]? = some x := fun W o k x h => (Below.heap_alloc W o k (Array.getElem?_eq_some_iff.1 h).1).trans h
  have n : ∀ (W : World) (o : Obj) (k : Nat), W.heap.size = k → (W.alloc o).heap[k]? = some o := fun W o k h => by rw [← h]; exact heap_alloc_new W o
  refine ⟨_, rfl, below_alloc (below_alloc (below_alloc (below_alloc (Below.refl _ _) _) _) _) _, by simp, ?_, ?_, ?_, ?_⟩
  · exact a _ _ _ _ (a _ _ _ _ (a _ _ _ _ (n _ _ _ rfl)))
  · exact a _ _ _ _ (a _ _ _ _ (n _ _ _ (by simp)))
  · exact a _ _ _ _ (n _ _ _ (by simp))
  · exact n _ _ _ (by simp)
theorem cells2 {W : World} {g : Nat} {a b : Value} {t : TypeId} (h : W.heap[g]? = some (.cells #[a, b] t (0, 0))) : W.cell? ⟨g, 0, none⟩ = some a ∧ W.cell? ⟨g, 1, none⟩ = some b ∧ W.frozen? ⟨g, 0, none⟩ = false ∧ W.frozen? ⟨g, 1, none⟩ = false :=
  ⟨(blk_cell h 0).trans rfl, (blk_cell h 1).trans rfl, blk_frozen h 0, blk_frozen h 1⟩
theorem new3 (w : World) (o0 o1 o2 : Obj) : ∃ W, ((w.alloc o0).alloc o1).alloc o2 = W ∧ Below w.heap.size w W ∧ W.heap.size = w.heap.size + 1 + 1 + 1 ∧
    W.heap[w.heap.size]? = some o0 ∧ W.heap[w.heap.size + 1]? = some o1 ∧ W.heap[w.heap.size + 1 + 1]? = some o2 := by
  have a : ∀ (W : World) (o : Obj) (k : Nat) (x : Obj), W.heap[k]? = some x → (W.alloc o).heap[k]? = some x := fun W o k x h => (Below.heap_alloc W o k (Array.getElem?_eq_some_iff.1 h).1).trans h
  have n : ∀ (W : World) (o : Obj) (k : Nat), W.heap.size = k → (W.alloc o).heap[k]? = some o := fun W o k h => by rw [← h]; exact heap_alloc_new W o
  refine ⟨_, rfl, below_alloc (below_alloc (below_alloc (Below.refl _ _) _) _) _, by simp, ?_, ?_, ?_⟩
  · exact a _ _ _ _ (a _ _ _ _ (n _ _ _ rfl))
  · exact a _ _ _ _ (n _ _ _ (by simp))
  · exact n _ _ _ (by simp)
theorem row_ne {W : World} {B : Nat} {t e : TypeId} {cs : Array Value} (h : W.heap[B]? = some (.cells cs t (0, 0))) (hte : t ≠ e) {base size k : Nat} {v : Value} {xs : List Value} (hr : W.ownsRow base e size v k xs) : some B ≠ v.ownBlock := by
  rcases hr.2 with ⟨rfl, _⟩ | ⟨g, cap, cur, rfl, _, hgb, _⟩
  · simp [Value.ownBlock]
  · intro e'
    obtain rfl : B = g := by simpa [Value.ownBlock] using e'
    have := h.symm.trans hgb
    simp at this
    exact hte this.2
def KpE (n₀ B1 B2 : Nat) (X Y : World) : Prop := Below n₀ X Y ∧ Y.heap[B1]? = X.heap[B1]? ∧ Y.heap[B2]? = X.heap[B2]?
theorem KpE.trans {n₀ B1 B2 : Nat} {X Y Z : World} (h : KpE n₀ B1 B2 X Y) (k : KpE n₀ B1 B2 Y Z) : KpE n₀ B1 B2 X Z := ⟨h.1.trans k.1, k.2.1.trans h.2.1, k.2.2.trans h.2.2⟩
theorem KpE.putObj {n₀ B1 B2 : Nat} {w : World} (hn : n₀ ≤ w.heap.size) (h1 : B1 < w.heap.size) (h2 : B2 < w.heap.size) (W : World) (l : Nat) (o o' : Obj) (hl : w.heap.size ≤ l) (h : W.heap[l]? = some o) (hc : o.isCells = false) (hw : o.isWalk = false) : KpE n₀ B1 B2 W (W.putObj l o') :=
  ⟨belowK_b hn W l o o' hl h hc hw, World.putObj_heap_other (by omega), World.putObj_heap_other (by omega)⟩
theorem row_cell {W : World} {base : Nat} {e : TypeId} {size : Nat} {g n cap k : Nat} {xs : List Value} (h : W.ownsRow base e size (.slice (some ⟨g, 0, none⟩) n cap) k xs) {j : Nat} {u : Value} (hx : xs[j]? = some u) :
    W.cell? ⟨g, j, none⟩ = some u ∧ W.frozen? ⟨g, j, none⟩ = false := by
  have := h.cells (g := g) rfl j u hx
  rw [add_plain] at this
  refine ⟨this, ?_⟩
  rcases h.2 with ⟨h1, _⟩ | ⟨g', cap', cur, h1, _, hg, _⟩
  · cases h1
  · injection h1 with h1 _ _
    injection h1 with h1
    injection h1 with h1 _ _
    subst h1
    simp [World.frozen?, hg]
theorem row_set {W : World} {base : Nat} {e : TypeId} {size : Nat} {g n cap k : Nat} {xs : List Value} (h : W.ownsRow base e size (.slice (some ⟨g, 0, none⟩) n cap) k xs) {j : Nat} (_hj : j < xs.length) (u : Value) :
    (W.setCell ⟨g, j, none⟩ u).ownsRow base e size (.slice (some ⟨g, 0, none⟩) n cap) k (xs.set j u) := by
  refine ⟨by simpa using h.1, ?_⟩
  rcases h.2 with ⟨h1, _⟩ | ⟨g', cap', cur, h1, hb, hg, hle, hm, hs, ht⟩
  · cases h1
  · injection h1 with h1 h2 h3
    injection h1 with h1
    injection h1 with h1 _ _
    subst h1 h2 h3
    refine .inr ⟨g, cap, cur.set! j u, rfl, hb, ?_, hle, hm, by simp [hs], ?_⟩
    · have hl := (Array.getElem?_eq_some_iff.1 hg).1
      unfold World.setCell
      have hget := (Array.getElem?_eq_some_iff.1 hg).2
      simp only [Array.getElem?_modify, if_pos trivial]
      rw [hg]
      simp
    · simp only [Array.set!_eq_setIfInBounds, Array.toList_setIfInBounds]
      rw [List.take_set, ht]
end Go.Proofs.YtnjbdcnefienhaaDoor.P.X

namespace Go.Proofs.YtnjbdcnefienhaaDoor.P.X
open Go.Proofs.YtnjbdcnefienhaaDoor.P Go.RowKit Go.Proofs.YtnjbdcnefienhaaDoorW.PrintWords Go.Proofs.YtnjbdcnefienhaaDoorW.PrintLast Go.Proofs.YtnjbdcnefienhaaDoorW.PrintMore
def wI (e : S49) : Int × Int × Bool := (xwithin.f e.f0 e.f1).getD (0, 0, false)
theorem wI_eq (a b : Int) : xwithin.f a b = some (wI ⟨a, b⟩) := by
  unfold wI
  suffices h : ∃ r, xwithin.f a b = some r by
    obtain ⟨r, h⟩ := h
    simp only
    rw [h]; rfl
  unfold xwithin.f
  repeat' split
  all_goals exact ⟨_, rfl⟩
def inE (e : S49) (j : Int) : Bool := (wI e).2.2 && decide ((wI e).1 ≤ j ∧ j < (wI e).2.1)
def inL (l : List S49) (j : Int) : Bool := l.any fun e => inE e j
def endsE (i : Int) (e : S49) : List (Int × Int × Int) := if (wI e).2.2 then [((wI e).1, i, 1), ((wI e).2.1, i, -1)] else []
def endsOf (i : Int) (l : List S49) : List (Int × Int × Int) := l.flatMap (endsE i)
theorem endsOf_length (i : Int) (l : List S49) : (endsOf i l).length ≤ 2 * l.length := by
  induction l with
  | nil => simp [endsOf]
  | cons e l ih =>
    unfold endsOf at ih ⊢
    rw [List.flatMap_cons, List.length_append, List.length_cons]
    have : (endsE i e).length ≤ 2 := by unfold endsE; split <;> simp
    omega
theorem endsOf_snoc (i : Int) (l : List S49) (e : S49) : endsOf i (l ++ [e]) = endsOf i l ++ endsE i e := by simp [endsOf]
def canon (p : Nat → Bool) : List S49 := (((List.range 4096).filter p).map fun (b : Nat) => (b : Int)).foldl joinE []
attribute [irreducible] canon
def opX (f : Bool → Bool → Bool) (a b : List S49) : Option (List S49) := if a.length + b.length ≤ 100000 then some (canon fun j => f (inL a j) (inL b j)) else none
end Go.Proofs.YtnjbdcnefienhaaDoor.P.X
namespace Go.Proofs.YtnjbdcnefienhaaDoor.P
def xUnion.f (a b : List S49) : Option (List S49) := X.opX (fun x y => x || y) a b
end Go.Proofs.YtnjbdcnefienhaaDoor.P

namespace Go.Proofs.YtnjbdcnefienhaaDoor.P
open Go.Shelf
def sortEnd_ren : Go.Shelf.Ren := ⟨fun | 6 => 88 | 15 => 92 | 14 => 91 | 28 => 102 | 29 => 103 | 20 => 94 | 21 => 95 | 22 => 96 | 23 => 97 | 24 => 98 | 25 => 99 | 26 => 100 | 27 => 101 | 46 => 104 | 47 => 105 | 48 => 106 | 49 => 107 | 50 => 108 | 57 => 109 | n => n, fun | 22 => 131 | 24 => 135 | 25 => 141 | 3 => 3 | 39 => 120 | 0 => 0 | 53 => 153 | 55 => 90 | 4 => 4 | 46 => 146 | 45 => 145 | 50 => 150 | 5 => 5 | 9 => 9 | 66 => 154 | 70 => 158 | 76 => 160 | 77 => 161 | n => n, fun | n => n⟩
theorem sortEnd : Go.Proofs.SlLaysF0.n6 Tryd.prog sortEnd_ren := {
  mixed := by kernel_rfl
  f6 := ⟨Tryd.f88.name, by decide, Tryd.func88.trans (congrArg some (by kernel_rfl))⟩
  f14 := ⟨Tryd.f91.name, by decide, Tryd.func91.trans (congrArg some (by kernel_rfl))⟩
  f15 := Tryd.func92.trans (congrArg some (by kernel_rfl))
  f20 := ⟨Tryd.f94.name, by decide, Tryd.func94.trans (congrArg some (by kernel_rfl))⟩
  f21 := ⟨Tryd.f95.name, by decide, Tryd.func95.trans (congrArg some (by kernel_rfl))⟩
  f22 := ⟨Tryd.f96.name, by decide, Tryd.func96.trans (congrArg some (by kernel_rfl))⟩
  f23 := ⟨Tryd.f97.name, by decide, Tryd.func97.trans (congrArg some (by kernel_rfl))⟩
  f24 := ⟨Tryd.f98.name, by decide, Tryd.func98.trans (congrArg some (by kernel_rfl))⟩
  f25 := ⟨Tryd.f99.name, by decide, Tryd.func99.trans (congrArg some (by kernel_rfl))⟩
  f26 := ⟨Tryd.f100.name, by decide, Tryd.func100.trans (congrArg some (by kernel_rfl))⟩
  f27 := ⟨Tryd.f101.name, by decide, Tryd.func101.trans (congrArg some (by kernel_rfl))⟩
  f28 := Tryd.func102.trans (congrArg some (by kernel_rfl))
  f29 := Tryd.func103.trans (congrArg some (by kernel_rfl))
  f46 := ⟨Tryd.f104.name, by decide, Tryd.func104.trans (congrArg some (by kernel_rfl))⟩
  f47 := Tryd.func105.trans (congrArg some (by kernel_rfl))
  f48 := Tryd.func106.trans (congrArg some (by kernel_rfl))
  f49 := ⟨Tryd.f107.name, by decide, Tryd.func107.trans (congrArg some (by kernel_rfl))⟩
  f50 := ⟨Tryd.f108.name, by decide, Tryd.func108.trans (congrArg some (by kernel_rfl))⟩
  f57 := ⟨Tryd.f109.name, by decide, Tryd.func109.trans (congrArg some (by kernel_rfl))⟩
  t0 := Tryd.underlying0
  a0 := Tryd.isAgg0
  z0 := Tryd.sizeOf0
  v0 := Tryd.zeroValue0
  t3 := Tryd.underlying3
  a3 := Tryd.isAgg3
  z3 := Tryd.sizeOf3
  v3 := Tryd.zeroValue3
  t4 := Tryd.underlying4
  a4 := Tryd.isAgg4
  z4 := Tryd.sizeOf4
  v4 := Tryd.zeroValue4
  t5 := Tryd.underlying5
  a5 := Tryd.isAgg5
  z5 := Tryd.sizeOf5
  v5 := Tryd.zeroValue5
  t9 := Tryd.underlying9
  a9 := Tryd.isAgg9
  z9 := Tryd.sizeOf9
  v9 := Tryd.zeroValue9
  t22 := Tryd.underlying131
  a22 := Tryd.isAgg131
  z22 := Tryd.sizeOf131
  v22 := Tryd.zeroValue131
  t25 := Tryd.underlying141
  a25 := Tryd.isAgg141
  z25 := Tryd.sizeOf141
  v25 := Tryd.zeroValue141
  t39 := Tryd.underlying120
  a39 := Tryd.isAgg120
  z39 := Tryd.sizeOf120
  v39 := Tryd.zeroValue120
  t45 := Tryd.underlying145
  a45 := Tryd.isAgg145
  z45 := Tryd.sizeOf145
  v45 := Tryd.zeroValue145
  t46 := Tryd.underlying146
  a46 := Tryd.isAgg146
  z46 := Tryd.sizeOf146
  v46 := Tryd.zeroValue146
  t50 := Tryd.underlying150
  a50 := Tryd.isAgg150
  z50 := Tryd.sizeOf150
  v50 := Tryd.zeroValue150
  t53 := Tryd.underlying153
  a53 := Tryd.isAgg153
  z53 := Tryd.sizeOf153
  v53 := Tryd.zeroValue153
  t55 := Tryd.underlying90
  a55 := Tryd.isAgg90
  z55 := Tryd.sizeOf90
  v55 := Tryd.zeroValue90
  t66 := Tryd.underlying154
  a66 := Tryd.isAgg154
  z66 := Tryd.sizeOf154
  v66 := Tryd.zeroValue154
  t70 := Tryd.underlying158
  a70 := Tryd.isAgg158
  z70 := Tryd.sizeOf158
  v70 := Tryd.zeroValue158
  t76 := Tryd.underlying160
  a76 := Tryd.isAgg160
  z76 := Tryd.sizeOf160
  v76 := Tryd.zeroValue160
  t77 := Tryd.underlying161
  a77 := Tryd.isAgg161
  z77 := Tryd.sizeOf161
  v77 := Tryd.zeroValue161 }
def cmpInt_ren : Go.Shelf.Ren := ⟨fun | 5 => 90 | 7 => 93 | n => n, fun | 22 => 3 | 3 => 3 | 4 => 4 | n => n, fun | n => n⟩
theorem cmpInt : Go.Proofs.SlLaysC2.n5 Tryd.prog cmpInt_ren := {
  mixed := by kernel_rfl
  f5 := ⟨Tryd.f90.name, by decide, Tryd.func90.trans (congrArg some (by kernel_rfl))⟩
  f7 := ⟨Tryd.f93.name, by decide, Tryd.func93.trans (congrArg some (by kernel_rfl))⟩
  t3 := Tryd.underlying3
  a3 := Tryd.isAgg3
  z3 := Tryd.sizeOf3
  v3 := Tryd.zeroValue3
  t4 := Tryd.underlying4
  a4 := Tryd.isAgg4
  z4 := Tryd.sizeOf4
  v4 := Tryd.zeroValue4
  t22 := Tryd.underlying3
  a22 := Tryd.isAgg3
  z22 := Tryd.sizeOf3
  v22 := Tryd.zeroValue3 }
end Go.Proofs.YtnjbdcnefienhaaDoor.P

namespace Go.Proofs.YtnjbdcnefienhaaDoor.P.X
open Go.Proofs.YtnjbdcnefienhaaDoor.P Go.RowKit Go.Shelf
def encE (x : Int × Int × Int) : List Value := [.int .i64 x.1, .int .i64 x.2.1, .int .i64 x.2.2]
def flatE (l : List (Int × Int × Int)) : List Value := l.flatMap encE
theorem flatE_append (l m : List (Int × Int × Int)) : flatE (l ++ m) = flatE l ++ flatE m := by simp [flatE]
theorem flatE_length (l : List (Int × Int × Int)) : (flatE l).length = l.length * 3 := by induction l with | nil => rfl | cons a l ih => simp [flatE, encE] at ih ⊢; omega
theorem flatE_get (l : List (Int × Int × Int)) (i j : Nat) (hi : i < l.length) (hj : j < 3) : (flatE l)[i * 3 + j]? = (encE l[i])[j]? := by
  induction l generalizing i with
  | nil => simp at hi
  | cons a l ih =>
    cases i with
    | zero =>
      rw [Nat.zero_mul, Nat.zero_add]
      show (encE a ++ flatE l)[j]? = _
      rw [List.getElem?_append_left (by simp [encE]; omega)]
      rfl
    | succ i =>
      show (encE a ++ flatE l)[(i + 1) * 3 + j]? = _
      rw [List.getElem?_append_right (by simp [encE]; omega)]
      have : (i + 1) * 3 + j - (encE a).length = i * 3 + j := by simp [encE]; omega
      rw [this, ih i (by simpa using hi)]
      simp
set_option maxHeartbeats 1000000 in
theorem cmp_ends (x y : Int × Int × Int) (W : World) : Calls Tryd.prog 89 #[.agg #[.int .i64 x.1, .int .i64 x.2.1, .int .i64 x.2.2], .agg #[.int .i64 y.1, .int .i64 y.2.1, .int .i64 y.2.2]] W fun e w' => e = .returned (.int .i64 (Lib.compareInt x.1 y.1)) ∧ ∃ q os', w' = Sort.grow (W.drewN q) os' := by
  have hcon := fun W' => AnyG.cmp_Compare_int cmpInt x.1 y.1 W'
  change ∀ W', Calls Tryd.prog 90 _ _ _ at hcon
  generalize Lib.compareInt x.1 y.1 = r at hcon ⊢
  go_enter Tryd.func89, Tryd.ntmps89
  go_wp2_with (go_at_call 90; refine (hcon _).mono ?_; rintro e w' ⟨rfl, rfl⟩)
  go_ret
  exact ⟨rfl, 0, _, by rw [Sort.alloc_eq_grow, Sort.alloc_eq_grow, Sort.grow_grow]; rfl⟩
theorem ltAt (x y : Int × Int × Int) : ltOf (fun x y : Int × Int × Int => Lib.compareInt x.1 y.1) x y = decide (x.1 < y.1) := by
  unfold ltOf Lib.compareInt
  by_cases h1 : x.1 < y.1
  · simp [h1]
  · by_cases h2 : y.1 < x.1 <;> simp [h1, h2]
theorem swoAt : Sort.SWO (ltOf fun x y : Int × Int × Int => Lib.compareInt x.1 y.1) where
  irrefl x := by rw [ltAt]; simp
  trans x y z h1 h2 := by rw [ltAt] at *; simp at *; omega
  ntrans x y z h1 h2 := by rw [ltAt] at *; simp at *; omega
theorem flatK_flatE (d : List (Int × Int × Int)) : (Sort.flatK encE 3 d.toArray) = (flatE d).toArray := by
  refine Sort.ext_get! (by simp [flatE_length]) fun t ht => ?_
  have ht' : t < d.length * 3 := by simpa using ht
  rw [Sort.get_flatK _ _ _ _ (by simpa using ht')]
  have h1 : t / 3 < d.length := by omega
  have h2 := flatE_get d (t / 3) (t % 3) h1 (by omega)
  rw [show t / 3 * 3 + t % 3 = t by omega] at h2
  have e1 : d.toArray[t / 3]! = d[t / 3] := by simp [h1]
  rw [e1]
  have h3 : t % 3 < (encE d[t / 3]).length := by simp [encE]; omega
  have h4 : t < (flatE d).length := by rw [flatE_length]; exact ht'
  rw [List.getElem?_eq_getElem h4, List.getElem?_eq_getElem h3] at h2
  simp only [Option.some.injEq] at h2
  simp [h3, h4, h2]
def EndsAt (w : World) (g : Nat) (d : List (Int × Int × Int)) : Prop := ∀ j u, (flatE d)[j]? = some u → w.cell? ⟨g, j, none⟩ = some u ∧ w.frozen? ⟨g, j, none⟩ = false
theorem holds_ends {w : World} {g : Nat} {d : List (Int × Int × Int)} : Sort.HoldsK encE 3 w g 0 d.toArray ↔ EndsAt w g d := by
  unfold Sort.HoldsK Sort.Holds EndsAt
  rw [flatK_flatE]
  constructor
  · intro h j u hu
    have hj := (List.getElem?_eq_some_iff.1 hu).1
    have := h j (by simpa using hj)
    have e : (flatE d).toArray[j]! = u := by
      rw [List.getElem?_eq_getElem hj] at hu
      simp only [Option.some.injEq] at hu
      simp [hj, hu]
    rw [e, Nat.zero_add] at this
    exact this
  · intro h j hj
    have hj' : j < (flatE d).length := by simpa using hj
    have := h j _ (List.getElem?_eq_getElem hj')
    rw [Nat.zero_add]
    simpa [hj'] using this
theorem perm_of {d d' : Array (Int × Int × Int)} (h : Sort.PermIn 0 d.size d d') : d'.toList.Perm d.toList := by
  obtain ⟨h1, _, h3⟩ := h
  have e1 : d'.extract 0 d.size = d' := by rw [← h1]; simp
  have e2 : d.extract 0 d.size = d := by simp
  rw [e1, e2] at h3
  exact h3
theorem heap_mapBlock (w : World) (g k : Nat) (f : Array Value → Array Value) (h : k ≠ g) : (Sort.mapBlock w g f).heap[k]? = w.heap[k]? := by
  simp [Sort.mapBlock, Array.getElem?_modify, Ne.symm h]
theorem typed_mapBlock (w : World) (g : Nat) (f : Array Value → Array Value) {cs : Array Value} {t : TypeId} (h : w.heap[g]? = some (.cells cs t (0, 0))) : ∃ cs, (Sort.mapBlock w g f).heap[g]? = some (.cells cs t (0, 0)) := by
  refine ⟨f cs, ?_⟩
  unfold Sort.mapBlock
  simp only [Array.getElem?_modify, if_pos trivial]
  rw [h]
  rfl
theorem sort_ends (g cap : Nat) (d : List (Int × Int × Int)) (w : World) (hH : EndsAt w g d) (hg : g < w.heap.size) (cs : Array Value) (hT : w.heap[g]? = some (.cells cs 135 (0, 0))) (hs : d.length < 4611686018427387904) :
    Calls Tryd.prog 88 #[.slice (some ⟨g, 0, none⟩) d.length cap, .func (.func 89) #[] #[]] w fun e w' => e = .returned (.tuple #[]) ∧
      ∃ d', List.Perm d' d ∧ d'.Pairwise (fun x y => x.1 ≤ y.1) ∧ EndsAt w' g d' ∧ (∃ cs, w'.heap[g]? = some (.cells cs 135 (0, 0))) ∧ (∀ k, k < w.heap.size → k ≠ g → w'.heap[k]? = w.heap[k]?) ∧ w.heap.size ≤ w'.heap.size ∧ w'.os = w.os ∧ w'.tape = w.tape ∧ w'.output = w.output := by
  have eg : ∀ args w, (callFunc 89 args).run Tryd.prog w = .ok (.enter 89 args) w := enters_of Tryd.func89 (by kernel_rfl) rfl
  have hcon := AnyQ.slices_SortFunc sortEnd 3 Tryd.isAgg135 Tryd.sizeOf135 encE (fun _ => rfl) (fun x v hv => by simp [encE] at hv; rcases hv with rfl | rfl | rfl <;> rfl) (fun x y => Lib.compareInt x.1 y.1) swoAt 89 #[] g 0 cap d.toArray w eg
    (fun _ _ _ _ x y => cmp_ends x y _) (holds_ends.2 hH) hg (by simpa using hs)
  refine hcon.mono ?_
  rintro e w' ⟨rfl, d', n, os, hp, hso, rfl⟩
  have hl := perm_of hp
  have hsz : d'.size = d.length := hp.1.trans (by simp)
  have hW : ∀ k, k < w.heap.size → k ≠ g → (sortWorldK encE 3 w g 0 n d' os).heap[k]? = w.heap[k]? := fun k hk hne => by
    unfold sortWorldK
    rw [Sort.heap_grow_old _ _ (by simpa [Sort.putRowK] using hk)]
    unfold Sort.putRowK Sort.putRow
    rw [heap_mapBlock _ _ _ _ hne]
    rfl
  refine ⟨rfl, d'.toList, hl, ?_, ?_, ?_, hW, ?_, rfl, rfl, rfl⟩
  · rw [List.pairwise_iff_getElem]
    intro i j hi hj hij
    have := hso i j (Nat.zero_le _) hij (by simpa using (show j < d.length by rw [← hsz]; simpa using hj))
    rw [ltAt, decide_eq_false_iff_not] at this
    have e1 : d'[i]! = d'.toList[i] := by simp [show i < d'.size by simpa using hi]
    have e2 : d'[j]! = d'.toList[j] := by simp [show j < d'.size by simpa using hj]
    rw [e1, e2] at this
    omega
  · rw [← holds_ends]
    unfold sortWorldK
    refine Sort.holdsK_grow (enc := encE) (k := 3) _ _ _ _ _ (by simpa [Sort.putRowK] using hg) ?_
    have h0 : Sort.Holds id (Sort.ahead w n) g 0 (Sort.flatK encE 3 d.toArray) := Sort.holdsK_ahead (enc := encE) (k := 3) w n g 0 d.toArray (holds_ends.2 hH)
    exact Sort.holds_putRow id _ g 0 _ _ h0 (by simp [hsz])
  · unfold sortWorldK
    rw [Sort.heap_grow_old _ _ (by simpa [Sort.putRowK] using hg)]
    unfold Sort.putRowK Sort.putRow
    exact typed_mapBlock _ _ _ hT
  · unfold sortWorldK
    rw [Sort.size_grow]
    simp [Sort.putRowK]
def EndsV (w : World) (base : Nat) (v : Value) (d : List (Int × Int × Int)) : Prop := ∃ A c, v = .slice A d.length c ∧ d.length ≤ c ∧ (0 < d.length → ∃ g, A = some ⟨g, 0, none⟩ ∧ base ≤ g ∧ g < w.heap.size ∧ EndsAt w g d ∧ ∃ cs, w.heap[g]? = some (.cells cs 135 (0, 0)))
theorem sort_row (base : Nat) (v : Value) (d : List (Int × Int × Int)) (w : World) (ho : w.ownsRow base 135 3 v d.length (flatE d)) (hb : base ≤ w.heap.size) (hs : d.length < 4611686018427387904) :
    Calls Tryd.prog 88 #[v, .func (.func 89) #[] #[]] w fun e w' => e = .returned (.tuple #[]) ∧ ∃ d', List.Perm d' d ∧ d'.Pairwise (fun x y => x.1 ≤ y.1) ∧ EndsV w' base v d' ∧ Below base w w' := by
  obtain ⟨A, c, rfl⟩ := Go.Proofs.YtnjbdcnefienhaaDoorW.PrintWords.own_slice ho
  rcases Nat.eq_zero_or_pos d.length with h0 | hp
  · have hd : d = [] := List.eq_nil_of_length_eq_zero h0
    subst hd
    have hcon := AnyF.slices_SortFunc_none sortEnd A c (.func (.func 89) #[] #[]) w
    refine hcon.mono ?_
    rintro e w' ⟨rfl, rfl⟩
    exact ⟨rfl, [], List.Perm.refl _, List.Pairwise.nil, ⟨A, c, rfl, Nat.zero_le _, fun h => by simp at h⟩, Below.refl _ _⟩
  · obtain ⟨g, cap, cur, hv, hbg, hgb, hle, hm, hsz, ht⟩ : ∃ g cap cur, Value.slice A d.length c = .slice (some ⟨g, 0, none⟩) d.length cap ∧ base ≤ g ∧ w.heap[g]? = some (.cells cur 135 (0, 0)) ∧ d.length ≤ cap ∧ cap ≤ maxLen ∧ cur.size = cap * 3 ∧ cur.toList.take (d.length * 3) = flatE d := by
      rcases ho.2 with ⟨h1, h2⟩ | h
      · omega
      · exact h
    rw [hv] at ho ⊢
    have hg := (Array.getElem?_eq_some_iff.1 hgb).1
    refine (sort_ends g cap d w (fun j u hu => row_cell ho hu) hg cur hgb hs).mono ?_
    rintro e w' ⟨rfl, d', hp', hso, hE, hT, hk, hsz', h1, h2, h3⟩
    have hl : d'.length = d.length := hp'.length_eq
    refine ⟨rfl, d', hp', hso, ⟨some ⟨g, 0, none⟩, cap, by rw [hl], by omega, fun _ => ⟨g, rfl, hbg, by omega, hE, hT⟩⟩, ⟨h1, h2, h3, hsz', fun k hk' => ?_⟩⟩
    exact hk k (by omega) (by omega)
end Go.Proofs.YtnjbdcnefienhaaDoor.P.X

namespace Go.Proofs.YtnjbdcnefienhaaDoor.P.X
open Go.Proofs.YtnjbdcnefienhaaDoor.P Go.RowKit Go.Proofs.YtnjbdcnefienhaaDoorW.PrintWords Go.Proofs.YtnjbdcnefienhaaDoorW.PrintLast Go.Proofs.YtnjbdcnefienhaaDoorW.PrintMore
attribute [local go_sem] max2_int min2_int max_two min_two max_three min_three max_four min_four
theorem read_ext {w : World} {A : Option Addr} {xs : List S49} (h : Kd.C k49 w A xs.length xs) {k : Nat} (hk : k < xs.length) : ∃ ad, A = some ad ∧ w.cell? (ad.add (k * 2)) = some (.int .i64 xs[k].f0) ∧ w.cell? ⟨(ad.add (k * 2)).block, (ad.add (k * 2)).off + 1, none⟩ = some (.int .i64 xs[k].f1) := by
  obtain ⟨ad, e, h⟩ := h.2.2 (by omega)
  obtain ⟨cs, hl, hk', hcell⟩ := h k _ (List.getElem?_eq_getElem hk)
  have hcs := k49_open hk'
  subst hcs
  exact ⟨ad, e, hcell 0 _ rfl, by rw [← add_field _ _ 1 (by omega)]; exact hcell 1 _ rfl⟩
theorem infoEnd : (Tryd.prog.info? 135).map (fun i => (i.zero, i.size, i.bytes)) = some (some (.agg #[.int .i64 0, .int .i64 0, .int .i64 0]), 3, 24) := by kernel_rfl
theorem cells_six_new (W : World) (a b c d e f : Value) (t : TypeId) : ∀ j u, ([a, b, c, d, e, f] : List Value)[j]? = some u → (W.alloc (.cells #[a, b, c, d, e, f] t)).cell? ((⟨W.heap.size, 0, none⟩ : Addr).add j) = some u := by
  intro j u hj
  rw [add_plain]
  have h := blk_cell (heap_alloc_new W (.cells #[a, b, c, d, e, f] t)) j
  rw [h]
  simpa using hj
set_option maxHeartbeats 8000000 in
set_option maxRecDepth 100000 in
theorem ends_row (g : Nat) (A0 A1 : Option Addr) (c0 c1 : Nat) (l0 l1 : List S49) (w : World) (hb : w.heap[g]? = some (.cells #[.slice A0 l0.length c0, .slice A1 l1.length c1] 56 (0, 0)))
    (hr0 : Kd.C k49 w A0 l0.length l0) (hc0 : l0.length ≤ c0) (hr1 : Kd.C k49 w A1 l1.length l1) (hc1 : l1.length ≤ c1) (hN : l0.length + l1.length ≤ 100000) :
    Calls Tryd.prog 86 #[.slice (some ⟨g, 0, none⟩) 2 2] w fun e w' => ∃ v d, e = .returned v ∧ EndsV w' w.heap.size v d ∧ List.Perm d (endsOf 0 l0 ++ endsOf 1 l1) ∧ d.Pairwise (fun x y => x.1 ≤ y.1) ∧ Below w.heap.size w w' := by
  obtain ⟨i0, hi, hz0, hz1, hz2⟩ := info_parts infoEnd
  obtain ⟨L, hL⟩ : ∃ L : Nat → List S49, L = fun k => if k = 0 then l0 else l1 := ⟨_, rfl⟩
  have HL0 : Aside0 (L 0 = l0 ∧ L 1 = l1) := ⟨by rw [hL]; exact ⟨rfl, rfl⟩⟩
  have HLN : Aside0 ((L 0).length + (L 1).length ≤ 100000) := ⟨by rw [HL0.out.1, HL0.out.2]; exact hN⟩
  have HC : Aside0 (∀ k, k < 2 → ∃ A c, w.cell? ⟨g, k, none⟩ = some (.slice A (L k).length c) ∧ (L k).length ≤ c ∧ Kd.C k49 w A (L k).length (L k)) := ⟨fun k hk => by
    obtain ⟨q0, q1, -, -⟩ := cells2 hb
    rcases (show k = 0 ∨ k = 1 by omega) with rfl | rfl
    · rw [HL0.out.1]; exact ⟨A0, c0, q0, hc0, hr0⟩
    · rw [HL0.out.2]; exact ⟨A1, c1, q1, hc1, hr1⟩⟩
  have HG := Aside0.mk (Array.getElem?_eq_some_iff.1 hb).1
  clear hL hb hr0 hc0 hr1 hc1 hN
  go_enter Tryd.func86, Tryd.ntmps86
  go_wp2_with fail
  go_loopw [3, 13] (fun v i wr => ∃ k : Nat, k ≤ 2 ∧ i = .int .i64 k ∧ wr.ownsRow w.heap.size 135 3 v ((List.range k).flatMap fun (q : Nat) => endsOf q (L q)).length (flatE ((List.range k).flatMap fun (q : Nat) => endsOf q (L q))) ∧ Below w.heap.size w wr)
    (fun _ i _ => 2 - (intOf i).toNat)
  case atStart => exact ⟨0, by omega, rfl, own_nil _ _ _ _, Below.refl _ _⟩
  case round =>
    obtain ⟨k, hk, rfl, ho, hbw⟩ := hrel
    by_cases hlt : k < 2
    · obtain ⟨A, c, hcell0, hlc, hC0⟩ := HC.out k hlt
      have hcell := pw_cell_below hbw hcell0
      have HCR := Aside0.mk hC0
      have HLC := Aside0.mk hlc
      have HO := Aside0.mk ho
      have HB := Aside0.mk hbw
      have HLL : Aside0 ((L k).length ≤ 100000) := ⟨by
        have := HLN.out
        rcases (show k = 0 ∨ k = 1 by omega) with rfl | rfl <;> omega⟩
      clear ho hbw hC0 hcell0 hlc
      have hdk : decide ((k : Int) < 2) = true := by rw [decide_eq_true_iff]; omega
      go_wp2_with fail
      clear hdk
      go_loopw [3, 20] (fun v2 i2 wi => ∃ j : Nat, j ≤ (L k).length ∧ i2 = .int .i64 j ∧ wi.ownsRow w.heap.size 135 3 v2 (((List.range k).flatMap fun (q : Nat) => endsOf q (L q)) ++ endsOf k ((L k).take j)).length (flatE (((List.range k).flatMap fun (q : Nat) => endsOf q (L q)) ++ endsOf k ((L k).take j))) ∧ Below w.heap.size w wi)
        (fun _ i2 _ => (L k).length - (intOf i2).toNat)
      case atStart => exact ⟨0, Nat.zero_le _, rfl, by simpa [endsOf] using HO.out, HB.out⟩
      case round =>
        obtain ⟨j, hj, rfl, ho, hbw⟩ := hrel
        by_cases hjl : j < (L k).length
        · obtain ⟨ad, hA, q0, q1⟩ := read_ext (Kd.C_below HCR.out hbw) hjl
          subst hA
          obtain ⟨e, he⟩ : ∃ e, e = (L k)[j] := ⟨_, rfl⟩
          rw [← he] at q0 q1
          have HE := Aside0.mk he
          have HOI := Aside0.mk ho
          have HBI := Aside0.mk hbw
          clear he ho hbw
          obtain ⟨p, q, ok, hwi⟩ : ∃ p q ok, wI e = (p, q, ok) := ⟨_, _, _, rfl⟩
          have HWI := Aside0.mk hwi
          have hj5 : j < 100000 := by have := HLL.out; omega
          have hwj : wrap64 ((j : Int) + 1) = ((j + 1 : Nat) : Int) := by rw [w64 _ (by omega) (by omega)]; rfl
          have HWJ := Aside0.mk hwj
          clear hwj
          have hcall : xwithin.f e.f0 e.f1 = some (p, q, ok) := (wI_eq _ _).trans (congrArg some hwi)
          have HCALL := Aside0.mk hcall
          have hlen := endsOf_length k ((L k).take j)
          have HTK : Aside0 (endsOf k ((L k).take (j + 1)) = endsOf k ((L k).take j) ++ endsE k e) := ⟨by
            rw [List.take_succ_eq_append_getElem hjl, endsOf_snoc, HE.out]⟩
          clear hwi hcall
          generalize hD : ((List.range k).flatMap fun (q : Nat) => endsOf q (L q)) ++ endsOf k ((L k).take j) = D at HOI
          have HD := Aside0.mk hD
          have hDN : D.length < 1000000 := by
            have hLL := HLL.out
            have h1 : ((L k).take j).length ≤ (L k).length := by rw [List.length_take]; omega
            have h2 : ((List.range k).flatMap fun (q : Nat) => endsOf q (L q)).length ≤ 400000 := by
              have hLN := HLN.out
              have e0 := endsOf_length ((0 : Nat) : Int) (L 0)
              have e1 := endsOf_length ((1 : Nat) : Int) (L 1)
              rcases (show k = 0 ∨ k = 1 by omega) with rfl | rfl
              · simp
              · simp only [List.range_one, List.flatMap_singleton]
                omega
            rw [← hD, List.length_append]
            omega
          clear hD hlen
          go_wp2_with fail
          refine (xwithin.calls e.f0 e.f1 p q ok _ HCALL.out).mono ?_
          rintro e2 w2 ⟨rfl, hd⟩
          have HO2 := Aside0.mk (pw_own_below (HOI.out.alloc (.cells #[Value.int .i64 e.f0, Value.int .i64 e.f1] 49)) hd)
          have HB2 := Aside0.mk (below_step (below_alloc HBI.out (.cells #[Value.int .i64 e.f0, Value.int .i64 e.f1] 49)) hd)
          clear hd q0 q1
          obtain ⟨A3, c3, hv3⟩ := own_slice HO2.out
          subst hv3
          cases ok
          · have HO3 : Aside0 (w2.ownsRow w.heap.size 135 3 (.slice A3 D.length c3) (((List.range k).flatMap fun (q : Nat) => endsOf q (L q)) ++ endsOf k ((L k).take (j + 1))).length (flatE (((List.range k).flatMap fun (q : Nat) => endsOf q (L q)) ++ endsOf k ((L k).take (j + 1))))) := ⟨by
              have e1 : endsE k e = [] := by unfold endsE; rw [HWI.out]; rfl
              rw [HTK.out, e1, List.append_nil, HD.out]
              exact HO2.out⟩
            go_wp2
            go_roundw
            case rel => exact ⟨j + 1, by omega, by go_num, HO3.out, HB2.out⟩
            case measure => simp [intOf]; omega
          · have HZ := Aside0.mk HB2.out.size
            go_wp2_with (at_builtin; refine wpList_append_own _ rfl _ _ 131 rfl w.heap.size 135 i0 (.agg #[.int .i64 0, .int .i64 0, .int .i64 0]) 3 24 Tryd.underlying131 hi hz0 hz1 hz2 rfl (by decide) _ _ _ rfl (HO2.out.alloc _) ⟨w2.heap.size, 0, none⟩ 2 2 [.int .i64 p, .int .i64 k, .int .i64 1, .int .i64 q, .int .i64 k, .int .i64 (-1)] rfl rfl (cells_six_new _ _ _ _ _ _ _ _) (by simp [Value.oneCell']) (by unfold maxLen; omega) (by omega) (by have := HZ.out; simp; omega) ?_; intro v' w1 hown hgrow _; have HO3 := Aside0.mk hown; have HB3 := Aside0.mk ((below_alloc HB2.out (.cells #[.int .i64 p, .int .i64 k, .int .i64 1, .int .i64 q, .int .i64 k, .int .i64 (-1)] 135)).grown hgrow (by have := HZ.out; simp; omega) (own_base HO2.out)); clear hown hgrow)
            have HO4 : Aside0 (w1.ownsRow w.heap.size 135 3 v' (((List.range k).flatMap fun (q : Nat) => endsOf q (L q)) ++ endsOf k ((L k).take (j + 1))).length (flatE (((List.range k).flatMap fun (q : Nat) => endsOf q (L q)) ++ endsOf k ((L k).take (j + 1))))) := ⟨by
              have e1 : endsE k e = [(p, (k : Int), 1), (q, (k : Int), -1)] := by unfold endsE; rw [HWI.out]; rfl
              rw [HTK.out, e1, ← List.append_assoc, HD.out, flatE_append, List.length_append]
              exact HO3.out⟩
            go_roundw
            case rel => exact ⟨j + 1, by omega, by go_num, HO4.out, HB3.out⟩
            case measure => simp [intOf]; omega
        · obtain rfl : j = (L k).length := by omega
          have HO3 : Aside0 (wr.ownsRow w.heap.size 135 3 u3 ((List.range (k + 1)).flatMap fun (q : Nat) => endsOf q (L q)).length (flatE ((List.range (k + 1)).flatMap fun (q : Nat) => endsOf q (L q)))) := ⟨by
            rw [List.range_succ, List.flatMap_append, List.flatMap_singleton]
            simpa using ho⟩
          have HB3 := Aside0.mk hbw
          clear ho hbw
          go_wp2
          go_roundw
          case rel => exact ⟨k + 1, by omega, by go_num, HO3.out, HB3.out⟩
          case measure => simp [intOf]; omega
    · obtain rfl : k = 2 := by omega
      have hD2 : ((List.range 2).flatMap fun (q : Nat) => endsOf q (L q)) = endsOf 0 l0 ++ endsOf 1 l1 := by
        rw [List.range_succ, List.flatMap_append, List.flatMap_singleton, List.range_one, List.flatMap_singleton, HL0.out.1, HL0.out.2]
        rfl
      rw [hD2] at ho
      have hDL : (endsOf 0 l0 ++ endsOf 1 l1).length < 1000000 := by
        have hLN := HLN.out
        rw [HL0.out.1, HL0.out.2] at hLN
        have e0 := endsOf_length 0 l0
        have e1 := endsOf_length 1 l1
        rw [List.length_append]
        omega
      obtain ⟨D, hDe⟩ : ∃ D, D = endsOf 0 l0 ++ endsOf 1 l1 := ⟨_, rfl⟩
      rw [← hDe] at ho hDL
      have HDE := Aside0.mk hDe
      clear hDe
      have HO := Aside0.mk ho
      have HB := Aside0.mk hbw
      clear ho hbw hD2
      go_wp2_with fail
      refine (sort_row w.heap.size _ D wr HO.out HB.out.size (by omega)).mono ?_
      rintro e w2 ⟨rfl, d', hp, hso, hE, hb2⟩
      have HP := Aside0.mk hp
      have HS := Aside0.mk hso
      have HE := Aside0.mk hE
      have HB2 := Aside0.mk (HB.out.trans hb2)
      clear hp hso hE hb2
      go_wp2
      go_ret
      exact ⟨_, d', rfl, HE.out, by rw [← HDE.out]; exact HP.out, HS.out, HB2.out⟩
end Go.Proofs.YtnjbdcnefienhaaDoor.P.X

namespace Go.Proofs.YtnjbdcnefienhaaDoor.P
open Go.RowKit Go.Proofs.YtnjbdcnefienhaaDoorW.PrintWords Go.Proofs.YtnjbdcnefienhaaDoorW.PrintLast Go.Proofs.YtnjbdcnefienhaaDoorW.PrintMore
theorem or128 (m : Nat) (h : m < 128) : Go.bits .or .u8 (m : Int) 128 = ((m + 128 : Nat) : Int) := by
  have : ∀ m : Fin 128, Go.bits .or .u8 ((m : Nat) : Int) 128 = (((m : Nat) + 128 : Nat) : Int) := by decide +kernel
  exact this ⟨m, h⟩
theorem enc7_length : ∀ (k n : Nat), (enc7 k n).length ≤ k + 1
  | 0, _ => by simp [enc7]
  | k + 1, n => by
    rw [enc7]
    split
    · simp
    · have := enc7_length k (n / 128); rw [List.length_cons]; omega
theorem encI_length (n : Int) : (encI n).length ≤ 9 := enc7_length 8 _
theorem putInt_l0 : ∀ (j n f : Nat) (out : List Int), n < 128 ^ (j + 1) → n ≤ 9007199254740991 → j + 1 ≤ f → out.length + j < 100000000 → wire_putInt.l0 f out n = some (out ++ enc7 j n)
  | 0, n, f, out, hn, _, hf, ho => by
    obtain ⟨f, rfl⟩ : ∃ m, f = m + 1 := ⟨f - 1, by omega⟩
    rw [wire_putInt.l0, if_neg (by omega), if_pos (by omega), enc7, Int.emod_eq_of_lt (by omega) (by omega)]
  | j + 1, n, f, out, hn, hm, hf, ho => by
    obtain ⟨f, rfl⟩ : ∃ m, f = m + 1 := ⟨f - 1, by omega⟩
    rw [wire_putInt.l0, enc7]
    by_cases h : n < 128
    · rw [if_pos h, if_neg (by omega), if_pos (by omega), Int.emod_eq_of_lt (by omega) (by omega)]
    · have e1 : (Int.tmod (n : Int) 128) % 256 = ((n % 128 : Nat) : Int) := by rw [Int.tmod_eq_emod_of_nonneg (by omega)]; omega
      have e2 : wrap64 (Int.tdiv (n : Int) 128) = ((n / 128 : Nat) : Int) := by rw [Int.tdiv_eq_ediv_of_nonneg (by omega), w64 _ (by omega) (by omega)]; omega
      have hp : n / 128 < 128 ^ (j + 1) := by
        rw [Nat.div_lt_iff_lt_mul (by decide)]
        rw [Nat.pow_succ] at hn
        exact hn
      rw [if_neg h, if_pos (by omega), if_pos (by omega), e1, e2, or128 _ (Nat.mod_lt _ (by decide)), putInt_l0 j (n / 128) f _ hp (by omega) (by omega) (by rw [List.length_append, List.length_singleton]; omega), List.append_assoc]
      rfl
theorem putInt_eq (f : Nat) (hf : 20 ≤ f) (out : List Int) (n : Int) (ho : out.length < 90000000) : wire_putInt.f f out n = some (out ++ encI n) := by
  have key : ∀ m : Nat, m ≤ 9007199254740991 → ∀ f, 12 ≤ f → wire_putInt.l0 f out m = some (out ++ enc7 8 m) := fun m hm f hf => putInt_l0 8 m f out (Nat.lt_of_le_of_lt hm (by decide)) hm (by omega) (by omega)
  obtain ⟨f, rfl⟩ : ∃ m, f = m + 2 := ⟨f - 2, by omega⟩
  unfold wire_putInt.f encI
  by_cases h0 : n < 0
  · rw [if_pos h0, wire_putInt.j0, if_pos rfl, wire_putInt.j1, if_pos (.inl h0)]
    exact key 0 (by omega) f (by omega)
  · rw [if_neg h0]
    by_cases h1 : n > 9007199254740991
    · rw [decide_eq_true h1, wire_putInt.j0, if_pos rfl, wire_putInt.j1, if_pos (.inr h1)]
      exact key 0 (by omega) f (by omega)
    · rw [decide_eq_false h1, wire_putInt.j0, if_neg (by decide), wire_putInt.j1, if_neg (by omega)]
      have := key n.toNat (by omega) f (by omega)
      rwa [Int.toNat_of_nonneg (by omega)] at this
theorem putExtent_eq (f : Nat) (hf : 20 ≤ f) (out : List Int) (e : S49) (ho : out.length < 80000000) : wire_putExtent.f f out e.f0 e.f1 = some (out ++ encE e) := by
  have := encI_length e.f0
  unfold wire_putExtent.f encE
  rw [putInt_eq f hf out _ (by omega), Option.bind_some, putInt_eq f hf _ _ (by rw [List.length_append]; omega), Option.bind_some, List.append_assoc]
theorem encE_length (e : S49) : (encE e).length ≤ 18 := by
  have := encI_length e.f0
  have := encI_length e.f1
  unfold encE
  rw [List.length_append]; omega
theorem encEs_length : ∀ l : List S49, (l.flatMap encE).length ≤ 18 * l.length
  | [] => by simp
  | e :: l => by
    have := encE_length e
    have := encEs_length l
    rw [List.flatMap_cons, List.length_append, List.length_cons]; omega
set_option maxHeartbeats 4000000 in
set_option maxRecDepth 100000 in
theorem put_any (A : Option Addr) (c : Nat) (l : List S49) (u : Value) (d : List Int) (w0 w : World) (hB : Below w0.heap.size w0 w) (hR : Kd.R (Kd.int .u8) 5 w w0.heap.size (fun _ => True) u d) (hC : Kd.C k49 w0 A l.length l) (hc : l.length ≤ c) (hd : d.length ≤ 1000000) (hl : l.length ≤ 1000000) :
    Calls Tryd.prog 60 #[u, .slice A l.length c, .func (.func 61) #[] #[]] w fun e w' => ∃ v, e = .returned v ∧ Kd.R (Kd.int .u8) 5 w' w0.heap.size (fun _ => True) v (d ++ encL l) ∧ Below w0.heap.size w0 w' := by
  have HB := Aside0.mk hB
  have HR := Aside0.mk hR
  have HC := Aside0.mk hC
  clear hB hR hC
  have eby : ∀ args w, (callFunc 61 args).run Tryd.prog w = .ok (.enter 61 args) w := enters_of Tryd.func61 (by kernel_rfl) rfl
  go_enter Tryd.func60, Tryd.ntmps60
  go_wp2_with fail
  refine (wire_putInt.calls 30 (fun _ => True) u d l.length _ w0 w HB.out HR.out (putInt_eq 30 (by omega) d _ (by omega))).mono ?_
  rintro e w1 ⟨v1, rfl, hR1, hB1, -⟩
  have HR1 := Aside0.mk (Kd.R_mono hR1 (ok' := fun _ => True) (fun _ _ => trivial))
  have HB1 := Aside0.mk hB1
  clear hR1 hB1
  go_wp2_with fail
  go_loopw [0, 15] (fun v i wr => ∃ k : Nat, k ≤ l.length ∧ i = .int .i64 k ∧ Aside0 (Kd.R (Kd.int .u8) 5 wr w0.heap.size (fun _ => True) v (d ++ encI l.length ++ (l.take k).flatMap encE)) ∧ Aside0 (Below w0.heap.size w0 wr))
    (fun _ i _ => l.length - (intOf i).toNat)
  case atStart => exact ⟨0, Nat.zero_le _, rfl, ⟨by simpa using HR1.out⟩, HB1⟩
  case round =>
    obtain ⟨k, hk, rfl, HRk, HBk⟩ := hrel
    by_cases hlt : k < l.length
    · obtain ⟨ad, hA, q0, q1⟩ := X.read_ext (Kd.C_below HC.out HBk.out) hlt
      subst hA
      obtain ⟨e, he⟩ : ∃ e, e = l[k] := ⟨_, rfl⟩
      rw [← he] at q0 q1
      have HE := Aside0.mk he
      have hlen := encEs_length (l.take k)
      have htk : (l.take k).length ≤ l.length := by rw [List.length_take]; omega
      have hin := encI_length (l.length : Int)
      have hol : (d ++ encI l.length ++ (l.take k).flatMap encE).length < 80000000 := by rw [List.length_append, List.length_append]; omega
      have HW : Aside0 (wrap64 ((k : Int) + 1) = ((k + 1 : Nat) : Int)) := ⟨by rw [w64 _ (by omega) (by omega)]; rfl⟩
      have HTK : Aside0 (d ++ encI l.length ++ (l.take (k + 1)).flatMap encE = d ++ encI l.length ++ (l.take k).flatMap encE ++ encE e) := ⟨by rw [List.take_succ_eq_append_getElem hlt, List.flatMap_append, HE.out]; simp⟩
      have HOL := Aside0.mk hol
      clear he hlen htk hin hol
      generalize d ++ encI l.length ++ (l.take k).flatMap encE = D at HRk HTK HOL
      go_wp2_with fail
      refine (wire_putExtent.calls 30 (fun _ => True) _ D e.f0 e.f1 _ w0 _ (below_alloc HBk.out _) (Kd.R_alloc HRk.out _) (putExtent_eq 30 (by omega) D e HOL.out)).mono ?_
      rintro e2 w2 ⟨v2, rfl, hR2, hB2, -⟩
      have HR2 := Aside0.mk (Kd.R_mono hR2 (ok' := fun _ => True) (fun _ _ => trivial))
      have HB2 := Aside0.mk hB2
      clear hR2 hB2 q0 q1
      go_wp2
      go_roundw
      case rel => exact ⟨k + 1, by omega, by go_num, ⟨by rw [HTK.out]; exact HR2.out⟩, HB2⟩
      case measure => simp [intOf]; omega
    · obtain rfl : k = l.length := by omega
      go_wp2
      go_ret
      refine ⟨_, rfl, ?_, HBk.out⟩
      have := HRk.out
      rw [List.take_length] at this
      unfold encL
      rw [← List.append_assoc]
      exact this
set_option maxHeartbeats 2000000 in
theorem wire_PutExtents.calls (A0 : Option Addr) (c0 : Nat) (l0 : List Int) (A1 : Option Addr) (c1 : Nat) (l1 : List (S49)) (r : List Int) (w : World) (hr0 : Kd.C (Kd.int .u8) w A0 l0.length l0) (hc0 : l0.length ≤ c0) (hr1 : Kd.C k49 w A1 l1.length l1) (hc1 : l1.length ≤ c1) (h : wire_PutExtents.f l0 l1 = some r) :
  Calls Tryd.prog 35 #[.slice A0 l0.length c0, .slice A1 l1.length c1] w fun e w' => ∃ v0_ : Value, e = .returned (v0_) ∧ Kd.R (Kd.int .u8) 5 w' w.heap.size (fun _ => True) v0_ r ∧ Below w.heap.size w w' := by
  unfold wire_PutExtents.f at h
  by_cases hn : l0.length ≤ 1000000 ∧ l1.length ≤ 1000000
  · rw [if_pos hn] at h
    obtain rfl := Option.some.inj h
    have HR0 := Aside0.mk hr0
    have HC0 := Aside0.mk hc0
    have HR1 := Aside0.mk hr1
    have HC1 := Aside0.mk hc1
    have HN := Aside0.mk hn
    clear h hr0 hc0 hr1 hc1 hn
    go_enter Tryd.func35, Tryd.ntmps35
    go_wp2_with fail
    refine (slices_Clone_byte_byte.calls A0 c0 l0 l0 w HR0.out HC0.out (by unfold slices_Clone_byte_byte.f; rw [if_pos HN.out.1])).mono ?_
    rintro e w1 ⟨v1, rfl, hR1, hB1⟩
    have HV := Aside0.mk hR1
    have HB := Aside0.mk hB1
    clear hR1 hB1
    go_wp2_with fail
    refine (put_any A1 c1 l1 _ l0 w w1 HB.out HV.out HR1.out HC1.out HN.out.1 HN.out.2).mono ?_
    rintro e w2 ⟨v2, rfl, hR2, hB2⟩
    have HV2 := Aside0.mk hR2
    have HB2 := Aside0.mk hB2
    clear hR2 hB2
    go_wp2
    go_ret
    exact ⟨_, rfl, HV2.out, HB2.out⟩
  · rw [if_neg hn] at h
    cases h
end Go.Proofs.YtnjbdcnefienhaaDoor.P

namespace Go.Proofs.YtnjbdcnefienhaaDoor.P
open Go.RowKit Go.Proofs.YtnjbdcnefienhaaDoorW.PrintWords Go.Proofs.YtnjbdcnefienhaaDoorW.PrintLast Go.Proofs.YtnjbdcnefienhaaDoorW.PrintMore
attribute [local go_sem] max2_int min2_int max_two min_two max_three min_three max_four min_four   -- for this text's walks alone
set_option linter.unusedVariables false
set_option linter.unusedSimpArgs false
def iEncode.f (k : Nat) (a0_0 : Int) (a0_1 : Int) (l0_2 : List Int) (a0_3 : Int) (l0_4 : List Int) : Option (List Int) := (iCheck.f k a0_0 a0_1 l0_2 a0_3 l0_4).bind fun t217 => (if t217 = 0 then ((wire_PutInt.f k ([] : List Int) a0_0).bind fun t218 => ((wire_PutInt.f k t218 a0_1).bind fun t221 => ((bExtents.f a0_3 l0_4).bind fun t224 => ((wire_PutExtents.f t221 t224).bind fun t227 => (some t227))))) else (some ([] : List Int)))
set_option maxHeartbeats 8000000 in
set_option maxRecDepth 100000 in
theorem iEncode.calls (k : Nat) (a0_0 : Int) (a0_1 : Int) (A0_2 : Option Addr) (c0_2 : Nat) (l0_2 : List Int) (a0_3 : Int) (A0_4 : Option Addr) (c0_4 : Nat) (l0_4 : List Int) (r : List Int) (w : World) (hG : TabOK w) (hr0_2 : Kd.C (Kd.int .i64) w A0_2 l0_2.length l0_2) (hc0_2 : l0_2.length ≤ c0_2) (hr0_4 : Kd.C (Kd.int .u64) w A0_4 l0_4.length l0_4) (hc0_4 : l0_4.length ≤ c0_4) (h : iEncode.f k a0_0 a0_1 l0_2 a0_3 l0_4 = some r) :
  Calls Tryd.prog 12 #[.agg #[.int .i64 a0_0, .int .i64 a0_1, .slice A0_2 l0_2.length c0_2, .int .i64 a0_3, .slice A0_4 l0_4.length c0_4]] w fun e w' => ∃ v0_ : Value, e = .returned (v0_) ∧ Kd.R (Kd.int .u8) 5 w' w.heap.size (fun _ => True) v0_ r ∧ Below w.heap.size w w' := by
 have hu28 := Tryd.underlying28
 have hu26 := Tryd.underlying26
 have HR0_2 := A0_ hr0_2
 have HC0_2 := A0_ hc0_2
 clear hr0_2 hc0_2
 have HR0_4 := A0_ hr0_4
 have HC0_4 := A0_ hc0_4
 clear hr0_4 hc0_4
 have HB := A0_ (Below.refl w.heap.size w)
 have H : ((iCheck.f k a0_0 a0_1 l0_2 a0_3 l0_4).bind fun t217 => (if t217 = 0 then ((wire_PutInt.f k ([] : List Int) a0_0).bind fun t218 => ((wire_PutInt.f k t218 a0_1).bind fun t221 => ((bExtents.f a0_3 l0_4).bind fun t224 => ((wire_PutExtents.f t221 t224).bind fun t227 => (some t227))))) else (some ([] : List Int)))) = some r := h
 clear h
 replace H := Option.bind_eq_some_iff.mp H
 obtain ⟨t217, A20, H⟩ := H
 replace H : (if t217 = 0 then ((wire_PutInt.f k ([] : List Int) a0_0).bind fun t218 => ((wire_PutInt.f k t218 a0_1).bind fun t221 => ((bExtents.f a0_3 l0_4).bind fun t224 => ((wire_PutExtents.f t221 t224).bind fun t227 => (some t227))))) else (some ([] : List Int))) = some r := H
 have A2 := A0_ A20
 clear A20
 by_cases c3 : t217 = 0
 ·
  rw [if_pos c3] at H
  have c3b0 : (t217 == 0) = true := beq_iff_eq.mpr c3
  have c3b1 : (t217 != 0) = false := bne_eq_false_iff_eq.mpr c3
  clear c3
  replace H := Option.bind_eq_some_iff.mp H
  obtain ⟨t218, A40, H⟩ := H
  replace H : ((wire_PutInt.f k t218 a0_1).bind fun t221 => ((bExtents.f a0_3 l0_4).bind fun t224 => ((wire_PutExtents.f t221 t224).bind fun t227 => (some t227)))) = some r := H
  have A4 := A0_ A40
  clear A40
  replace H := Option.bind_eq_some_iff.mp H
  obtain ⟨t221, A50, H⟩ := H
  replace H : ((bExtents.f a0_3 l0_4).bind fun t224 => ((wire_PutExtents.f t221 t224).bind fun t227 => (some t227))) = some r := H
  have A5 := A0_ A50
  clear A50
  replace H := Option.bind_eq_some_iff.mp H
  obtain ⟨t224, A60, H⟩ := H
  replace H : ((wire_PutExtents.f t221 t224).bind fun t227 => (some t227)) = some r := H
  have A6 := A0_ A60
  clear A60
  replace H := Option.bind_eq_some_iff.mp H
  obtain ⟨t227, A70, H⟩ := H
  replace H : (some t227) = some r := H
  have A7 := A0_ A70
  clear A70
  obtain rfl := Option.some.inj H
  go_enter Tryd.func12, Tryd.ntmps12
  try go_wp2_with (first | ((with_reducible refine gate_dst (N := 1) rfl ?_); refine box_event ?hg (N := 1) ?hd (cs := #[.int .i64 a0_0, .int .i64 a0_1, .slice A0_2 l0_2.length c0_2, .int .i64 a0_3, .slice A0_4 l0_4.length c0_4]) (t := 28) ?hr ?_; (case hd => rfl); (case hg => rfl); (case hr => first | (go_simp; done) | (go_simp; rfl)); intro gb216 hg w8 hbox hb; have n0_ := A0_ (below_step (by repeat (first | (with_reducible first | exact HB.out | apply Al_ | apply Dn_ | apply D1_) | exact HB.out)) hb); have n1_ := A0_ (hbox); have n2_ := A0_ ((by rw [hg]; exact (below_size (by repeat (first | (with_reducible first | exact HB.out | apply Al_ | apply Dn_ | apply D1_) | exact HB.out))) : w.heap.size ≤ gb216)); have n3_ := A0_ ((by rw [hg]; exact (below_size (by repeat (first | (with_reducible first | exact HB.out | apply Al_ | apply Dn_ | apply D1_) | exact HB.out))) : w.heap.size ≤ gb216)); clear HB; have HB := n0_; have BK216 := n1_; have GW216 := n2_; have GE216 := n3_; clear n0_ n1_ n2_ n3_ hb hbox hg; have hcz9_0 : w8.cell? ⟨gb216, 0, none⟩ = some (.int .i64 a0_0) := (Bc_ BK216.out 0).trans rfl; have hcz9_1 : w8.cell? ⟨gb216, 1, none⟩ = some (.int .i64 a0_1) := (Bc_ BK216.out 1).trans rfl; have hcz9_2 : w8.cell? ⟨gb216, 2, none⟩ = some (.slice A0_2 l0_2.length c0_2) := (Bc_ BK216.out 2).trans rfl; have hcz9_3 : w8.cell? ⟨gb216, 3, none⟩ = some (.int .i64 a0_3) := (Bc_ BK216.out 3).trans rfl; have hcz9_4 : w8.cell? ⟨gb216, 4, none⟩ = some (.slice A0_4 l0_4.length c0_4) := (Bc_ BK216.out 4).trans rfl; have hfz9_0 := Bf_ BK216.out 0; have hfz9_1 := Bf_ BK216.out 1; have hfz9_2 := Bf_ BK216.out 2; have hfz9_3 := Bf_ BK216.out 3; have hfz9_4 := Bf_ BK216.out 4) | ((with_reducible refine gate_callee (f := 33) rfl ?_); refine goesL_ (some 5) rfl rfl Tryd.func33 (by kernel_rfl) rfl #[.agg #[.int .i64 a0_0, .int .i64 a0_1, .slice A0_2 l0_2.length c0_2, .int .i64 a0_3, .slice A0_4 l0_4.length c0_4]] rfl (by (try simp only [List.map_toArray, List.map_cons, List.map_nil]); first | done | rfl | (simp only [List.length_drop, List.length_take]; rfl)) ?_; (with_reducible refine (iCheck.calls k a0_0 a0_1 _ _ l0_2 a0_3 _ _ l0_4 t217 _ ?side1 ?side2 ?side3 ?side4 A2.out).mono ?_); (case side1 => repeat (first | exact (Kd.C_below HR0_2.out HB.out) | (with_reducible first | refine Kd.C_alloc ?_ _ | refine Kd.C_drewN ?_ _ | refine Kd.C_drew ?_))); (case side2 => exact HC0_2.out); (case side3 => repeat (first | exact (Kd.C_below HR0_4.out HB.out) | (with_reducible first | refine Kd.C_alloc ?_ _ | refine Kd.C_drewN ?_ _ | refine Kd.C_drew ?_))); (case side4 => exact HC0_4.out); rintro e w10 ⟨rfl, hb⟩; refine ⟨_, rfl, ?_⟩; have n0_ := A0_ (blk_below (g := gb216) (o := .cells #[.int .i64 a0_0, .int .i64 a0_1, .slice A0_2 l0_2.length c0_2, .int .i64 a0_3, .slice A0_4 l0_4.length c0_4] 28 (0, 0)) (by (with_reducible repeat (first | refine Bn_ ?_ _ | refine Bd_ ?_ | refine Ba_ ?_ _)); exact BK216.out) hb); have n1_ := A0_ (below_step (by repeat (first | (with_reducible first | exact HB.out | apply Al_ | apply Dn_ | apply D1_ | refine Bs_ ?_ GE216.out) | exact HB.out)) hb); clear BK216 HB; have BK216 := n0_; have HB := n1_; clear n0_ n1_; (try clear hb); (try clear hb2); (try clear hk); (try clear hi)))
  have n0_ := A0_ (blk_drew BK216.out)
  have n1_ := A0_ (D1_ HB.out)
  clear BK216
  clear HB
  have BK216 := n0_
  have HB := n1_
  clear n0_ n1_
  refine start_ (n := 7) (S := fun w' => w'.cell? ⟨gb216, 0, none⟩ = some (.int .i64 a0_0) ∧ w'.cell? ⟨gb216, 1, none⟩ = some (.int .i64 a0_1) ∧ w'.cell? ⟨gb216, 2, none⟩ = some (.slice A0_2 l0_2.length c0_2) ∧ w'.cell? ⟨gb216, 3, none⟩ = some (.int .i64 a0_3) ∧ w'.cell? ⟨gb216, 4, none⟩ = some (.slice A0_4 l0_4.length c0_4)) (ds := []) #[false, false, false, false, false, false, false] (by kernel_rfl) rfl rfl ⟨(Bc_ BK216.out 0).trans rfl, (Bc_ BK216.out 1).trans rfl, (Bc_ BK216.out 2).trans rfl, (Bc_ BK216.out 3).trans rfl, (Bc_ BK216.out 4).trans rfl⟩ (fun hHeld => ?_)
  generalize w10.drew = w11 at BK216 HB hHeld ⊢
  refine pure_ (i := 0) (N := some 7) (v := ?_) (a' := ?_) #[true, false, false, false, false, false, false] rfl rfl (by kernel_rfl) (fun _ _ _ h => h) (Or.inl ⟨by rfl, ?_⟩) ?_ ?_
  rotate_left
  ·
   intro w'
   go_simp
   with_reducible rfl
  rotate_left
  ·
   simp only [Act.put, Sa_, Sz_, Ss_, i64_w, i32_w]
   rfl
  refine pure_ (i := 3) (N := some 10) (v := ?_) (a' := ?_) #[true, false, false, true, false, false, false] rfl rfl (by kernel_rfl) (fun _ _ _ h => h) (Or.inl ⟨by rfl, ?_⟩) ?_ ?_
  rotate_left
  ·
   intro w'
   go_simp
   with_reducible rfl
  rotate_left
  ·
   simp only [Act.put, Sa_, Sz_, Ss_, i64_w, i32_w]
   rfl
  refine take_ (i := 1) (N := some 8) (v := ?_) (a' := ?_) #[true, true, false, true, false, false, false] rfl rfl (by kernel_rfl) (fun _ _ _ h => h) (Or.inl ⟨by rfl, ?_⟩) hHeld ?_ ?_
  rotate_left
  ·
   rintro w' ⟨s0, s1, s2, s3, s4⟩
   go_simp
   with_reducible rfl
  rotate_left
  ·
   simp only [Act.put, Sa_, Sz_, Ss_, i64_w, i32_w]
   rfl
  refine take_ (i := 4) (N := some 11) (v := ?_) (a' := ?_) #[true, true, false, true, true, false, false] rfl rfl (by kernel_rfl) (fun _ _ _ h => h) (Or.inl ⟨by rfl, ?_⟩) hHeld ?_ ?_
  rotate_left
  ·
   rintro w' ⟨s0, s1, s2, s3, s4⟩
   go_simp
   with_reducible rfl
  rotate_left
  ·
   simp only [Act.put, Sa_, Sz_, Ss_, i64_w, i32_w]
   rfl
  refine one_ (i := 2) (N := some 9) #[true, true, true, true, true, false, false] rfl rfl (by kernel_rfl) (by decide) (fun K hK => ?_)
  refine goes_ Tryd.func34 (by kernel_rfl) rfl #[.slice none 0 0, .int .i64 a0_0] (by rfl) rfl rfl (by (try simp only [List.map_toArray, List.map_cons, List.map_nil]); first | done | rfl | (simp only [List.length_drop, List.length_take]; rfl)) ?_
  refine (wire_PutInt.calls k _ _ ([] : List Int) a0_0 t218 _ ?side1 ?side2 A4.out).mono ?_
  (case side1 => exact Kd.C_nil _ _)
  (case side2 => exact Nat.le_refl _)
  rintro e w12 ⟨v219, rfl, ho0, hb⟩
  refine ⟨_, rfl, ?_⟩
  have n0_ := A0_ (Kd.R_lower ho0 (below_size (by repeat (first | (with_reducible first | exact HB.out | apply Al_ | apply Dn_ | apply D1_ | refine Bs_ ?_ GE216.out) | exact HB.out))))
  have n1_ := A0_ (blk_below (g := gb216) (o := .cells #[.int .i64 a0_0, .int .i64 a0_1, .slice A0_2 l0_2.length c0_2, .int .i64 a0_3, .slice A0_4 l0_4.length c0_4] 28 (0, 0)) (by (with_reducible repeat (first | refine Bn_ ?_ _ | refine Bd_ ?_ | refine Ba_ ?_ _)); exact BK216.out) hb)
  have n2_ := A0_ (below_step (by repeat (first | (with_reducible first | exact HB.out | apply Al_ | apply Dn_ | apply D1_ | refine Bs_ ?_ GE216.out) | exact HB.out)) hb)
  clear BK216
  clear HB
  have HO220 := n0_
  have BK216 := n1_
  have HB := n2_
  clear n0_ n1_ n2_
  (try clear hb)
  (try clear hb2)
  (try clear hk)
  (try clear hi)
  (try clear ho0)
  obtain ⟨Ao13, co13, eo13⟩ := Kd.R_slice HO220.out
  (first | subst eo13 | (injection eo13 with f1_ f2_ f3_; have f4_ := f1_.symm; have f5_ := f3_.symm; clear f1_ f2_ f3_; subst f4_; subst f5_))
  refine hK.out _ _ ⟨(Bc_ BK216.out 0).trans rfl, (Bc_ BK216.out 1).trans rfl, (Bc_ BK216.out 2).trans rfl, (Bc_ BK216.out 3).trans rfl, (Bc_ BK216.out 4).trans rfl⟩ (fun hHeld => ?_)
  clear hK K
  refine norm_ (a' := ?_) ?_ ?_
  rotate_left
  ·
   show Act.put _ (some 9) _ = _
   simp only [Act.put, Sa_, Sz_, Ss_, i64_w, i32_w]
   rfl
  refine one_ (i := 5) (N := some 12) #[true, true, true, true, true, true, false] rfl rfl (by kernel_rfl) (by decide) (fun K hK => ?_)
  refine goes_ Tryd.func34 (by kernel_rfl) rfl #[.slice Ao13 t218.length co13, .int .i64 a0_1] (by rfl) rfl rfl (by (try simp only [List.map_toArray, List.map_cons, List.map_nil]); first | done | rfl | (simp only [List.length_drop, List.length_take]; rfl)) ?_
  with_reducible refine (wire_PutInt.calls k _ _ t218 a0_1 t221 _ ?side1 ?side2 A5.out).mono ?_
  (case side1 => repeat (first | exact (Kd.R_reads' HO220.out).2.2 | (with_reducible first | refine Kd.C_alloc ?_ _ | refine Kd.C_drewN ?_ _ | refine Kd.C_drew ?_)))
  (case side2 => exact (Kd.R_reads' HO220.out).2.1)
  rintro e w14 ⟨v222, rfl, ho0, hb⟩
  refine ⟨_, rfl, ?_⟩
  have n0_ := A0_ (Kd.R_elder' (by (with_reducible repeat (first | apply Ra_ | apply Rn_ | apply Rd_)); exact HO220.out) (Kd.R_base ho0) hb)
  have n1_ := A0_ (Kd.R_lower (Kd.R_new' ho0 (Kd.R_lt (by (with_reducible repeat (first | apply Ra_ | apply Rn_ | apply Rd_)); exact HO220.out))) (below_size (by repeat (first | (with_reducible first | exact HB.out | apply Al_ | apply Dn_ | apply D1_ | refine Bs_ ?_ GE216.out) | exact HB.out))))
  have n2_ := A0_ (blk_below (g := gb216) (o := .cells #[.int .i64 a0_0, .int .i64 a0_1, .slice A0_2 l0_2.length c0_2, .int .i64 a0_3, .slice A0_4 l0_4.length c0_4] 28 (0, 0)) (by (with_reducible repeat (first | refine Bn_ ?_ _ | refine Bd_ ?_ | refine Ba_ ?_ _)); exact BK216.out) hb)
  have n3_ := A0_ (below_step (by repeat (first | (with_reducible first | exact HB.out | apply Al_ | apply Dn_ | apply D1_ | refine Bs_ ?_ GE216.out) | exact HB.out)) hb)
  clear HO220
  clear BK216
  clear HB
  have HO220 := n0_
  have HO223 := n1_
  have BK216 := n2_
  have HB := n3_
  clear n0_ n1_ n2_ n3_
  (try clear hb)
  (try clear hb2)
  (try clear hk)
  (try clear hi)
  (try clear ho0)
  refine hK.out _ _ ⟨(Bc_ BK216.out 0).trans rfl, (Bc_ BK216.out 1).trans rfl, (Bc_ BK216.out 2).trans rfl, (Bc_ BK216.out 3).trans rfl, (Bc_ BK216.out 4).trans rfl⟩ (fun hHeld => ?_)
  clear hK K
  refine norm_ (a' := ?_) ?_ ?_
  rotate_left
  ·
   show Act.put _ (some 12) _ = _
   simp only [Act.put, Sa_, Sz_, Ss_, i64_w, i32_w]
   rfl
  refine pure_ (i := 6) (N := some 3) (v := ?_) (a' := ?_) #[true, true, true, true, true, true, true] rfl rfl (by kernel_rfl) (fun _ _ _ h => h) (Or.inl ⟨by rfl, ?_⟩) ?_ ?_
  rotate_left
  ·
   intro w'
   go_simp
   with_reducible rfl
  rotate_left
  ·
   simp only [Act.put, Sa_, Sz_, Ss_, i64_w, i32_w]
   rfl
  refine done_ (by kernel_rfl) ?_
  have hcz15_0 : w14.cell? ⟨gb216, 0, none⟩ = some (.int .i64 a0_0) := (Bc_ BK216.out 0).trans rfl
  have hcz15_1 : w14.cell? ⟨gb216, 1, none⟩ = some (.int .i64 a0_1) := (Bc_ BK216.out 1).trans rfl
  have hcz15_2 : w14.cell? ⟨gb216, 2, none⟩ = some (.slice A0_2 l0_2.length c0_2) := (Bc_ BK216.out 2).trans rfl
  have hcz15_3 : w14.cell? ⟨gb216, 3, none⟩ = some (.int .i64 a0_3) := (Bc_ BK216.out 3).trans rfl
  have hcz15_4 : w14.cell? ⟨gb216, 4, none⟩ = some (.slice A0_4 l0_4.length c0_4) := (Bc_ BK216.out 4).trans rfl
  have hfz15_0 := Bf_ BK216.out 0
  have hfz15_1 := Bf_ BK216.out 1
  have hfz15_2 := Bf_ BK216.out 2
  have hfz15_3 := Bf_ BK216.out 3
  have hfz15_4 := Bf_ BK216.out 4
  try go_wp2_with (first | ((with_reducible refine gate_callee (f := 36) rfl ?_); refine goesL_ (some 16) rfl rfl Tryd.func36 (by kernel_rfl) rfl #[.agg #[.int .i64 a0_3, .slice A0_4 l0_4.length c0_4]] rfl (by (try simp only [List.map_toArray, List.map_cons, List.map_nil]); first | done | rfl | (simp only [List.length_drop, List.length_take]; rfl)) ?_; (with_reducible refine (bExtents.calls a0_3 _ _ l0_4 t224 _ ?side3 ?side1 ?side2 A6.out).mono ?_); (case side1 => repeat (first | exact (Kd.C_below HR0_4.out HB.out) | (with_reducible first | refine Kd.C_alloc ?_ _ | refine Kd.C_drewN ?_ _ | refine Kd.C_drew ?_))); (case side2 => exact HC0_4.out); (case side3 => exact TabOK.below hG (by repeat (first | (with_reducible first | exact HB.out | apply Al_ | apply Dn_ | apply D1_ | refine Bs_ ?_ GE216.out) | exact HB.out))); rintro e w16 ⟨v225, rfl, ho0, hb⟩; refine ⟨_, rfl, ?_⟩; have n0_ := A0_ (Kd.R_below (by (with_reducible repeat (first | apply Ra_ | apply Rn_ | apply Rd_)); exact HO220.out) hb); have n1_ := A0_ (Kd.R_below (by (with_reducible repeat (first | apply Ra_ | apply Rn_ | apply Rd_)); exact HO223.out) hb); have n2_ := A0_ (Kd.R_lower ho0 (below_size (by repeat (first | (with_reducible first | exact HB.out | apply Al_ | apply Dn_ | apply D1_ | refine Bs_ ?_ GE216.out) | exact HB.out)))); have n3_ := A0_ (blk_below (g := gb216) (o := .cells #[.int .i64 a0_0, .int .i64 a0_1, .slice A0_2 l0_2.length c0_2, .int .i64 a0_3, .slice A0_4 l0_4.length c0_4] 28 (0, 0)) (by (with_reducible repeat (first | refine Bn_ ?_ _ | refine Bd_ ?_ | refine Ba_ ?_ _)); exact BK216.out) hb); have n4_ := A0_ (below_step (by repeat (first | (with_reducible first | exact HB.out | apply Al_ | apply Dn_ | apply D1_ | refine Bs_ ?_ GE216.out) | exact HB.out)) hb); clear HO220 HO223 BK216 HB; have HO220 := n0_; have HO223 := n1_; have HO226 := n2_; have BK216 := n3_; have HB := n4_; clear n0_ n1_ n2_ n3_ n4_; (try clear hb); (try clear hb2); (try clear hk); (try clear hi); (try clear ho0); obtain ⟨Ao17, co17, eo17⟩ := Kd.R_slice HO223.out; subst eo17; obtain ⟨Ao18, co18, eo18⟩ := Kd.R_slice HO226.out; subst eo18) | ((with_reducible refine gate_callee (f := 35) rfl ?_); refine goesL_ (some 17) rfl rfl Tryd.func35 (by kernel_rfl) rfl #[.slice Ao17 t221.length co17, .slice Ao18 t224.length co18] rfl (by (try simp only [List.map_toArray, List.map_cons, List.map_nil]); first | done | rfl | (simp only [List.length_drop, List.length_take]; rfl)) ?_; (with_reducible refine (wire_PutExtents.calls _ _ t221 _ _ t224 t227 _ ?side1 ?side2 ?side3 ?side4 A7.out).mono ?_); (case side1 => repeat (first | exact (Kd.R_reads' HO223.out).2.2 | (with_reducible first | refine Kd.C_alloc ?_ _ | refine Kd.C_drewN ?_ _ | refine Kd.C_drew ?_))); (case side2 => exact (Kd.R_reads' HO223.out).2.1); (case side3 => repeat (first | exact (Kd.R_reads' HO226.out).2.2 | (with_reducible first | refine Kd.C_alloc ?_ _ | refine Kd.C_drewN ?_ _ | refine Kd.C_drew ?_))); (case side4 => exact (Kd.R_reads' HO226.out).2.1); rintro e w19 ⟨v228, rfl, ho0, hb⟩; refine ⟨_, rfl, ?_⟩; have n0_ := A0_ (Kd.R_elder' (by (with_reducible repeat (first | apply Ra_ | apply Rn_ | apply Rd_)); exact HO220.out) (Kd.R_base ho0) hb); have n1_ := A0_ (Kd.R_elder' (by (with_reducible repeat (first | apply Ra_ | apply Rn_ | apply Rd_)); exact HO223.out) (Kd.R_base ho0) hb); have n2_ := A0_ (Kd.R_below (by (with_reducible repeat (first | apply Ra_ | apply Rn_ | apply Rd_)); exact HO226.out) hb); have n3_ := A0_ (Kd.R_lower (Kd.R_new' (Kd.R_new' ho0 (Kd.R_lt (by (with_reducible repeat (first | apply Ra_ | apply Rn_ | apply Rd_)); exact HO220.out))) (Kd.R_lt (by (with_reducible repeat (first | apply Ra_ | apply Rn_ | apply Rd_)); exact HO223.out))) (below_size (by repeat (first | (with_reducible first | exact HB.out | apply Al_ | apply Dn_ | apply D1_ | refine Bs_ ?_ GE216.out) | exact HB.out)))); have n4_ := A0_ (blk_below (g := gb216) (o := .cells #[.int .i64 a0_0, .int .i64 a0_1, .slice A0_2 l0_2.length c0_2, .int .i64 a0_3, .slice A0_4 l0_4.length c0_4] 28 (0, 0)) (by (with_reducible repeat (first | refine Bn_ ?_ _ | refine Bd_ ?_ | refine Ba_ ?_ _)); exact BK216.out) hb); have n5_ := A0_ (below_step (by repeat (first | (with_reducible first | exact HB.out | apply Al_ | apply Dn_ | apply D1_ | refine Bs_ ?_ GE216.out) | exact HB.out)) hb); clear HO220 HO223 HO226 BK216 HB; have HO220 := n0_; have HO223 := n1_; have HO226 := n2_; have HO229 := n3_; have BK216 := n4_; have HB := n5_; clear n0_ n1_ n2_ n3_ n4_ n5_; (try clear hb); (try clear hb2); (try clear hk); (try clear hi); (try clear ho0)))
  go_ret
  exact ⟨_, by first | rfl | (simp [errW_none, errW_some] <;> rfl) | (simp [*, errW_none, errW_some] <;> rfl), by (with_reducible repeat (first | apply Ra_ | apply Rn_ | apply Rd_)); exact Kd.R_mono HO229.out (fun _ hk => trivial), by repeat (first | (with_reducible first | exact HB.out | apply Al_ | apply Dn_ | apply D1_ | refine Bs_ ?_ GE216.out) | exact HB.out)⟩
 ·
  rw [if_neg c3] at H
  have c3b0 : (t217 == 0) = false := beq_eq_false_iff_ne.mpr c3
  have c3b1 : (t217 != 0) = true := bne_iff_ne.mpr c3
  obtain rfl := Option.some.inj H
  go_enter Tryd.func12, Tryd.ntmps12
  go_wp2_with (first | ((with_reducible refine gate_dst (N := 1) rfl ?_); refine box_event ?hg (N := 1) ?hd (cs := #[.int .i64 a0_0, .int .i64 a0_1, .slice A0_2 l0_2.length c0_2, .int .i64 a0_3, .slice A0_4 l0_4.length c0_4]) (t := 28) ?hr ?_; (case hd => rfl); (case hg => rfl); (case hr => first | (go_simp; done) | (go_simp; rfl)); intro gb216 hg w20 hbox hb; have n0_ := A0_ (below_step (by repeat (first | (with_reducible first | exact HB.out | apply Al_ | apply Dn_ | apply D1_) | exact HB.out)) hb); have n1_ := A0_ (hbox); have n2_ := A0_ ((by rw [hg]; exact (below_size (by repeat (first | (with_reducible first | exact HB.out | apply Al_ | apply Dn_ | apply D1_) | exact HB.out))) : w.heap.size ≤ gb216)); have n3_ := A0_ ((by rw [hg]; exact (below_size (by repeat (first | (with_reducible first | exact HB.out | apply Al_ | apply Dn_ | apply D1_) | exact HB.out))) : w.heap.size ≤ gb216)); clear HB; have HB := n0_; have BK216 := n1_; have GW216 := n2_; have GE216 := n3_; clear n0_ n1_ n2_ n3_ hb hbox hg; have hcz21_0 : w20.cell? ⟨gb216, 0, none⟩ = some (.int .i64 a0_0) := (Bc_ BK216.out 0).trans rfl; have hcz21_1 : w20.cell? ⟨gb216, 1, none⟩ = some (.int .i64 a0_1) := (Bc_ BK216.out 1).trans rfl; have hcz21_2 : w20.cell? ⟨gb216, 2, none⟩ = some (.slice A0_2 l0_2.length c0_2) := (Bc_ BK216.out 2).trans rfl; have hcz21_3 : w20.cell? ⟨gb216, 3, none⟩ = some (.int .i64 a0_3) := (Bc_ BK216.out 3).trans rfl; have hcz21_4 : w20.cell? ⟨gb216, 4, none⟩ = some (.slice A0_4 l0_4.length c0_4) := (Bc_ BK216.out 4).trans rfl; have hfz21_0 := Bf_ BK216.out 0; have hfz21_1 := Bf_ BK216.out 1; have hfz21_2 := Bf_ BK216.out 2; have hfz21_3 := Bf_ BK216.out 3; have hfz21_4 := Bf_ BK216.out 4) | ((with_reducible refine gate_callee (f := 33) rfl ?_); refine goesL_ (some 5) rfl rfl Tryd.func33 (by kernel_rfl) rfl #[.agg #[.int .i64 a0_0, .int .i64 a0_1, .slice A0_2 l0_2.length c0_2, .int .i64 a0_3, .slice A0_4 l0_4.length c0_4]] rfl (by (try simp only [List.map_toArray, List.map_cons, List.map_nil]); first | done | rfl | (simp only [List.length_drop, List.length_take]; rfl)) ?_; (with_reducible refine (iCheck.calls k a0_0 a0_1 _ _ l0_2 a0_3 _ _ l0_4 t217 _ ?side1 ?side2 ?side3 ?side4 A2.out).mono ?_); (case side1 => repeat (first | exact (Kd.C_below HR0_2.out HB.out) | (with_reducible first | refine Kd.C_alloc ?_ _ | refine Kd.C_drewN ?_ _ | refine Kd.C_drew ?_))); (case side2 => exact HC0_2.out); (case side3 => repeat (first | exact (Kd.C_below HR0_4.out HB.out) | (with_reducible first | refine Kd.C_alloc ?_ _ | refine Kd.C_drewN ?_ _ | refine Kd.C_drew ?_))); (case side4 => exact HC0_4.out); rintro e w22 ⟨rfl, hb⟩; refine ⟨_, rfl, ?_⟩; have n0_ := A0_ (blk_below (g := gb216) (o := .cells #[.int .i64 a0_0, .int .i64 a0_1, .slice A0_2 l0_2.length c0_2, .int .i64 a0_3, .slice A0_4 l0_4.length c0_4] 28 (0, 0)) (by (with_reducible repeat (first | refine Bn_ ?_ _ | refine Bd_ ?_ | refine Ba_ ?_ _)); exact BK216.out) hb); have n1_ := A0_ (below_step (by repeat (first | (with_reducible first | exact HB.out | apply Al_ | apply Dn_ | apply D1_ | refine Bs_ ?_ GE216.out) | exact HB.out)) hb); clear BK216 HB; have BK216 := n0_; have HB := n1_; clear n0_ n1_; (try clear hb); (try clear hb2); (try clear hk); (try clear hi)))
  go_ret
  exact ⟨_, by first | rfl | (simp [errW_none, errW_some] <;> rfl) | (simp [*, errW_none, errW_some] <;> rfl), by first | exact Kd.R_nil _ _ _ _ _ | exact Kd.N_nil _ _ _ _ _ | exact Kd.V_nil _ _ _ _ _ | exact Kd.Q_nil _ _ _ _ _ | exact Kd.S_nil _ _ _ _ _, by repeat (first | (with_reducible first | exact HB.out | apply Al_ | apply Dn_ | apply D1_ | refine Bs_ ?_ GE216.out) | exact HB.out)⟩
def itouched.f (a0_0 : Int) (a0_1 : Int) (l0_2 : List Int) (a0_3 : Int) (l0_4 : List Int) (a1_0 : Int) (a1_1 : Int) : Option (Int × Int × Int) := if a1_0 < 0 then (some (0, 0, 2)) else (if a1_1 < 1 then (some (0, 0, 2)) else (if a1_0 ≥ a0_0 then (some (0, 0, 2)) else (if a1_1 > (wrap64 (a0_0 - a1_0)) then (some (0, 0, 2)) else (if a0_1 = 0 then (none) else (some (wrap64 (Int.tdiv a1_0 a0_1), wrap64 ((wrap64 ((wrap64 (Int.tdiv (wrap64 ((wrap64 (a1_0 + a1_1)) - 1)) a0_1)) - (wrap64 (Int.tdiv a1_0 a0_1)))) + 1), 0))))))
set_option maxHeartbeats 8000000 in
set_option maxRecDepth 100000 in
theorem itouched.calls (a0_0 : Int) (a0_1 : Int) (A0_2 : Option Addr) (c0_2 : Nat) (l0_2 : List Int) (a0_3 : Int) (A0_4 : Option Addr) (c0_4 : Nat) (l0_4 : List Int) (a1_0 : Int) (a1_1 : Int) (r1 : Int) (r2 : Int) (r3 : Int) (w : World) (hr0_2 : Kd.C (Kd.int .i64) w A0_2 l0_2.length l0_2) (hc0_2 : l0_2.length ≤ c0_2) (hr0_4 : Kd.C (Kd.int .u64) w A0_4 l0_4.length l0_4) (hc0_4 : l0_4.length ≤ c0_4) (h : itouched.f a0_0 a0_1 l0_2 a0_3 l0_4 a1_0 a1_1 = some (r1, r2, r3)) :
  Calls Tryd.prog 63 #[.agg #[.int .i64 a0_0, .int .i64 a0_1, .slice A0_2 l0_2.length c0_2, .int .i64 a0_3, .slice A0_4 l0_4.length c0_4], .agg #[.int .i64 a1_0, .int .i64 a1_1]] w fun e w' => e = .returned (.tuple #[.agg #[.int .i64 r1, .int .i64 r2], .int .i64 r3]) ∧ Below w.heap.size w w' := by
 have hu28 := Tryd.underlying28
 have hu49 := Tryd.underlying49
 have HR0_2 := A0_ hr0_2
 have HC0_2 := A0_ hc0_2
 clear hr0_2 hc0_2
 have HR0_4 := A0_ hr0_4
 have HC0_4 := A0_ hc0_4
 clear hr0_4 hc0_4
 have HB := A0_ (Below.refl w.heap.size w)
 have H : (if a1_0 < 0 then (some (0, 0, 2)) else (if a1_1 < 1 then (some (0, 0, 2)) else (if a1_0 ≥ a0_0 then (some (0, 0, 2)) else (if a1_1 > (wrap64 (a0_0 - a1_0)) then (some (0, 0, 2)) else (if a0_1 = 0 then (none) else (some (wrap64 (Int.tdiv a1_0 a0_1), wrap64 ((wrap64 ((wrap64 (Int.tdiv (wrap64 ((wrap64 (a1_0 + a1_1)) - 1)) a0_1)) - (wrap64 (Int.tdiv a1_0 a0_1)))) + 1), 0))))))) = some (r1, r2, r3) := h
 clear h
 by_cases c3 : a1_0 < 0
 ·
  rw [if_pos c3] at H
  have c3b0 : decide (a1_0 < 0) = true := decide_eq_true c3
  clear c3
  simp only [Option.some.injEq, Prod.mk.injEq] at H
  obtain ⟨rfl, rfl, rfl⟩ := H
  go_enter Tryd.func63, Tryd.ntmps63
  go_wp2_with (first | ((with_reducible refine gate_dst (N := 2) rfl ?_); refine box_event ?hg (N := 2) ?hd (cs := #[.int .i64 a0_0, .int .i64 a0_1, .slice A0_2 l0_2.length c0_2, .int .i64 a0_3, .slice A0_4 l0_4.length c0_4]) (t := 28) ?hr ?_; (case hd => rfl); (case hg => rfl); (case hr => first | (go_simp; done) | (go_simp; rfl)); intro gb230 hg w4 hbox hb; have n0_ := A0_ (below_step (by repeat (first | (with_reducible first | exact HB.out | apply Al_ | apply Dn_ | apply D1_) | exact HB.out)) hb); have n1_ := A0_ (hbox); have n2_ := A0_ ((by rw [hg]; exact (below_size (by repeat (first | (with_reducible first | exact HB.out | apply Al_ | apply Dn_ | apply D1_) | exact HB.out))) : w.heap.size ≤ gb230)); have n3_ := A0_ ((by rw [hg]; exact (below_size (by repeat (first | (with_reducible first | exact HB.out | apply Al_ | apply Dn_ | apply D1_) | exact HB.out))) : w.heap.size ≤ gb230)); clear HB; have HB := n0_; have BK230 := n1_; have GW230 := n2_; have GE230 := n3_; clear n0_ n1_ n2_ n3_ hb hbox hg) | ((with_reducible refine gate_dst (N := 3) rfl ?_); refine box_event ?hg (N := 3) ?hd (cs := #[.int .i64 a1_0, .int .i64 a1_1]) (t := 49) ?hr ?_; (case hd => rfl); (case hg => rfl); (case hr => first | (go_simp; done) | (go_simp; rfl)); intro gb231 hg w5 hbox hb; have n0_ := A0_ (blk_below (g := gb230) (o := .cells #[.int .i64 a0_0, .int .i64 a0_1, .slice A0_2 l0_2.length c0_2, .int .i64 a0_3, .slice A0_4 l0_4.length c0_4] 28 (0, 0)) (by (with_reducible repeat (first | refine Bn_ ?_ _ | refine Bd_ ?_ | refine Ba_ ?_ _)); exact BK230.out) hb); have n1_ := A0_ (below_step (by repeat (first | (with_reducible first | exact HB.out | apply Al_ | apply Dn_ | apply D1_ | refine Bs_ ?_ GE230.out) | exact HB.out)) hb); have n2_ := A0_ (hbox); have n3_ := A0_ ((by rw [hg]; exact (below_size (by repeat (first | (with_reducible first | exact HB.out | apply Al_ | apply Dn_ | apply D1_ | refine Bs_ ?_ GE230.out) | exact HB.out))) : w.heap.size ≤ gb231)); have n4_ := A0_ ((by rw [hg]; exact (below_size (by repeat (first | (with_reducible first | exact HB.out | apply Al_ | apply Dn_ | apply D1_ | refine Bs_ ?_ GE230.out) | exact HB.out))) : w.heap.size ≤ gb231)); have n5_ := A0_ ((by rw [hg]; exact Nat.ne_of_lt (blk_lt (g := gb230) (o := .cells #[.int .i64 a0_0, .int .i64 a0_1, .slice A0_2 l0_2.length c0_2, .int .i64 a0_3, .slice A0_4 l0_4.length c0_4] 28 (0, 0)) (by (with_reducible repeat (first | refine Bn_ ?_ _ | refine Bd_ ?_ | refine Ba_ ?_ _)); exact BK230.out)) : gb230 ≠ gb231)); have n6_ := A0_ ((by rw [hg]; exact Nat.ne_of_gt (blk_lt (g := gb230) (o := .cells #[.int .i64 a0_0, .int .i64 a0_1, .slice A0_2 l0_2.length c0_2, .int .i64 a0_3, .slice A0_4 l0_4.length c0_4] 28 (0, 0)) (by (with_reducible repeat (first | refine Bn_ ?_ _ | refine Bd_ ?_ | refine Ba_ ?_ _)); exact BK230.out)) : gb231 ≠ gb230)); clear BK230 HB; have BK230 := n0_; have HB := n1_; have BK231 := n2_; have GW231 := n3_; have GE231 := n4_; have NB230_231 := n5_; have NB231_230 := n6_; clear n0_ n1_ n2_ n3_ n4_ n5_ n6_ hb hbox hg) | ((with_reducible refine gate_dst (N := 4) rfl ?_); refine box_event ?hg (N := 4) ?hd (cs := #[.int .i64 0, .int .i64 0]) (t := 49) ?hr ?_; (case hd => rfl); (case hg => rfl); (case hr => first | (go_simp; done) | (go_simp; rfl)); intro gb232 hg w6 hbox hb; have n0_ := A0_ (blk_below (g := gb230) (o := .cells #[.int .i64 a0_0, .int .i64 a0_1, .slice A0_2 l0_2.length c0_2, .int .i64 a0_3, .slice A0_4 l0_4.length c0_4] 28 (0, 0)) (by (with_reducible repeat (first | refine Bn_ ?_ _ | refine Bd_ ?_ | refine Ba_ ?_ _)); exact BK230.out) hb); have n1_ := A0_ (blk_below (g := gb231) (o := .cells #[.int .i64 a1_0, .int .i64 a1_1] 49 (0, 0)) (by (with_reducible repeat (first | refine Bn_ ?_ _ | refine Bd_ ?_ | refine Ba_ ?_ _)); exact BK231.out) hb); have n2_ := A0_ (below_step (by repeat (first | (with_reducible first | exact HB.out | apply Al_ | apply Dn_ | apply D1_ | refine Bs_ ?_ GE230.out | refine Bs_ ?_ GE231.out) | exact HB.out)) hb); have n3_ := A0_ (hbox); have n4_ := A0_ ((by rw [hg]; exact (below_size (by repeat (first | (with_reducible first | exact HB.out | apply Al_ | apply Dn_ | apply D1_ | refine Bs_ ?_ GE230.out | refine Bs_ ?_ GE231.out) | exact HB.out))) : w.heap.size ≤ gb232)); have n5_ := A0_ ((by rw [hg]; exact (below_size (by repeat (first | (with_reducible first | exact HB.out | apply Al_ | apply Dn_ | apply D1_ | refine Bs_ ?_ GE230.out | refine Bs_ ?_ GE231.out) | exact HB.out))) : w.heap.size ≤ gb232)); have n6_ := A0_ ((by rw [hg]; exact Nat.ne_of_lt (blk_lt (g := gb230) (o := .cells #[.int .i64 a0_0, .int .i64 a0_1, .slice A0_2 l0_2.length c0_2, .int .i64 a0_3, .slice A0_4 l0_4.length c0_4] 28 (0, 0)) (by (with_reducible repeat (first | refine Bn_ ?_ _ | refine Bd_ ?_ | refine Ba_ ?_ _)); exact BK230.out)) : gb230 ≠ gb232)); have n7_ := A0_ ((by rw [hg]; exact Nat.ne_of_gt (blk_lt (g := gb230) (o := .cells #[.int .i64 a0_0, .int .i64 a0_1, .slice A0_2 l0_2.length c0_2, .int .i64 a0_3, .slice A0_4 l0_4.length c0_4] 28 (0, 0)) (by (with_reducible repeat (first | refine Bn_ ?_ _ | refine Bd_ ?_ | refine Ba_ ?_ _)); exact BK230.out)) : gb232 ≠ gb230)); have n8_ := A0_ ((by rw [hg]; exact Nat.ne_of_lt (blk_lt (g := gb231) (o := .cells #[.int .i64 a1_0, .int .i64 a1_1] 49 (0, 0)) (by (with_reducible repeat (first | refine Bn_ ?_ _ | refine Bd_ ?_ | refine Ba_ ?_ _)); exact BK231.out)) : gb231 ≠ gb232)); have n9_ := A0_ ((by rw [hg]; exact Nat.ne_of_gt (blk_lt (g := gb231) (o := .cells #[.int .i64 a1_0, .int .i64 a1_1] 49 (0, 0)) (by (with_reducible repeat (first | refine Bn_ ?_ _ | refine Bd_ ?_ | refine Ba_ ?_ _)); exact BK231.out)) : gb232 ≠ gb231)); clear BK230 BK231 HB; have BK230 := n0_; have BK231 := n1_; have HB := n2_; have BK232 := n3_; have GW232 := n4_; have GE232 := n5_; have NB230_232 := n6_; have NB232_230 := n7_; have NB231_232 := n8_; have NB232_231 := n9_; clear n0_ n1_ n2_ n3_ n4_ n5_ n6_ n7_ n8_ n9_ hb hbox hg; have hnb7 := NB231_230.out; have hnc7 := NB230_231.out; have hnb8 := NB231_232.out; have hnc8 := NB232_231.out; have hcz9_0 : w6.cell? ⟨gb231, 0, none⟩ = some (.int .i64 a1_0) := (Bc_ BK231.out 0).trans rfl; have hcz9_1 : w6.cell? ⟨gb231, 1, none⟩ = some (.int .i64 a1_1) := (Bc_ BK231.out 1).trans rfl; have hfz9_0 := Bf_ BK231.out 0; have hfz9_1 := Bf_ BK231.out 1; have hnb10 := NB232_230.out; have hnc10 := NB230_232.out; have hcz11_0 : w6.cell? ⟨gb232, 0, none⟩ = some (.int .i64 0) := (Bc_ BK232.out 0).trans rfl; have hcz11_1 : w6.cell? ⟨gb232, 1, none⟩ = some (.int .i64 0) := (Bc_ BK232.out 1).trans rfl; have hfz11_0 := Bf_ BK232.out 0; have hfz11_1 := Bf_ BK232.out 1))
  refine bodyPost_ret (results_ct rfl _ _ gb232 49 #[.int .i64 0, .int .i64 0] (0, 0) _ rfl (by (with_reducible repeat (first | refine Bn_ ?_ _ | refine Bd_ ?_ | refine Ba_ ?_ _)); refine blk_put (cs := #[.int .i64 0, .int .i64 0]) ?_ 1 _ rfl; (with_reducible repeat (first | refine Bn_ ?_ _ | refine Bd_ ?_ | refine Ba_ ?_ _)); refine blk_put (cs := #[.int .i64 0, .int .i64 0]) ?_ 0 _ rfl; (with_reducible repeat (first | refine Bn_ ?_ _ | refine Bd_ ?_ | refine Ba_ ?_ _)); exact BK232.out) Tryd.underlying49 rfl (by kernel_rfl)) rfl ?_
  exact ⟨by first | rfl | (simp [errW_none, errW_some] <;> rfl) | (simp [*, errW_none, errW_some] <;> rfl), by repeat (first | (with_reducible first | exact HB.out | apply Al_ | apply Dn_ | apply D1_ | refine Bs_ ?_ GE230.out | refine Bs_ ?_ GE231.out | refine Bs_ ?_ GE232.out) | exact HB.out)⟩
 ·
  rw [if_neg c3] at H
  have c3b0 : decide (a1_0 < 0) = false := decide_eq_false c3
  clear c3
  by_cases c12 : a1_1 < 1
  ·
   rw [if_pos c12] at H
   have c12b0 : decide (a1_1 < 1) = true := decide_eq_true c12
   clear c12
   simp only [Option.some.injEq, Prod.mk.injEq] at H
   obtain ⟨rfl, rfl, rfl⟩ := H
   go_enter Tryd.func63, Tryd.ntmps63
   go_wp2_with (first | ((with_reducible refine gate_dst (N := 2) rfl ?_); refine box_event ?hg (N := 2) ?hd (cs := #[.int .i64 a0_0, .int .i64 a0_1, .slice A0_2 l0_2.length c0_2, .int .i64 a0_3, .slice A0_4 l0_4.length c0_4]) (t := 28) ?hr ?_; (case hd => rfl); (case hg => rfl); (case hr => first | (go_simp; done) | (go_simp; rfl)); intro gb230 hg w13 hbox hb; have n0_ := A0_ (below_step (by repeat (first | (with_reducible first | exact HB.out | apply Al_ | apply Dn_ | apply D1_) | exact HB.out)) hb); have n1_ := A0_ (hbox); have n2_ := A0_ ((by rw [hg]; exact (below_size (by repeat (first | (with_reducible first | exact HB.out | apply Al_ | apply Dn_ | apply D1_) | exact HB.out))) : w.heap.size ≤ gb230)); have n3_ := A0_ ((by rw [hg]; exact (below_size (by repeat (first | (with_reducible first | exact HB.out | apply Al_ | apply Dn_ | apply D1_) | exact HB.out))) : w.heap.size ≤ gb230)); clear HB; have HB := n0_; have BK230 := n1_; have GW230 := n2_; have GE230 := n3_; clear n0_ n1_ n2_ n3_ hb hbox hg) | ((with_reducible refine gate_dst (N := 3) rfl ?_); refine box_event ?hg (N := 3) ?hd (cs := #[.int .i64 a1_0, .int .i64 a1_1]) (t := 49) ?hr ?_; (case hd => rfl); (case hg => rfl); (case hr => first | (go_simp; done) | (go_simp; rfl)); intro gb231 hg w14 hbox hb; have n0_ := A0_ (blk_below (g := gb230) (o := .cells #[.int .i64 a0_0, .int .i64 a0_1, .slice A0_2 l0_2.length c0_2, .int .i64 a0_3, .slice A0_4 l0_4.length c0_4] 28 (0, 0)) (by (with_reducible repeat (first | refine Bn_ ?_ _ | refine Bd_ ?_ | refine Ba_ ?_ _)); exact BK230.out) hb); have n1_ := A0_ (below_step (by repeat (first | (with_reducible first | exact HB.out | apply Al_ | apply Dn_ | apply D1_ | refine Bs_ ?_ GE230.out) | exact HB.out)) hb); have n2_ := A0_ (hbox); have n3_ := A0_ ((by rw [hg]; exact (below_size (by repeat (first | (with_reducible first | exact HB.out | apply Al_ | apply Dn_ | apply D1_ | refine Bs_ ?_ GE230.out) | exact HB.out))) : w.heap.size ≤ gb231)); have n4_ := A0_ ((by rw [hg]; exact (below_size (by repeat (first | (with_reducible first | exact HB.out | apply Al_ | apply Dn_ | apply D1_ | refine Bs_ ?_ GE230.out) | exact HB.out))) : w.heap.size ≤ gb231)); have n5_ := A0_ ((by rw [hg]; exact Nat.ne_of_lt (blk_lt (g := gb230) (o := .cells #[.int .i64 a0_0, .int .i64 a0_1, .slice A0_2 l0_2.length c0_2, .int .i64 a0_3, .slice A0_4 l0_4.length c0_4] 28 (0, 0)) (by (with_reducible repeat (first | refine Bn_ ?_ _ | refine Bd_ ?_ | refine Ba_ ?_ _)); exact BK230.out)) : gb230 ≠ gb231)); have n6_ := A0_ ((by rw [hg]; exact Nat.ne_of_gt (blk_lt (g := gb230) (o := .cells #[.int .i64 a0_0, .int .i64 a0_1, .slice A0_2 l0_2.length c0_2, .int .i64 a0_3, .slice A0_4 l0_4.length c0_4] 28 (0, 0)) (by (with_reducible repeat (first | refine Bn_ ?_ _ | refine Bd_ ?_ | refine Ba_ ?_ _)); exact BK230.out)) : gb231 ≠ gb230)); clear BK230 HB; have BK230 := n0_; have HB := n1_; have BK231 := n2_; have GW231 := n3_; have GE231 := n4_; have NB230_231 := n5_; have NB231_230 := n6_; clear n0_ n1_ n2_ n3_ n4_ n5_ n6_ hb hbox hg) | ((with_reducible refine gate_dst (N := 4) rfl ?_); refine box_event ?hg (N := 4) ?hd (cs := #[.int .i64 0, .int .i64 0]) (t := 49) ?hr ?_; (case hd => rfl); (case hg => rfl); (case hr => first | (go_simp; done) | (go_simp; rfl)); intro gb232 hg w15 hbox hb; have n0_ := A0_ (blk_below (g := gb230) (o := .cells #[.int .i64 a0_0, .int .i64 a0_1, .slice A0_2 l0_2.length c0_2, .int .i64 a0_3, .slice A0_4 l0_4.length c0_4] 28 (0, 0)) (by (with_reducible repeat (first | refine Bn_ ?_ _ | refine Bd_ ?_ | refine Ba_ ?_ _)); exact BK230.out) hb); have n1_ := A0_ (blk_below (g := gb231) (o := .cells #[.int .i64 a1_0, .int .i64 a1_1] 49 (0, 0)) (by (with_reducible repeat (first | refine Bn_ ?_ _ | refine Bd_ ?_ | refine Ba_ ?_ _)); exact BK231.out) hb); have n2_ := A0_ (below_step (by repeat (first | (with_reducible first | exact HB.out | apply Al_ | apply Dn_ | apply D1_ | refine Bs_ ?_ GE230.out | refine Bs_ ?_ GE231.out) | exact HB.out)) hb); have n3_ := A0_ (hbox); have n4_ := A0_ ((by rw [hg]; exact (below_size (by repeat (first | (with_reducible first | exact HB.out | apply Al_ | apply Dn_ | apply D1_ | refine Bs_ ?_ GE230.out | refine Bs_ ?_ GE231.out) | exact HB.out))) : w.heap.size ≤ gb232)); have n5_ := A0_ ((by rw [hg]; exact (below_size (by repeat (first | (with_reducible first | exact HB.out | apply Al_ | apply Dn_ | apply D1_ | refine Bs_ ?_ GE230.out | refine Bs_ ?_ GE231.out) | exact HB.out))) : w.heap.size ≤ gb232)); have n6_ := A0_ ((by rw [hg]; exact Nat.ne_of_lt (blk_lt (g := gb230) (o := .cells #[.int .i64 a0_0, .int .i64 a0_1, .slice A0_2 l0_2.length c0_2, .int .i64 a0_3, .slice A0_4 l0_4.length c0_4] 28 (0, 0)) (by (with_reducible repeat (first | refine Bn_ ?_ _ | refine Bd_ ?_ | refine Ba_ ?_ _)); exact BK230.out)) : gb230 ≠ gb232)); have n7_ := A0_ ((by rw [hg]; exact Nat.ne_of_gt (blk_lt (g := gb230) (o := .cells #[.int .i64 a0_0, .int .i64 a0_1, .slice A0_2 l0_2.length c0_2, .int .i64 a0_3, .slice A0_4 l0_4.length c0_4] 28 (0, 0)) (by (with_reducible repeat (first | refine Bn_ ?_ _ | refine Bd_ ?_ | refine Ba_ ?_ _)); exact BK230.out)) : gb232 ≠ gb230)); have n8_ := A0_ ((by rw [hg]; exact Nat.ne_of_lt (blk_lt (g := gb231) (o := .cells #[.int .i64 a1_0, .int .i64 a1_1] 49 (0, 0)) (by (with_reducible repeat (first | refine Bn_ ?_ _ | refine Bd_ ?_ | refine Ba_ ?_ _)); exact BK231.out)) : gb231 ≠ gb232)); have n9_ := A0_ ((by rw [hg]; exact Nat.ne_of_gt (blk_lt (g := gb231) (o := .cells #[.int .i64 a1_0, .int .i64 a1_1] 49 (0, 0)) (by (with_reducible repeat (first | refine Bn_ ?_ _ | refine Bd_ ?_ | refine Ba_ ?_ _)); exact BK231.out)) : gb232 ≠ gb231)); clear BK230 BK231 HB; have BK230 := n0_; have BK231 := n1_; have HB := n2_; have BK232 := n3_; have GW232 := n4_; have GE232 := n5_; have NB230_232 := n6_; have NB232_230 := n7_; have NB231_232 := n8_; have NB232_231 := n9_; clear n0_ n1_ n2_ n3_ n4_ n5_ n6_ n7_ n8_ n9_ hb hbox hg; have hnb16 := NB231_230.out; have hnc16 := NB230_231.out; have hnb17 := NB231_232.out; have hnc17 := NB232_231.out; have hcz18_0 : w15.cell? ⟨gb231, 0, none⟩ = some (.int .i64 a1_0) := (Bc_ BK231.out 0).trans rfl; have hcz18_1 : w15.cell? ⟨gb231, 1, none⟩ = some (.int .i64 a1_1) := (Bc_ BK231.out 1).trans rfl; have hfz18_0 := Bf_ BK231.out 0; have hfz18_1 := Bf_ BK231.out 1; have hnb19 := NB232_230.out; have hnc19 := NB230_232.out; have hcz20_0 : w15.cell? ⟨gb232, 0, none⟩ = some (.int .i64 0) := (Bc_ BK232.out 0).trans rfl; have hcz20_1 : w15.cell? ⟨gb232, 1, none⟩ = some (.int .i64 0) := (Bc_ BK232.out 1).trans rfl; have hfz20_0 := Bf_ BK232.out 0; have hfz20_1 := Bf_ BK232.out 1))
   refine bodyPost_ret (results_ct rfl _ _ gb232 49 #[.int .i64 0, .int .i64 0] (0, 0) _ rfl (by (with_reducible repeat (first | refine Bn_ ?_ _ | refine Bd_ ?_ | refine Ba_ ?_ _)); refine blk_put (cs := #[.int .i64 0, .int .i64 0]) ?_ 1 _ rfl; (with_reducible repeat (first | refine Bn_ ?_ _ | refine Bd_ ?_ | refine Ba_ ?_ _)); refine blk_put (cs := #[.int .i64 0, .int .i64 0]) ?_ 0 _ rfl; (with_reducible repeat (first | refine Bn_ ?_ _ | refine Bd_ ?_ | refine Ba_ ?_ _)); exact BK232.out) Tryd.underlying49 rfl (by kernel_rfl)) rfl ?_
   exact ⟨by first | rfl | (simp [errW_none, errW_some] <;> rfl) | (simp [*, errW_none, errW_some] <;> rfl), by repeat (first | (with_reducible first | exact HB.out | apply Al_ | apply Dn_ | apply D1_ | refine Bs_ ?_ GE230.out | refine Bs_ ?_ GE231.out | refine Bs_ ?_ GE232.out) | exact HB.out)⟩
  ·
   rw [if_neg c12] at H
   have c12b0 : decide (a1_1 < 1) = false := decide_eq_false c12
   clear c12
   by_cases c21 : a1_0 ≥ a0_0
   ·
    rw [if_pos c21] at H
    have c21b0 : decide (a0_0 ≤ a1_0) = true := decide_eq_true c21
    clear c21
    simp only [Option.some.injEq, Prod.mk.injEq] at H
    obtain ⟨rfl, rfl, rfl⟩ := H
    go_enter Tryd.func63, Tryd.ntmps63
    go_wp2_with (first | ((with_reducible refine gate_dst (N := 2) rfl ?_); refine box_event ?hg (N := 2) ?hd (cs := #[.int .i64 a0_0, .int .i64 a0_1, .slice A0_2 l0_2.length c0_2, .int .i64 a0_3, .slice A0_4 l0_4.length c0_4]) (t := 28) ?hr ?_; (case hd => rfl); (case hg => rfl); (case hr => first | (go_simp; done) | (go_simp; rfl)); intro gb230 hg w22 hbox hb; have n0_ := A0_ (below_step (by repeat (first | (with_reducible first | exact HB.out | apply Al_ | apply Dn_ | apply D1_) | exact HB.out)) hb); have n1_ := A0_ (hbox); have n2_ := A0_ ((by rw [hg]; exact (below_size (by repeat (first | (with_reducible first | exact HB.out | apply Al_ | apply Dn_ | apply D1_) | exact HB.out))) : w.heap.size ≤ gb230)); have n3_ := A0_ ((by rw [hg]; exact (below_size (by repeat (first | (with_reducible first | exact HB.out | apply Al_ | apply Dn_ | apply D1_) | exact HB.out))) : w.heap.size ≤ gb230)); clear HB; have HB := n0_; have BK230 := n1_; have GW230 := n2_; have GE230 := n3_; clear n0_ n1_ n2_ n3_ hb hbox hg) | ((with_reducible refine gate_dst (N := 3) rfl ?_); refine box_event ?hg (N := 3) ?hd (cs := #[.int .i64 a1_0, .int .i64 a1_1]) (t := 49) ?hr ?_; (case hd => rfl); (case hg => rfl); (case hr => first | (go_simp; done) | (go_simp; rfl)); intro gb231 hg w23 hbox hb; have n0_ := A0_ (blk_below (g := gb230) (o := .cells #[.int .i64 a0_0, .int .i64 a0_1, .slice A0_2 l0_2.length c0_2, .int .i64 a0_3, .slice A0_4 l0_4.length c0_4] 28 (0, 0)) (by (with_reducible repeat (first | refine Bn_ ?_ _ | refine Bd_ ?_ | refine Ba_ ?_ _)); exact BK230.out) hb); have n1_ := A0_ (below_step (by repeat (first | (with_reducible first | exact HB.out | apply Al_ | apply Dn_ | apply D1_ | refine Bs_ ?_ GE230.out) | exact HB.out)) hb); have n2_ := A0_ (hbox); have n3_ := A0_ ((by rw [hg]; exact (below_size (by repeat (first | (with_reducible first | exact HB.out | apply Al_ | apply Dn_ | apply D1_ | refine Bs_ ?_ GE230.out) | exact HB.out))) : w.heap.size ≤ gb231)); have n4_ := A0_ ((by rw [hg]; exact (below_size (by repeat (first | (with_reducible first | exact HB.out | apply Al_ | apply Dn_ | apply D1_ | refine Bs_ ?_ GE230.out) | exact HB.out))) : w.heap.size ≤ gb231)); have n5_ := A0_ ((by rw [hg]; exact Nat.ne_of_lt (blk_lt (g := gb230) (o := .cells #[.int .i64 a0_0, .int .i64 a0_1, .slice A0_2 l0_2.length c0_2, .int .i64 a0_3, .slice A0_4 l0_4.length c0_4] 28 (0, 0)) (by (with_reducible repeat (first | refine Bn_ ?_ _ | refine Bd_ ?_ | refine Ba_ ?_ _)); exact BK230.out)) : gb230 ≠ gb231)); have n6_ := A0_ ((by rw [hg]; exact Nat.ne_of_gt (blk_lt (g := gb230) (o := .cells #[.int .i64 a0_0, .int .i64 a0_1, .slice A0_2 l0_2.length c0_2, .int .i64 a0_3, .slice A0_4 l0_4.length c0_4] 28 (0, 0)) (by (with_reducible repeat (first | refine Bn_ ?_ _ | refine Bd_ ?_ | refine Ba_ ?_ _)); exact BK230.out)) : gb231 ≠ gb230)); clear BK230 HB; have BK230 := n0_; have HB := n1_; have BK231 := n2_; have GW231 := n3_; have GE231 := n4_; have NB230_231 := n5_; have NB231_230 := n6_; clear n0_ n1_ n2_ n3_ n4_ n5_ n6_ hb hbox hg) | ((with_reducible refine gate_dst (N := 4) rfl ?_); refine box_event ?hg (N := 4) ?hd (cs := #[.int .i64 0, .int .i64 0]) (t := 49) ?hr ?_; (case hd => rfl); (case hg => rfl); (case hr => first | (go_simp; done) | (go_simp; rfl)); intro gb232 hg w24 hbox hb; have n0_ := A0_ (blk_below (g := gb230) (o := .cells #[.int .i64 a0_0, .int .i64 a0_1, .slice A0_2 l0_2.length c0_2, .int .i64 a0_3, .slice A0_4 l0_4.length c0_4] 28 (0, 0)) (by (with_reducible repeat (first | refine Bn_ ?_ _ | refine Bd_ ?_ | refine Ba_ ?_ _)); exact BK230.out) hb); have n1_ := A0_ (blk_below (g := gb231) (o := .cells #[.int .i64 a1_0, .int .i64 a1_1] 49 (0, 0)) (by (with_reducible repeat (first | refine Bn_ ?_ _ | refine Bd_ ?_ | refine Ba_ ?_ _)); exact BK231.out) hb); have n2_ := A0_ (below_step (by repeat (first | (with_reducible first | exact HB.out | apply Al_ | apply Dn_ | apply D1_ | refine Bs_ ?_ GE230.out | refine Bs_ ?_ GE231.out) | exact HB.out)) hb); have n3_ := A0_ (hbox); have n4_ := A0_ ((by rw [hg]; exact (below_size (by repeat (first | (with_reducible first | exact HB.out | apply Al_ | apply Dn_ | apply D1_ | refine Bs_ ?_ GE230.out | refine Bs_ ?_ GE231.out) | exact HB.out))) : w.heap.size ≤ gb232)); have n5_ := A0_ ((by rw [hg]; exact (below_size (by repeat (first | (with_reducible first | exact HB.out | apply Al_ | apply Dn_ | apply D1_ | refine Bs_ ?_ GE230.out | refine Bs_ ?_ GE231.out) | exact HB.out))) : w.heap.size ≤ gb232)); have n6_ := A0_ ((by rw [hg]; exact Nat.ne_of_lt (blk_lt (g := gb230) (o := .cells #[.int .i64 a0_0, .int .i64 a0_1, .slice A0_2 l0_2.length c0_2, .int .i64 a0_3, .slice A0_4 l0_4.length c0_4] 28 (0, 0)) (by (with_reducible repeat (first | refine Bn_ ?_ _ | refine Bd_ ?_ | refine Ba_ ?_ _)); exact BK230.out)) : gb230 ≠ gb232)); have n7_ := A0_ ((by rw [hg]; exact Nat.ne_of_gt (blk_lt (g := gb230) (o := .cells #[.int .i64 a0_0, .int .i64 a0_1, .slice A0_2 l0_2.length c0_2, .int .i64 a0_3, .slice A0_4 l0_4.length c0_4] 28 (0, 0)) (by (with_reducible repeat (first | refine Bn_ ?_ _ | refine Bd_ ?_ | refine Ba_ ?_ _)); exact BK230.out)) : gb232 ≠ gb230)); have n8_ := A0_ ((by rw [hg]; exact Nat.ne_of_lt (blk_lt (g := gb231) (o := .cells #[.int .i64 a1_0, .int .i64 a1_1] 49 (0, 0)) (by (with_reducible repeat (first | refine Bn_ ?_ _ | refine Bd_ ?_ | refine Ba_ ?_ _)); exact BK231.out)) : gb231 ≠ gb232)); have n9_ := A0_ ((by rw [hg]; exact Nat.ne_of_gt (blk_lt (g := gb231) (o := .cells #[.int .i64 a1_0, .int .i64 a1_1] 49 (0, 0)) (by (with_reducible repeat (first | refine Bn_ ?_ _ | refine Bd_ ?_ | refine Ba_ ?_ _)); exact BK231.out)) : gb232 ≠ gb231)); clear BK230 BK231 HB; have BK230 := n0_; have BK231 := n1_; have HB := n2_; have BK232 := n3_; have GW232 := n4_; have GE232 := n5_; have NB230_232 := n6_; have NB232_230 := n7_; have NB231_232 := n8_; have NB232_231 := n9_; clear n0_ n1_ n2_ n3_ n4_ n5_ n6_ n7_ n8_ n9_ hb hbox hg; have hnb25 := NB231_230.out; have hnc25 := NB230_231.out; have hnb26 := NB231_232.out; have hnc26 := NB232_231.out; have hcz27_0 : w24.cell? ⟨gb231, 0, none⟩ = some (.int .i64 a1_0) := (Bc_ BK231.out 0).trans rfl; have hcz27_1 : w24.cell? ⟨gb231, 1, none⟩ = some (.int .i64 a1_1) := (Bc_ BK231.out 1).trans rfl; have hfz27_0 := Bf_ BK231.out 0; have hfz27_1 := Bf_ BK231.out 1; have hnb28 := NB230_232.out; have hnc28 := NB232_230.out; have hcz29_0 : w24.cell? ⟨gb230, 0, none⟩ = some (.int .i64 a0_0) := (Bc_ BK230.out 0).trans rfl; have hcz29_1 : w24.cell? ⟨gb230, 1, none⟩ = some (.int .i64 a0_1) := (Bc_ BK230.out 1).trans rfl; have hcz29_2 : w24.cell? ⟨gb230, 2, none⟩ = some (.slice A0_2 l0_2.length c0_2) := (Bc_ BK230.out 2).trans rfl; have hcz29_3 : w24.cell? ⟨gb230, 3, none⟩ = some (.int .i64 a0_3) := (Bc_ BK230.out 3).trans rfl; have hcz29_4 : w24.cell? ⟨gb230, 4, none⟩ = some (.slice A0_4 l0_4.length c0_4) := (Bc_ BK230.out 4).trans rfl; have hfz29_0 := Bf_ BK230.out 0; have hfz29_1 := Bf_ BK230.out 1; have hfz29_2 := Bf_ BK230.out 2; have hfz29_3 := Bf_ BK230.out 3; have hfz29_4 := Bf_ BK230.out 4; have hcz30_0 : w24.cell? ⟨gb232, 0, none⟩ = some (.int .i64 0) := (Bc_ BK232.out 0).trans rfl; have hcz30_1 : w24.cell? ⟨gb232, 1, none⟩ = some (.int .i64 0) := (Bc_ BK232.out 1).trans rfl; have hfz30_0 := Bf_ BK232.out 0; have hfz30_1 := Bf_ BK232.out 1))
    refine bodyPost_ret (results_ct rfl _ _ gb232 49 #[.int .i64 0, .int .i64 0] (0, 0) _ rfl (by (with_reducible repeat (first | refine Bn_ ?_ _ | refine Bd_ ?_ | refine Ba_ ?_ _)); refine blk_put (cs := #[.int .i64 0, .int .i64 0]) ?_ 1 _ rfl; (with_reducible repeat (first | refine Bn_ ?_ _ | refine Bd_ ?_ | refine Ba_ ?_ _)); refine blk_put (cs := #[.int .i64 0, .int .i64 0]) ?_ 0 _ rfl; (with_reducible repeat (first | refine Bn_ ?_ _ | refine Bd_ ?_ | refine Ba_ ?_ _)); exact BK232.out) Tryd.underlying49 rfl (by kernel_rfl)) rfl ?_
    exact ⟨by first | rfl | (simp [errW_none, errW_some] <;> rfl) | (simp [*, errW_none, errW_some] <;> rfl), by repeat (first | (with_reducible first | exact HB.out | apply Al_ | apply Dn_ | apply D1_ | refine Bs_ ?_ GE230.out | refine Bs_ ?_ GE231.out | refine Bs_ ?_ GE232.out) | exact HB.out)⟩
   ·
    rw [if_neg c21] at H
    have c21b0 : decide (a0_0 ≤ a1_0) = false := decide_eq_false c21
    clear c21
    by_cases c31 : a1_1 > (wrap64 (a0_0 - a1_0))
    ·
     rw [if_pos c31] at H
     have c31b0 : decide ((wrap64 (a0_0 - a1_0)) < a1_1) = true := decide_eq_true c31
     clear c31
     simp only [Option.some.injEq, Prod.mk.injEq] at H
     obtain ⟨rfl, rfl, rfl⟩ := H
     go_enter Tryd.func63, Tryd.ntmps63
     go_wp2_with (first | ((with_reducible refine gate_dst (N := 2) rfl ?_); refine box_event ?hg (N := 2) ?hd (cs := #[.int .i64 a0_0, .int .i64 a0_1, .slice A0_2 l0_2.length c0_2, .int .i64 a0_3, .slice A0_4 l0_4.length c0_4]) (t := 28) ?hr ?_; (case hd => rfl); (case hg => rfl); (case hr => first | (go_simp; done) | (go_simp; rfl)); intro gb230 hg w32 hbox hb; have n0_ := A0_ (below_step (by repeat (first | (with_reducible first | exact HB.out | apply Al_ | apply Dn_ | apply D1_) | exact HB.out)) hb); have n1_ := A0_ (hbox); have n2_ := A0_ ((by rw [hg]; exact (below_size (by repeat (first | (with_reducible first | exact HB.out | apply Al_ | apply Dn_ | apply D1_) | exact HB.out))) : w.heap.size ≤ gb230)); have n3_ := A0_ ((by rw [hg]; exact (below_size (by repeat (first | (with_reducible first | exact HB.out | apply Al_ | apply Dn_ | apply D1_) | exact HB.out))) : w.heap.size ≤ gb230)); clear HB; have HB := n0_; have BK230 := n1_; have GW230 := n2_; have GE230 := n3_; clear n0_ n1_ n2_ n3_ hb hbox hg) | ((with_reducible refine gate_dst (N := 3) rfl ?_); refine box_event ?hg (N := 3) ?hd (cs := #[.int .i64 a1_0, .int .i64 a1_1]) (t := 49) ?hr ?_; (case hd => rfl); (case hg => rfl); (case hr => first | (go_simp; done) | (go_simp; rfl)); intro gb231 hg w33 hbox hb; have n0_ := A0_ (blk_below (g := gb230) (o := .cells #[.int .i64 a0_0, .int .i64 a0_1, .slice A0_2 l0_2.length c0_2, .int .i64 a0_3, .slice A0_4 l0_4.length c0_4] 28 (0, 0)) (by (with_reducible repeat (first | refine Bn_ ?_ _ | refine Bd_ ?_ | refine Ba_ ?_ _)); exact BK230.out) hb); have n1_ := A0_ (below_step (by repeat (first | (with_reducible first | exact HB.out | apply Al_ | apply Dn_ | apply D1_ | refine Bs_ ?_ GE230.out) | exact HB.out)) hb); have n2_ := A0_ (hbox); have n3_ := A0_ ((by rw [hg]; exact (below_size (by repeat (first | (with_reducible first | exact HB.out | apply Al_ | apply Dn_ | apply D1_ | refine Bs_ ?_ GE230.out) | exact HB.out))) : w.heap.size ≤ gb231)); have n4_ := A0_ ((by rw [hg]; exact (below_size (by repeat (first | (with_reducible first | exact HB.out | apply Al_ | apply Dn_ | apply D1_ | refine Bs_ ?_ GE230.out) | exact HB.out))) : w.heap.size ≤ gb231)); have n5_ := A0_ ((by rw [hg]; exact Nat.ne_of_lt (blk_lt (g := gb230) (o := .cells #[.int .i64 a0_0, .int .i64 a0_1, .slice A0_2 l0_2.length c0_2, .int .i64 a0_3, .slice A0_4 l0_4.length c0_4] 28 (0, 0)) (by (with_reducible repeat (first | refine Bn_ ?_ _ | refine Bd_ ?_ | refine Ba_ ?_ _)); exact BK230.out)) : gb230 ≠ gb231)); have n6_ := A0_ ((by rw [hg]; exact Nat.ne_of_gt (blk_lt (g := gb230) (o := .cells #[.int .i64 a0_0, .int .i64 a0_1, .slice A0_2 l0_2.length c0_2, .int .i64 a0_3, .slice A0_4 l0_4.length c0_4] 28 (0, 0)) (by (with_reducible repeat (first | refine Bn_ ?_ _ | refine Bd_ ?_ | refine Ba_ ?_ _)); exact BK230.out)) : gb231 ≠ gb230)); clear BK230 HB; have BK230 := n0_; have HB := n1_; have BK231 := n2_; have GW231 := n3_; have GE231 := n4_; have NB230_231 := n5_; have NB231_230 := n6_; clear n0_ n1_ n2_ n3_ n4_ n5_ n6_ hb hbox hg) | ((with_reducible refine gate_dst (N := 4) rfl ?_); refine box_event ?hg (N := 4) ?hd (cs := #[.int .i64 0, .int .i64 0]) (t := 49) ?hr ?_; (case hd => rfl); (case hg => rfl); (case hr => first | (go_simp; done) | (go_simp; rfl)); intro gb232 hg w34 hbox hb; have n0_ := A0_ (blk_below (g := gb230) (o := .cells #[.int .i64 a0_0, .int .i64 a0_1, .slice A0_2 l0_2.length c0_2, .int .i64 a0_3, .slice A0_4 l0_4.length c0_4] 28 (0, 0)) (by (with_reducible repeat (first | refine Bn_ ?_ _ | refine Bd_ ?_ | refine Ba_ ?_ _)); exact BK230.out) hb); have n1_ := A0_ (blk_below (g := gb231) (o := .cells #[.int .i64 a1_0, .int .i64 a1_1] 49 (0, 0)) (by (with_reducible repeat (first | refine Bn_ ?_ _ | refine Bd_ ?_ | refine Ba_ ?_ _)); exact BK231.out) hb); have n2_ := A0_ (below_step (by repeat (first | (with_reducible first | exact HB.out | apply Al_ | apply Dn_ | apply D1_ | refine Bs_ ?_ GE230.out | refine Bs_ ?_ GE231.out) | exact HB.out)) hb); have n3_ := A0_ (hbox); have n4_ := A0_ ((by rw [hg]; exact (below_size (by repeat (first | (with_reducible first | exact HB.out | apply Al_ | apply Dn_ | apply D1_ | refine Bs_ ?_ GE230.out | refine Bs_ ?_ GE231.out) | exact HB.out))) : w.heap.size ≤ gb232)); have n5_ := A0_ ((by rw [hg]; exact (below_size (by repeat (first | (with_reducible first | exact HB.out | apply Al_ | apply Dn_ | apply D1_ | refine Bs_ ?_ GE230.out | refine Bs_ ?_ GE231.out) | exact HB.out))) : w.heap.size ≤ gb232)); have n6_ := A0_ ((by rw [hg]; exact Nat.ne_of_lt (blk_lt (g := gb230) (o := .cells #[.int .i64 a0_0, .int .i64 a0_1, .slice A0_2 l0_2.length c0_2, .int .i64 a0_3, .slice A0_4 l0_4.length c0_4] 28 (0, 0)) (by (with_reducible repeat (first | refine Bn_ ?_ _ | refine Bd_ ?_ | refine Ba_ ?_ _)); exact BK230.out)) : gb230 ≠ gb232)); have n7_ := A0_ ((by rw [hg]; exact Nat.ne_of_gt (blk_lt (g := gb230) (o := .cells #[.int .i64 a0_0, .int .i64 a0_1, .slice A0_2 l0_2.length c0_2, .int .i64 a0_3, .slice A0_4 l0_4.length c0_4] 28 (0, 0)) (by (with_reducible repeat (first | refine Bn_ ?_ _ | refine Bd_ ?_ | refine Ba_ ?_ _)); exact BK230.out)) : gb232 ≠ gb230)); have n8_ := A0_ ((by rw [hg]; exact Nat.ne_of_lt (blk_lt (g := gb231) (o := .cells #[.int .i64 a1_0, .int .i64 a1_1] 49 (0, 0)) (by (with_reducible repeat (first | refine Bn_ ?_ _ | refine Bd_ ?_ | refine Ba_ ?_ _)); exact BK231.out)) : gb231 ≠ gb232)); have n9_ := A0_ ((by rw [hg]; exact Nat.ne_of_gt (blk_lt (g := gb231) (o := .cells #[.int .i64 a1_0, .int .i64 a1_1] 49 (0, 0)) (by (with_reducible repeat (first | refine Bn_ ?_ _ | refine Bd_ ?_ | refine Ba_ ?_ _)); exact BK231.out)) : gb232 ≠ gb231)); clear BK230 BK231 HB; have BK230 := n0_; have BK231 := n1_; have HB := n2_; have BK232 := n3_; have GW232 := n4_; have GE232 := n5_; have NB230_232 := n6_; have NB232_230 := n7_; have NB231_232 := n8_; have NB232_231 := n9_; clear n0_ n1_ n2_ n3_ n4_ n5_ n6_ n7_ n8_ n9_ hb hbox hg; have hnb35 := NB231_230.out; have hnc35 := NB230_231.out; have hnb36 := NB231_232.out; have hnc36 := NB232_231.out; have hcz37_0 : w34.cell? ⟨gb231, 0, none⟩ = some (.int .i64 a1_0) := (Bc_ BK231.out 0).trans rfl; have hcz37_1 : w34.cell? ⟨gb231, 1, none⟩ = some (.int .i64 a1_1) := (Bc_ BK231.out 1).trans rfl; have hfz37_0 := Bf_ BK231.out 0; have hfz37_1 := Bf_ BK231.out 1; have hnb38 := NB230_232.out; have hnc38 := NB232_230.out; have hcz39_0 : w34.cell? ⟨gb230, 0, none⟩ = some (.int .i64 a0_0) := (Bc_ BK230.out 0).trans rfl; have hcz39_1 : w34.cell? ⟨gb230, 1, none⟩ = some (.int .i64 a0_1) := (Bc_ BK230.out 1).trans rfl; have hcz39_2 : w34.cell? ⟨gb230, 2, none⟩ = some (.slice A0_2 l0_2.length c0_2) := (Bc_ BK230.out 2).trans rfl; have hcz39_3 : w34.cell? ⟨gb230, 3, none⟩ = some (.int .i64 a0_3) := (Bc_ BK230.out 3).trans rfl; have hcz39_4 : w34.cell? ⟨gb230, 4, none⟩ = some (.slice A0_4 l0_4.length c0_4) := (Bc_ BK230.out 4).trans rfl; have hfz39_0 := Bf_ BK230.out 0; have hfz39_1 := Bf_ BK230.out 1; have hfz39_2 := Bf_ BK230.out 2; have hfz39_3 := Bf_ BK230.out 3; have hfz39_4 := Bf_ BK230.out 4; have hcz40_0 : w34.cell? ⟨gb232, 0, none⟩ = some (.int .i64 0) := (Bc_ BK232.out 0).trans rfl; have hcz40_1 : w34.cell? ⟨gb232, 1, none⟩ = some (.int .i64 0) := (Bc_ BK232.out 1).trans rfl; have hfz40_0 := Bf_ BK232.out 0; have hfz40_1 := Bf_ BK232.out 1))
     refine bodyPost_ret (results_ct rfl _ _ gb232 49 #[.int .i64 0, .int .i64 0] (0, 0) _ rfl (by (with_reducible repeat (first | refine Bn_ ?_ _ | refine Bd_ ?_ | refine Ba_ ?_ _)); refine blk_put (cs := #[.int .i64 0, .int .i64 0]) ?_ 1 _ rfl; (with_reducible repeat (first | refine Bn_ ?_ _ | refine Bd_ ?_ | refine Ba_ ?_ _)); refine blk_put (cs := #[.int .i64 0, .int .i64 0]) ?_ 0 _ rfl; (with_reducible repeat (first | refine Bn_ ?_ _ | refine Bd_ ?_ | refine Ba_ ?_ _)); exact BK232.out) Tryd.underlying49 rfl (by kernel_rfl)) rfl ?_
     exact ⟨by first | rfl | (simp [errW_none, errW_some] <;> rfl) | (simp [*, errW_none, errW_some] <;> rfl), by repeat (first | (with_reducible first | exact HB.out | apply Al_ | apply Dn_ | apply D1_ | refine Bs_ ?_ GE230.out | refine Bs_ ?_ GE231.out | refine Bs_ ?_ GE232.out) | exact HB.out)⟩
    ·
     rw [if_neg c31] at H
     have c31b0 : decide ((wrap64 (a0_0 - a1_0)) < a1_1) = false := decide_eq_false c31
     clear c31
     by_cases c41 : a0_1 = 0
     ·
      rw [if_pos c41] at H
      exact absurd H (by simp)
     ·
      rw [if_neg c41] at H
      have c41b0 : (a0_1 == 0) = false := beq_eq_false_iff_ne.mpr c41
      have c41b1 : (a0_1 != 0) = true := bne_iff_ne.mpr c41
      simp only [Option.some.injEq, Prod.mk.injEq] at H
      obtain ⟨rfl, rfl, rfl⟩ := H
      go_enter Tryd.func63, Tryd.ntmps63
      go_wp2_with (first | ((with_reducible refine gate_dst (N := 2) rfl ?_); refine box_event ?hg (N := 2) ?hd (cs := #[.int .i64 a0_0, .int .i64 a0_1, .slice A0_2 l0_2.length c0_2, .int .i64 a0_3, .slice A0_4 l0_4.length c0_4]) (t := 28) ?hr ?_; (case hd => rfl); (case hg => rfl); (case hr => first | (go_simp; done) | (go_simp; rfl)); intro gb230 hg w42 hbox hb; have n0_ := A0_ (below_step (by repeat (first | (with_reducible first | exact HB.out | apply Al_ | apply Dn_ | apply D1_) | exact HB.out)) hb); have n1_ := A0_ (hbox); have n2_ := A0_ ((by rw [hg]; exact (below_size (by repeat (first | (with_reducible first | exact HB.out | apply Al_ | apply Dn_ | apply D1_) | exact HB.out))) : w.heap.size ≤ gb230)); have n3_ := A0_ ((by rw [hg]; exact (below_size (by repeat (first | (with_reducible first | exact HB.out | apply Al_ | apply Dn_ | apply D1_) | exact HB.out))) : w.heap.size ≤ gb230)); clear HB; have HB := n0_; have BK230 := n1_; have GW230 := n2_; have GE230 := n3_; clear n0_ n1_ n2_ n3_ hb hbox hg) | ((with_reducible refine gate_dst (N := 3) rfl ?_); refine box_event ?hg (N := 3) ?hd (cs := #[.int .i64 a1_0, .int .i64 a1_1]) (t := 49) ?hr ?_; (case hd => rfl); (case hg => rfl); (case hr => first | (go_simp; done) | (go_simp; rfl)); intro gb231 hg w43 hbox hb; have n0_ := A0_ (blk_below (g := gb230) (o := .cells #[.int .i64 a0_0, .int .i64 a0_1, .slice A0_2 l0_2.length c0_2, .int .i64 a0_3, .slice A0_4 l0_4.length c0_4] 28 (0, 0)) (by (with_reducible repeat (first | refine Bn_ ?_ _ | refine Bd_ ?_ | refine Ba_ ?_ _)); exact BK230.out) hb); have n1_ := A0_ (below_step (by repeat (first | (with_reducible first | exact HB.out | apply Al_ | apply Dn_ | apply D1_ | refine Bs_ ?_ GE230.out) | exact HB.out)) hb); have n2_ := A0_ (hbox); have n3_ := A0_ ((by rw [hg]; exact (below_size (by repeat (first | (with_reducible first | exact HB.out | apply Al_ | apply Dn_ | apply D1_ | refine Bs_ ?_ GE230.out) | exact HB.out))) : w.heap.size ≤ gb231)); have n4_ := A0_ ((by rw [hg]; exact (below_size (by repeat (first | (with_reducible first | exact HB.out | apply Al_ | apply Dn_ | apply D1_ | refine Bs_ ?_ GE230.out) | exact HB.out))) : w.heap.size ≤ gb231)); have n5_ := A0_ ((by rw [hg]; exact Nat.ne_of_lt (blk_lt (g := gb230) (o := .cells #[.int .i64 a0_0, .int .i64 a0_1, .slice A0_2 l0_2.length c0_2, .int .i64 a0_3, .slice A0_4 l0_4.length c0_4] 28 (0, 0)) (by (with_reducible repeat (first | refine Bn_ ?_ _ | refine Bd_ ?_ | refine Ba_ ?_ _)); exact BK230.out)) : gb230 ≠ gb231)); have n6_ := A0_ ((by rw [hg]; exact Nat.ne_of_gt (blk_lt (g := gb230) (o := .cells #[.int .i64 a0_0, .int .i64 a0_1, .slice A0_2 l0_2.length c0_2, .int .i64 a0_3, .slice A0_4 l0_4.length c0_4] 28 (0, 0)) (by (with_reducible repeat (first | refine Bn_ ?_ _ | refine Bd_ ?_ | refine Ba_ ?_ _)); exact BK230.out)) : gb231 ≠ gb230)); clear BK230 HB; have BK230 := n0_; have HB := n1_; have BK231 := n2_; have GW231 := n3_; have GE231 := n4_; have NB230_231 := n5_; have NB231_230 := n6_; clear n0_ n1_ n2_ n3_ n4_ n5_ n6_ hb hbox hg) | ((with_reducible refine gate_dst (N := 4) rfl ?_); refine box_event ?hg (N := 4) ?hd (cs := #[.int .i64 0, .int .i64 0]) (t := 49) ?hr ?_; (case hd => rfl); (case hg => rfl); (case hr => first | (go_simp; done) | (go_simp; rfl)); intro gb232 hg w44 hbox hb; have n0_ := A0_ (blk_below (g := gb230) (o := .cells #[.int .i64 a0_0, .int .i64 a0_1, .slice A0_2 l0_2.length c0_2, .int .i64 a0_3, .slice A0_4 l0_4.length c0_4] 28 (0, 0)) (by (with_reducible repeat (first | refine Bn_ ?_ _ | refine Bd_ ?_ | refine Ba_ ?_ _)); exact BK230.out) hb); have n1_ := A0_ (blk_below (g := gb231) (o := .cells #[.int .i64 a1_0, .int .i64 a1_1] 49 (0, 0)) (by (with_reducible repeat (first | refine Bn_ ?_ _ | refine Bd_ ?_ | refine Ba_ ?_ _)); exact BK231.out) hb); have n2_ := A0_ (below_step (by repeat (first | (with_reducible first | exact HB.out | apply Al_ | apply Dn_ | apply D1_ | refine Bs_ ?_ GE230.out | refine Bs_ ?_ GE231.out) | exact HB.out)) hb); have n3_ := A0_ (hbox); have n4_ := A0_ ((by rw [hg]; exact (below_size (by repeat (first | (with_reducible first | exact HB.out | apply Al_ | apply Dn_ | apply D1_ | refine Bs_ ?_ GE230.out | refine Bs_ ?_ GE231.out) | exact HB.out))) : w.heap.size ≤ gb232)); have n5_ := A0_ ((by rw [hg]; exact (below_size (by repeat (first | (with_reducible first | exact HB.out | apply Al_ | apply Dn_ | apply D1_ | refine Bs_ ?_ GE230.out | refine Bs_ ?_ GE231.out) | exact HB.out))) : w.heap.size ≤ gb232)); have n6_ := A0_ ((by rw [hg]; exact Nat.ne_of_lt (blk_lt (g := gb230) (o := .cells #[.int .i64 a0_0, .int .i64 a0_1, .slice A0_2 l0_2.length c0_2, .int .i64 a0_3, .slice A0_4 l0_4.length c0_4] 28 (0, 0)) (by (with_reducible repeat (first | refine Bn_ ?_ _ | refine Bd_ ?_ | refine Ba_ ?_ _)); exact BK230.out)) : gb230 ≠ gb232)); have n7_ := A0_ ((by rw [hg]; exact Nat.ne_of_gt (blk_lt (g := gb230) (o := .cells #[.int .i64 a0_0, .int .i64 a0_1, .slice A0_2 l0_2.length c0_2, .int .i64 a0_3, .slice A0_4 l0_4.length c0_4] 28 (0, 0)) (by (with_reducible repeat (first | refine Bn_ ?_ _ | refine Bd_ ?_ | refine Ba_ ?_ _)); exact BK230.out)) : gb232 ≠ gb230)); have n8_ := A0_ ((by rw [hg]; exact Nat.ne_of_lt (blk_lt (g := gb231) (o := .cells #[.int .i64 a1_0, .int .i64 a1_1] 49 (0, 0)) (by (with_reducible repeat (first | refine Bn_ ?_ _ | refine Bd_ ?_ | refine Ba_ ?_ _)); exact BK231.out)) : gb231 ≠ gb232)); have n9_ := A0_ ((by rw [hg]; exact Nat.ne_of_gt (blk_lt (g := gb231) (o := .cells #[.int .i64 a1_0, .int .i64 a1_1] 49 (0, 0)) (by (with_reducible repeat (first | refine Bn_ ?_ _ | refine Bd_ ?_ | refine Ba_ ?_ _)); exact BK231.out)) : gb232 ≠ gb231)); clear BK230 BK231 HB; have BK230 := n0_; have BK231 := n1_; have HB := n2_; have BK232 := n3_; have GW232 := n4_; have GE232 := n5_; have NB230_232 := n6_; have NB232_230 := n7_; have NB231_232 := n8_; have NB232_231 := n9_; clear n0_ n1_ n2_ n3_ n4_ n5_ n6_ n7_ n8_ n9_ hb hbox hg; have hnb45 := NB231_230.out; have hnc45 := NB230_231.out; have hnb46 := NB231_232.out; have hnc46 := NB232_231.out; have hcz47_0 : w44.cell? ⟨gb231, 0, none⟩ = some (.int .i64 a1_0) := (Bc_ BK231.out 0).trans rfl; have hcz47_1 : w44.cell? ⟨gb231, 1, none⟩ = some (.int .i64 a1_1) := (Bc_ BK231.out 1).trans rfl; have hfz47_0 := Bf_ BK231.out 0; have hfz47_1 := Bf_ BK231.out 1; have hnb48 := NB230_232.out; have hnc48 := NB232_230.out; have hcz49_0 : w44.cell? ⟨gb230, 0, none⟩ = some (.int .i64 a0_0) := (Bc_ BK230.out 0).trans rfl; have hcz49_1 : w44.cell? ⟨gb230, 1, none⟩ = some (.int .i64 a0_1) := (Bc_ BK230.out 1).trans rfl; have hcz49_2 : w44.cell? ⟨gb230, 2, none⟩ = some (.slice A0_2 l0_2.length c0_2) := (Bc_ BK230.out 2).trans rfl; have hcz49_3 : w44.cell? ⟨gb230, 3, none⟩ = some (.int .i64 a0_3) := (Bc_ BK230.out 3).trans rfl; have hcz49_4 : w44.cell? ⟨gb230, 4, none⟩ = some (.slice A0_4 l0_4.length c0_4) := (Bc_ BK230.out 4).trans rfl; have hfz49_0 := Bf_ BK230.out 0; have hfz49_1 := Bf_ BK230.out 1; have hfz49_2 := Bf_ BK230.out 2; have hfz49_3 := Bf_ BK230.out 3; have hfz49_4 := Bf_ BK230.out 4; have hcz50_0 : w44.cell? ⟨gb232, 0, none⟩ = some (.int .i64 0) := (Bc_ BK232.out 0).trans rfl; have hcz50_1 : w44.cell? ⟨gb232, 1, none⟩ = some (.int .i64 0) := (Bc_ BK232.out 1).trans rfl; have hfz50_0 := Bf_ BK232.out 0; have hfz50_1 := Bf_ BK232.out 1))
      refine bodyPost_ret (results_ct rfl _ _ gb232 49 #[.int .i64 (wrap64 (Int.tdiv a1_0 a0_1)), .int .i64 (wrap64 ((wrap64 ((wrap64 (Int.tdiv (wrap64 ((wrap64 (a1_0 + a1_1)) - 1)) a0_1)) - (wrap64 (Int.tdiv a1_0 a0_1)))) + 1))] (0, 0) _ rfl (by (with_reducible repeat (first | refine Bn_ ?_ _ | refine Bd_ ?_ | refine Ba_ ?_ _)); refine blk_put (cs := #[.int .i64 (wrap64 (Int.tdiv a1_0 a0_1)), .int .i64 0]) ?_ 1 _ rfl; (with_reducible repeat (first | refine Bn_ ?_ _ | refine Bd_ ?_ | refine Ba_ ?_ _)); refine blk_put (cs := #[.int .i64 0, .int .i64 0]) ?_ 0 _ rfl; (with_reducible repeat (first | refine Bn_ ?_ _ | refine Bd_ ?_ | refine Ba_ ?_ _)); exact BK232.out) Tryd.underlying49 rfl (by kernel_rfl)) rfl ?_
      exact ⟨by first | rfl | (simp [errW_none, errW_some] <;> rfl) | (simp [*, errW_none, errW_some] <;> rfl), by repeat (first | (with_reducible first | exact HB.out | apply Al_ | apply Dn_ | apply D1_ | refine Bs_ ?_ GE230.out | refine Bs_ ?_ GE231.out | refine Bs_ ?_ GE232.out) | exact HB.out)⟩
end Go.Proofs.YtnjbdcnefienhaaDoor.P

namespace Go.Proofs.YtnjbdcnefienhaaDoor.P
open Go.RowKit Go.Proofs.YtnjbdcnefienhaaDoorW.PrintWords Go.Proofs.YtnjbdcnefienhaaDoorW.PrintLast Go.Proofs.YtnjbdcnefienhaaDoorW.PrintMore
def eachL (t c : Int) : List Int := (List.range c.toNat).map fun (j : Nat) => t + j
def chgA (one : Int → Int × Int) : List Int → List Int → List Int × Int
  | [], a => (a, 0)
  | x :: l, a => if (one (rd a x)).2 ≠ 0 then ([], (one (rd a x)).2) else chgA one l (a.set x.toNat (one (rd a x)).1)
def addOne (n : Int) : Int × Int := if n = 4096 then (0, 6) else (wrap64 (n + 1), 0)
def subOne (n : Int) : Int × Int := if n = 0 then (0, 12) else (wrap64 (n - 1), 0)
def isNew (ms : Int) (mw : List Int) (x : Int) : Bool := !(bGet.f 1 ms mw x).getD true
def chgI (one : Int → Int × Int) (sz gr : Int) (act : List Int) (ms : Int) (mw : List Int) (st ct : Int) : Option (List Int × Int × Int × Int) :=
  (iCheck.f 10000 sz gr act ms mw).bind fun c => if c ≠ 0 then some ([], 0, 0, c) else
  (itouched.f sz gr act ms mw st ct).bind fun t => if t.2.2 ≠ 0 then some ([], 0, 0, t.2.2) else
  if (chgA one (eachL t.1 t.2.1) act).2 ≠ 0 then some ([], 0, 0, (chgA one (eachL t.1 t.2.1) act).2) else some ((chgA one (eachL t.1 t.2.1) act).1, t.1, t.2.1, 0)
def iBegin.f (sz gr : Int) (act : List Int) (ms : Int) (mw : List Int) (st ct : Int) : Option (Int × Int × List Int × Int × List Int × Bool × Int) :=
  (chgI addOne sz gr act ms mw st ct).bind fun q => if q.2.2.2 ≠ 0 then some (0, 0, [], 0, [], false, q.2.2.2) else
  some (sz, gr, q.1, (bChange .or ms mw q.2.1 q.2.2.1).1, (bChange .or ms mw q.2.1 q.2.2.1).2.1, (eachL q.2.1 q.2.2.1).any (isNew ms mw), (bChange .or ms mw q.2.1 q.2.2.1).2.2)
def iEnd.f (sz gr : Int) (act : List Int) (ms : Int) (mw : List Int) (st ct : Int) : Option (Int × Int × List Int × Int × List Int × Int) :=
  (chgI subOne sz gr act ms mw st ct).bind fun q => if q.2.2.2 ≠ 0 then some (0, 0, [], 0, [], q.2.2.2) else some (sz, gr, q.1, ms, mw, 0)
theorem chgA_append (one : Int → Int × Int) (m : List Int) : ∀ (l a : List Int), (chgA one l a).2 = 0 → chgA one (l ++ m) a = chgA one m (chgA one l a).1
  | [], _, _ => rfl
  | x :: l, a, h => by
    rw [chgA] at h
    rw [List.cons_append, chgA, chgA]
    by_cases c : (one (rd a x)).2 ≠ 0
    · rw [if_pos c] at h; exact absurd h c
    · rw [if_neg c] at h
      rw [if_neg c, if_neg c, chgA_append one m l _ h]
theorem chgA_stop (one : Int → Int × Int) (m : List Int) : ∀ (l a : List Int), (chgA one l a).2 ≠ 0 → chgA one (l ++ m) a = chgA one l a
  | [], _, h => absurd rfl h
  | x :: l, a, h => by
    rw [chgA] at h
    rw [List.cons_append, chgA, chgA]
    by_cases c : (one (rd a x)).2 ≠ 0
    · rw [if_pos c, if_pos c]
    · rw [if_neg c] at h
      rw [if_neg c, if_neg c, chgA_stop one m l _ h]
theorem chgA_length (one : Int → Int × Int) : ∀ (l a : List Int), (chgA one l a).2 = 0 → (chgA one l a).1.length = a.length
  | [], _, _ => rfl
  | x :: l, a, h => by
    rw [chgA] at h ⊢
    by_cases c : (one (rd a x)).2 ≠ 0
    · rw [if_pos c] at h; exact absurd h c
    · rw [if_neg c] at h ⊢
      rw [chgA_length one l _ h, List.length_set]
theorem eachL_length (t c : Int) : (eachL t c).length = c.toNat := by simp [eachL]
theorem eachL_take (t c : Int) (k : Nat) (hk : k < c.toNat) : (eachL t c).take (k + 1) = (eachL t c).take k ++ [t + k] := by
  rw [List.take_add_one]
  congr 1
  unfold eachL
  rw [List.getElem?_map, List.getElem?_range hk]; rfl
end Go.Proofs.YtnjbdcnefienhaaDoor.P

namespace Go.Proofs.YtnjbdcnefienhaaDoor.P
open Go.RowKit Go.Proofs.YtnjbdcnefienhaaDoorW.PrintWords Go.Proofs.YtnjbdcnefienhaaDoorW.PrintLast Go.Proofs.YtnjbdcnefienhaaDoorW.PrintMore
def Gran (n : Int) : Type := { x : Int // 0 ≤ x ∧ x < n }
def valsG {n : Int} (l : List (Gran n)) : List Int := l.map (·.1)
theorem valsG_append {n : Int} (l m : List (Gran n)) : valsG (l ++ m) = valsG l ++ valsG m := by simp [valsG]
theorem valsG_length {n : Int} (l : List (Gran n)) : (valsG l).length = l.length := by simp [valsG]
structure EB (n₀ : Nat) (w₀ : World) (B : Nat) (t c : Int) (W : World) : Prop where
  below : Below n₀ w₀ W
  b1 : W.heap[B]? = some (.cells #[.int .i64 t, .int .i64 c] 49 (0, 0))
theorem EB.kp {n₀ : Nat} {w₀ : World} {B : Nat} {t c : Int} {X Y : World} (h : EB n₀ w₀ B t c X) (k : KpE n₀ B B X Y) : EB n₀ w₀ B t c Y := ⟨h.below.trans k.1, k.2.1.trans h.b1⟩
set_option maxHeartbeats 4000000 in
set_option maxRecDepth 100000 in
theorem each1 (n l : Nat) (n₀ : Nat) (w₀ : World) (B : Nat) (N t c : Int) (ht : 0 ≤ t) (hc : 0 ≤ c) (hN : t + c ≤ N) (hN2 : N ≤ 100000) (W : World) (hB : EB n₀ w₀ B t c W) (J Jx : List (Gran N) → World → Prop)
    (hY : ∀ pre x W, J pre W → pre.length < (eachL t c).length → YieldAt Fence.wide (n - 1) Tryd.prog l #[.int .i64 x.1] W fun e W' =>
      (e = .returned (.bool true) ∧ J (pre ++ [x]) W' ∧ KpE n₀ B B W W') ∨ (e = .returned (.bool false) ∧ Jx (pre ++ [x]) W')) (h0 : J [] W) :
    CallsIn Fence.wide n Tryd.prog 64 #[.func (.yield l) #[] #[], .pointer (some ⟨B, 0, none⟩)] W fun e W' => (∃ v, e = .returned v) ∧
      ((∃ xs, valsG xs = eachL t c ∧ J xs W') ∨ ∃ pre, valsG pre <+: eachL t c ∧ Jx pre W') := by
  have HB := Aside0.mk hB
  have HY := Aside0.mk hY
  have H0 := Aside0.mk h0
  obtain ⟨c10, c11, -, -⟩ := cells2 hB.b1
  clear hB hY h0
  refine callsIn_of_wp Tryd.func64 rfl trivial ?_ rfl
  simp only [Tryd.ntmps64, List.size_toArray, List.length_cons, List.length_nil, Nat.reduceAdd, Nat.reduceSub, Array.replicate_succ, Array.replicate_zero, List.push_toArray, List.append_toArray, List.nil_append, List.cons_append]
  gi_wp2
  clear c10 c11
  gi_loopw [6] (fun i wr => ∃ (k : Nat) (pre : List (Gran N)), (k : Int) ≤ c ∧ i = .int .i64 k ∧ Aside0 (valsG pre = (eachL t c).take k) ∧ Aside0 (J pre wr) ∧ Aside0 (EB n₀ w₀ B t c wr))
    (fun i _ => c.toNat - (intOf i).toNat)
  case atStart => exact ⟨0, [], by omega, rfl, ⟨rfl⟩, H0, HB⟩
  case round =>
    obtain ⟨k, pre, hk, rfl, HV, HJ, HE⟩ := hrel
    by_cases hlt : (k : Int) < c
    · obtain ⟨c10, c11, -, -⟩ := cells2 HE.out.b1
      obtain ⟨x, hx⟩ : ∃ x : Gran N, x.1 = t + k := ⟨⟨t + k, by omega, by omega⟩, rfl⟩
      have hlen : pre.length = k := by
        rw [← valsG_length, HV.out, List.length_take, eachL_length]; omega
      have HPRE : Aside0 (valsG (pre ++ [x]) = (eachL t c).take (k + 1)) := ⟨by
        rw [valsG_append, HV.out, eachL_take t c k (by omega)]
        simp [valsG, hx]⟩
      obtain ⟨fn, tmps, assign, body, hy, hR⟩ := HY.out pre x wr HJ.out (by rw [eachL_length]; omega)
      rw [hx] at hy
      have HRR := Aside0.mk hR
      clear hR
      gi_wp2
      refine ⟨fun h => (by cases h), HRR.out.mono ?_⟩
      rintro e W3 (⟨rfl, hJ3, hk3⟩ | ⟨rfl, hJx3⟩)
      · have HJ3 := Aside0.mk hJ3
        have HE3 := Aside0.mk (HE.out.kp hk3)
        clear hJ3 hk3 hy c10 c11
        gi_wp2
        refine ⟨⟨k + 1, pre ++ [x], by omega, by go_num, HPRE, HJ3, HE3⟩, ?_⟩
        simp [intOf]; omega
      · have HJ3 := Aside0.mk hJx3
        clear hJx3 hy c10 c11
        gi_wp2
        refine bodyPost_ret (results_none rfl _ _ _) rfl ?_
        exact ⟨⟨_, rfl⟩, .inr ⟨_, by rw [HPRE.out]; exact List.take_prefix _ _, HJ3.out⟩⟩
    · have hkc : (k : Int) = c := by omega
      gi_wp2
      go_end0
      exact ⟨⟨_, rfl⟩, .inl ⟨pre, by rw [HV.out]; exact List.take_of_length_le (by rw [eachL_length]; omega), HJ.out⟩⟩
theorem each_stops (n : Nat) (n₀ : Nat) (w₀ : World) (B : Nat) (N t c : Int) (ht : 0 ≤ t) (hc : 0 ≤ c) (hN : t + c ≤ N) (hN2 : N ≤ 100000) (W1 : World) (hE : EB n₀ w₀ B t c W1) (hn : n₀ ≤ W1.heap.size) :
    SeqStopsK Fence.wide n Tryd.prog 64 #[.pointer (some ⟨B, 0, none⟩)] (fun x : Gran N => #[Value.int .i64 x.1]) (KpE n₀ B B) (fun ys => valsG ys = eachL t c) (fun pre => valsG pre <+: eachL t c) (eachL t c).length W1 := fun l J Jx W hW _ _ hY h0 =>
  each1 n l n₀ w₀ B N t c ht hc hN hN2 W ⟨hE.below.trans (hW.mono hn), blk_of_below hE.b1 hW⟩ J Jx hY h0
theorem each_any (n : Nat) (t c : Int) (w : World) :
    CallsIn Fence.wide n Tryd.prog 40 #[.agg #[.int .i64 t, .int .i64 c]] w fun e w' => e = .returned (.func (.func 64) #[] #[.pointer (some ⟨w.heap.size, 0, none⟩)]) ∧ w' = w.alloc (.cells #[.int .i64 t, .int .i64 c] 49) := by
  refine callsIn_of_wp Tryd.func40 rfl trivial ?_ rfl
  simp only [Tryd.ntmps40, List.size_toArray, List.length_cons, List.length_nil, Nat.reduceAdd, Nat.reduceSub, Array.replicate_succ, Array.replicate_zero, List.push_toArray, List.append_toArray, List.nil_append, List.cons_append]
  gi_wp2
  go_ret
  exact ⟨rfl, rfl⟩
end Go.Proofs.YtnjbdcnefienhaaDoor.P
