/-
  Parts of the proof of the law ExtentOperates (part 4): what the functions it reaches come to, and the plain law. Conditions: those that each theorem names.
-/
import Derived.KernelRfl
import Derived.Test.YteeedheklnelkaaCExtentOperates3
namespace Go.Proofs.Yteeedheklnelkaa.P
open Go.RowKit Go.Proofs.YteeedheklnelkaaW.PrintWords Go.Proofs.YteeedheklnelkaaW.PrintLast Go.Proofs.YteeedheklnelkaaW.PrintMore
attribute [local go_sem] max2_int min2_int max_two min_two max_three min_three max_four min_four   -- for this text's walks alone
set_option linter.unusedVariables false
set_option linter.unusedSimpArgs false
def r01Count.l0 : Nat → List Bool → Int → Int → Option (Int)
  | 0, _, _, _ => none
  | k + 1, x3, x4, x5 => if x5 < (x3.length : Int) then (if 0 ≤ x5 then (if rdOf false x3 x5 = true then (r01Count.l0 k x3 (wrap64 (x4 + 1)) (wrap64 (x5 + 1))) else (r01Count.l0 k x3 x4 (wrap64 (x5 + 1)))) else (none)) else (some x4)
def r01Count.f (k : Nat) (l0 : List (S40)) : Option (Int) := (r01Marks.f k l0).bind fun t461 => (r01Count.l0 k t461 0 0)
set_option maxHeartbeats 8000000 in
set_option maxRecDepth 100000 in
theorem r01Count.calls (k : Nat) (A0 : Option Addr) (c0 : Nat) (l0 : List (S40)) (r : Int) (w : World) (hr0 : Kd.C k40 w A0 l0.length l0) (hc0 : l0.length ≤ c0) (h : r01Count.f k l0 = some r) :
    Calls Try.prog 32 #[.slice A0 l0.length c0] w fun e w' => e = .returned (.int .i64 r) ∧ Below w.heap.size w w' := by
  have HR0 := Aside0.mk hr0
  have HC0 := Aside0.mk hc0
  clear hr0 hc0
  have HB := Aside0.mk (Below.refl w.heap.size w)
  have H : ((r01Marks.f k l0).bind fun t461 => (r01Count.l0 k t461 0 0)) = some r := h
  clear h
  replace H := Option.bind_eq_some_iff.mp H
  obtain ⟨t461, A20, H⟩ := H
  replace H : (r01Count.l0 k t461 0 0) = some r := H
  have A2 := Aside0.mk A20
  clear A20
  have H' := Aside0.mk H
  clear H
  go_enter Try.func32, Try.ntmps32
  go_wp2_with (first | ((with_reducible refine gate_callee (f := 36) rfl ?_); refine goesL_ (some 7) rfl rfl Try.func36 (by kernel_rfl) rfl #[.slice A0 l0.length c0] rfl (by (try simp only [List.map_toArray, List.map_cons, List.map_nil]); first | done | rfl | (simp only [List.length_drop, List.length_take]; rfl)) ?_; (with_reducible refine (r01Marks.calls k _ _ l0 t461 _ ?side1 ?side2 A2.out).mono ?_); (case side1 => repeat (first | exact HR0.out | (with_reducible refine Kd.C_alloc ?_ _) | (with_reducible refine Kd.C_drewN ?_ _) | (with_reducible refine Kd.C_drew ?_))); (case side2 => exact HC0.out); rintro e w3 ⟨v462, rfl, ho0, hb⟩; refine ⟨_, rfl, ?_⟩; have n0_ := Aside0.mk (Kd.R_lower ho0 (below_size (by repeat (first | (with_reducible first | exact HB.out | apply below_alloc | apply pw_below_drewN | apply below_drew1) | exact HB.out)))); have n1_ := Aside0.mk (below_step (by repeat (first | (with_reducible first | exact HB.out | apply below_alloc | apply pw_below_drewN | apply below_drew1) | exact HB.out)) hb); clear HB; have HO463 := n0_; have HB := n1_; clear n0_ n1_; (try clear hb); (try clear hb2); (try clear hk); (try clear hi); (try clear ho0)))
  go_loopg [4, 5] k (fun kq v4 v5 w' => ∃ (x4_1 : Int) (x5_1 : Int), v4 = .int .i64 x4_1 ∧ v5 = .int .i64 x5_1 ∧ Aside0 (r01Count.l0 kq t461 x4_1 x5_1 = some r) ∧ Aside0 (kq ≤ k) ∧ Aside0 (Kd.R Kd.bool 4 w' w.heap.size (fun _ => True) v462 t461) ∧ Aside0 (Below w.heap.size w w'))
  case atStart => exact ⟨(0), (0), (by first | rfl | (simp; done) | (simp [*]; done)), (by first | rfl | (simp; done) | (simp [*]; done)), H', ⟨Nat.le_refl _⟩, ⟨by (with_reducible repeat (first | apply Kd.R_alloc | apply Kd.R_drewN | apply Kd.R_drew)); exact HO463.out⟩, ⟨by repeat (first | (with_reducible first | exact HB.out | apply below_alloc | apply pw_below_drewN | apply below_drew1) | exact HB.out)⟩⟩
  case round =>
    clear H'
    try clear p2
    try clear c3
    obtain ⟨x4_1, x5_1, rfl, rfl, HA, HK1, HO_3, HB⟩ := hrel
    cases gk with
    | zero => exact absurd HA.out (by simp [r01Count.l0])
    | succ k1 =>
      have H := HA.out
      clear HA
      simp only [r01Count.l0] at H
      by_cases c4 : x5_1 < (t461.length : Int)
      · rw [if_pos c4] at H
        have c4b0 : decide (x5_1 < (t461.length : Int)) = true := decide_eq_true c4
        clear c4
        by_cases c5 : 0 ≤ x5_1
        · rw [if_pos c5] at H
          have c5b0 : decide (0 ≤ x5_1) = true := decide_eq_true c5
          clear c5
          obtain ⟨bq6, hbq6⟩ : ∃ b_ : Bool, b_ = (rdOf false t461 x5_1) := ⟨_, rfl⟩
          replace H : (if bq6 = true then (r01Count.l0 k1 t461 (wrap64 (x4_1 + 1)) (wrap64 (x5_1 + 1))) else (r01Count.l0 k1 t461 x4_1 (wrap64 (x5_1 + 1)))) = some r := by rw [← hbq6] at H; exact H
          have Nbq6 := Aside0.mk hbq6
          clear hbq6
          by_cases c7 : bq6 = true
          · subst c7
            have H1 : (r01Count.l0 k1 t461 (wrap64 (x4_1 + 1)) (wrap64 (x5_1 + 1))) = some r := by rw [if_pos rfl] at H; exact H
            clear H
            have H := H1
            clear H1
            have H' := Aside0.mk H
            clear H
            obtain ⟨Ao8, co8, eo8⟩ := Kd.R_slice HO_3.out
            subst eo8
            have p464 : 0 ≤ (x5_1 : Int) := of_decide_eq_true (by first | (with_reducible assumption) | assumption)
            have q464 : x5_1 < (t461.length : Int) := of_decide_eq_true (by first | (with_reducible assumption) | assumption)
            obtain ⟨ad464, e464, hx464_0⟩ := Kd.at_bool (Kd.R_reads' HO_3.out).2.2 x5_1 p464 q464
            (try rw [← Nbq6.out] at hx464_0)
            cases e464
            replace p464 := eq_true p464
            replace q464 := eq_true q464
            go_wp2
            go_roundg k1
            case measure => have := HK1.out; omega
            case rel => exact ⟨(wrap64 (x4_1 + 1)), (wrap64 (x5_1 + 1)), (by first | rfl | (simp; done) | (simp [*]; done)), (by first | rfl | (simp; done) | (simp [*]; done)), H', ⟨by have := HK1.out; omega⟩, ⟨by (with_reducible repeat (first | apply Kd.R_alloc | apply Kd.R_drewN | apply Kd.R_drew)); exact HO_3.out⟩, ⟨by repeat (first | (with_reducible first | exact HB.out | apply below_alloc | apply pw_below_drewN | apply below_drew1) | exact HB.out)⟩⟩
          · replace c7 := Bool.eq_false_iff.mpr c7
            subst c7
            have H1 : (r01Count.l0 k1 t461 x4_1 (wrap64 (x5_1 + 1))) = some r := by rw [if_neg (show ¬ (false = true) by decide)] at H; exact H
            clear H
            have H := H1
            clear H1
            have H' := Aside0.mk H
            clear H
            obtain ⟨Ao9, co9, eo9⟩ := Kd.R_slice HO_3.out
            subst eo9
            have p464 : 0 ≤ (x5_1 : Int) := of_decide_eq_true (by first | (with_reducible assumption) | assumption)
            have q464 : x5_1 < (t461.length : Int) := of_decide_eq_true (by first | (with_reducible assumption) | assumption)
            obtain ⟨ad464, e464, hx464_0⟩ := Kd.at_bool (Kd.R_reads' HO_3.out).2.2 x5_1 p464 q464
            (try rw [← Nbq6.out] at hx464_0)
            cases e464
            replace p464 := eq_true p464
            replace q464 := eq_true q464
            go_wp2
            go_roundg k1
            case measure => have := HK1.out; omega
            case rel => exact ⟨(x4_1), (wrap64 (x5_1 + 1)), (by first | rfl | (simp; done) | (simp [*]; done)), (by first | rfl | (simp; done) | (simp [*]; done)), H', ⟨by have := HK1.out; omega⟩, ⟨by (with_reducible repeat (first | apply Kd.R_alloc | apply Kd.R_drewN | apply Kd.R_drew)); exact HO_3.out⟩, ⟨by repeat (first | (with_reducible first | exact HB.out | apply below_alloc | apply pw_below_drewN | apply below_drew1) | exact HB.out)⟩⟩
        · rw [if_neg c5] at H
          exact absurd H (by simp)
      · rw [if_neg c4] at H
        have c4b0 : decide (x5_1 < (t461.length : Int)) = false := decide_eq_false c4
        clear c4
        obtain rfl := Option.some.inj H
        obtain ⟨Ao10, co10, eo10⟩ := Kd.R_slice HO_3.out
        subst eo10
        go_wp2
        go_ret
        exact ⟨by first | rfl | (simp [errW_none, errW_some] <;> rfl) | (simp [*, errW_none, errW_some] <;> rfl), by repeat (first | (with_reducible first | exact HB.out | apply below_alloc | apply pw_below_drewN | apply below_drew1) | exact HB.out)⟩
def l01ExtentOperates.j0 : Nat → List (S40) → List (S40) → Bool → Option (Bool)
  | 0, _, _, _ => none
  | k + 1, x0, x1, x27 => if x27 = true then (some false) else ((xSubtract.f x0 x1).bind fun t481 => ((r01Subtract.f k x0 x1).bind fun t484 => ((r01Same.f k t481 t484).bind fun t487 => (if t487 = true then ((xCount.f k x0).bind fun t488 => ((r01Count.f k x0).bind fun t489 => (if t488 = t489 then ((l01awake.f k).bind fun t490 => (some t490)) else (some false)))) else (some false)))))
def l01ExtentOperates.f (k : Nat) (l0 : List (S40)) (l1 : List (S40)) : Option (Bool) := (l01few.f l0 l1).bind fun t465 => (if t465 = true then ((xUnion.f l0 l1).bind fun t467 => ((r01Union.f k l0 l1).bind fun t470 => ((r01Same.f k t467 t470).bind fun t473 => (if t473 = true then ((xIntersect.f l0 l1).bind fun t474 => ((r01Intersect.f k l0 l1).bind fun t477 => ((r01Same.f k t474 t477).bind fun t480 => (l01ExtentOperates.j0 k l0 l1 (!t480))))) else (l01ExtentOperates.j0 k l0 l1 true))))) else ((l01awake.f k).bind fun t466 => (some t466)))
set_option maxHeartbeats 8000000 in
set_option maxRecDepth 100000 in
theorem l01ExtentOperates.calls (k : Nat) (A0 : Option Addr) (c0 : Nat) (l0 : List (S40)) (A1 : Option Addr) (c1 : Nat) (l1 : List (S40)) (r : Bool) (w : World) (hr0 : Kd.C k40 w A0 l0.length l0) (hc0 : l0.length ≤ c0) (hr1 : Kd.C k40 w A1 l1.length l1) (hc1 : l1.length ≤ c1) (hT : Aside0 (r = true)) (h : l01ExtentOperates.f k l0 l1 = some r) :
    Calls Try.prog 8 #[.slice A0 l0.length c0, .slice A1 l1.length c1] w fun e w' => e = .returned (.bool r) ∧ Below w.heap.size w w' := by
  have HR0 := Aside0.mk hr0
  have HC0 := Aside0.mk hc0
  clear hr0 hc0
  have HR1 := Aside0.mk hr1
  have HC1 := Aside0.mk hc1
  clear hr1 hc1
  have HB := Aside0.mk (Below.refl w.heap.size w)
  have H : ((l01few.f l0 l1).bind fun t465 => (if t465 = true then ((xUnion.f l0 l1).bind fun t467 => ((r01Union.f k l0 l1).bind fun t470 => ((r01Same.f k t467 t470).bind fun t473 => (if t473 = true then ((xIntersect.f l0 l1).bind fun t474 => ((r01Intersect.f k l0 l1).bind fun t477 => ((r01Same.f k t474 t477).bind fun t480 => (l01ExtentOperates.j0 k l0 l1 (!t480))))) else (l01ExtentOperates.j0 k l0 l1 true))))) else ((l01awake.f k).bind fun t466 => (some t466)))) = some r := h
  clear h
  replace H := Option.bind_eq_some_iff.mp H
  obtain ⟨t465, A30, H⟩ := H
  replace H : (if t465 = true then ((xUnion.f l0 l1).bind fun t467 => ((r01Union.f k l0 l1).bind fun t470 => ((r01Same.f k t467 t470).bind fun t473 => (if t473 = true then ((xIntersect.f l0 l1).bind fun t474 => ((r01Intersect.f k l0 l1).bind fun t477 => ((r01Same.f k t474 t477).bind fun t480 => (l01ExtentOperates.j0 k l0 l1 (!t480))))) else (l01ExtentOperates.j0 k l0 l1 true))))) else ((l01awake.f k).bind fun t466 => (some t466))) = some r := H
  have A3 := Aside0.mk A30
  clear A30
  by_cases c4 : t465 = true
  · subst c4
    have H1 : ((xUnion.f l0 l1).bind fun t467 => ((r01Union.f k l0 l1).bind fun t470 => ((r01Same.f k t467 t470).bind fun t473 => (if t473 = true then ((xIntersect.f l0 l1).bind fun t474 => ((r01Intersect.f k l0 l1).bind fun t477 => ((r01Same.f k t474 t477).bind fun t480 => (l01ExtentOperates.j0 k l0 l1 (!t480))))) else (l01ExtentOperates.j0 k l0 l1 true))))) = some r := by rw [if_pos rfl] at H; exact H
    clear H
    have H := H1
    clear H1
    have HC5 := Aside0.mk H
    clear H
    go_enter Try.func8, Try.ntmps8
    go_upto_region 3 with (first | ((with_reducible refine gate_callee (f := 12) rfl ?_); refine goesL_ (some 7) rfl rfl Try.func12 (by kernel_rfl) rfl #[.slice A0 l0.length c0, .slice A1 l1.length c1] rfl (by (try simp only [List.map_toArray, List.map_cons, List.map_nil]); first | done | rfl | (simp only [List.length_drop, List.length_take]; rfl)) ?_; (with_reducible refine (l01few.calls _ _ l0 _ _ l1 true _ ?side1 ?side2 ?side3 ?side4 A3.out).mono ?_); (case side1 => repeat (first | exact HR0.out | (with_reducible refine Kd.C_alloc ?_ _) | (with_reducible refine Kd.C_drewN ?_ _) | (with_reducible refine Kd.C_drew ?_))); (case side2 => exact HC0.out); (case side3 => repeat (first | exact HR1.out | (with_reducible refine Kd.C_alloc ?_ _) | (with_reducible refine Kd.C_drewN ?_ _) | (with_reducible refine Kd.C_drew ?_))); (case side4 => exact HC1.out); rintro e w' ⟨rfl, ⟨nd, rfl⟩⟩; refine ⟨_, rfl, ?_⟩))
    (try simp only [Act.put, List.setIfInBounds_toArray, List.set_cons_zero, List.set_cons_succ])
    go_cut [27] (fun v27 wc => ∃ (kq : Nat) (x27_4 : Bool), v27 = .bool x27_4 ∧ Aside0 (l01ExtentOperates.j0 kq l0 l1 x27_4 = some r) ∧ Aside0 (kq ≤ k) ∧ Aside0 (Below w.heap.size w wc))
    case first =>
      have H := HC5.out
      clear HC5
      replace H := Option.bind_eq_some_iff.mp H
      obtain ⟨t467, A60, H⟩ := H
      replace H : ((r01Union.f k l0 l1).bind fun t470 => ((r01Same.f k t467 t470).bind fun t473 => (if t473 = true then ((xIntersect.f l0 l1).bind fun t474 => ((r01Intersect.f k l0 l1).bind fun t477 => ((r01Same.f k t474 t477).bind fun t480 => (l01ExtentOperates.j0 k l0 l1 (!t480))))) else (l01ExtentOperates.j0 k l0 l1 true)))) = some r := H
      have A6 := Aside0.mk A60
      clear A60
      replace H := Option.bind_eq_some_iff.mp H
      obtain ⟨t470, A70, H⟩ := H
      replace H : ((r01Same.f k t467 t470).bind fun t473 => (if t473 = true then ((xIntersect.f l0 l1).bind fun t474 => ((r01Intersect.f k l0 l1).bind fun t477 => ((r01Same.f k t474 t477).bind fun t480 => (l01ExtentOperates.j0 k l0 l1 (!t480))))) else (l01ExtentOperates.j0 k l0 l1 true))) = some r := H
      have A7 := Aside0.mk A70
      clear A70
      replace H := Option.bind_eq_some_iff.mp H
      obtain ⟨t473, A80, H⟩ := H
      replace H : (if t473 = true then ((xIntersect.f l0 l1).bind fun t474 => ((r01Intersect.f k l0 l1).bind fun t477 => ((r01Same.f k t474 t477).bind fun t480 => (l01ExtentOperates.j0 k l0 l1 (!t480))))) else (l01ExtentOperates.j0 k l0 l1 true)) = some r := H
      have A8 := Aside0.mk A80
      clear A80
      by_cases c9 : t473 = true
      · subst c9
        have H1 : ((xIntersect.f l0 l1).bind fun t474 => ((r01Intersect.f k l0 l1).bind fun t477 => ((r01Same.f k t474 t477).bind fun t480 => (l01ExtentOperates.j0 k l0 l1 (!t480))))) = some r := by rw [if_pos rfl] at H; exact H
        clear H
        have H := H1
        clear H1
        replace H := Option.bind_eq_some_iff.mp H
        obtain ⟨t474, A100, H⟩ := H
        replace H : ((r01Intersect.f k l0 l1).bind fun t477 => ((r01Same.f k t474 t477).bind fun t480 => (l01ExtentOperates.j0 k l0 l1 (!t480)))) = some r := H
        have A10 := Aside0.mk A100
        clear A100
        replace H := Option.bind_eq_some_iff.mp H
        obtain ⟨t477, A110, H⟩ := H
        replace H : ((r01Same.f k t474 t477).bind fun t480 => (l01ExtentOperates.j0 k l0 l1 (!t480))) = some r := H
        have A11 := Aside0.mk A110
        clear A110
        replace H := Option.bind_eq_some_iff.mp H
        obtain ⟨t480, A120, H⟩ := H
        replace H : (l01ExtentOperates.j0 k l0 l1 (!t480)) = some r := H
        have A12 := Aside0.mk A120
        clear A120
        have H' := Aside0.mk H
        clear H
        go_wp2_with (first | ((with_reducible refine gate_callee (f := 25) rfl ?_); refine goesL_ (some 12) rfl rfl Try.func25 (by kernel_rfl) rfl #[.slice A0 l0.length c0, .slice A1 l1.length c1] rfl (by (try simp only [List.map_toArray, List.map_cons, List.map_nil]); first | done | rfl | (simp only [List.length_drop, List.length_take]; rfl)) ?_; (with_reducible refine (xUnion.calls _ _ l0 _ _ l1 t467 _ ?side1 ?side2 ?side3 ?side4 A6.out).mono ?_); (case side1 => repeat (first | exact (Kd.C_below HR0.out HB.out) | (with_reducible refine Kd.C_alloc ?_ _) | (with_reducible refine Kd.C_drewN ?_ _) | (with_reducible refine Kd.C_drew ?_))); (case side2 => exact HC0.out); (case side3 => repeat (first | exact (Kd.C_below HR1.out HB.out) | (with_reducible refine Kd.C_alloc ?_ _) | (with_reducible refine Kd.C_drewN ?_ _) | (with_reducible refine Kd.C_drew ?_))); (case side4 => exact HC1.out); rintro e w13 ⟨v468, rfl, ho0, hb⟩; refine ⟨_, rfl, ?_⟩; have n0_ := Aside0.mk (Kd.R_lower ho0 (below_size (by repeat (first | (with_reducible first | exact HB.out | apply below_alloc | apply pw_below_drewN | apply below_drew1) | exact HB.out)))); have n1_ := Aside0.mk (below_step (by repeat (first | (with_reducible first | exact HB.out | apply below_alloc | apply pw_below_drewN | apply below_drew1) | exact HB.out)) hb); clear HB; have HO469 := n0_; have HB := n1_; clear n0_ n1_; (try clear hb); (try clear hb2); (try clear hk); (try clear hi); (try clear ho0)) | ((with_reducible refine gate_callee (f := 26) rfl ?_); refine goesL_ (some 15) rfl rfl Try.func26 (by kernel_rfl) rfl #[.slice A0 l0.length c0, .slice A1 l1.length c1] rfl (by (try simp only [List.map_toArray, List.map_cons, List.map_nil]); first | done | rfl | (simp only [List.length_drop, List.length_take]; rfl)) ?_; (with_reducible refine (r01Union.calls k _ _ l0 _ _ l1 t470 _ ?side1 ?side2 ?side3 ?side4 A7.out).mono ?_); (case side1 => repeat (first | exact (Kd.C_below HR0.out HB.out) | (with_reducible refine Kd.C_alloc ?_ _) | (with_reducible refine Kd.C_drewN ?_ _) | (with_reducible refine Kd.C_drew ?_))); (case side2 => exact HC0.out); (case side3 => repeat (first | exact (Kd.C_below HR1.out HB.out) | (with_reducible refine Kd.C_alloc ?_ _) | (with_reducible refine Kd.C_drewN ?_ _) | (with_reducible refine Kd.C_drew ?_))); (case side4 => exact HC1.out); rintro e w14 ⟨v471, rfl, ho0, hb⟩; refine ⟨_, rfl, ?_⟩; have n0_ := Aside0.mk (Kd.R_elder' (by (with_reducible repeat (first | apply Kd.R_alloc | apply Kd.R_drewN | apply Kd.R_drew)); exact HO469.out) (Kd.R_base ho0) hb); have n1_ := Aside0.mk (Kd.R_lower (Kd.R_new' ho0 (Kd.R_lt (by (with_reducible repeat (first | apply Kd.R_alloc | apply Kd.R_drewN | apply Kd.R_drew)); exact HO469.out))) (below_size (by repeat (first | (with_reducible first | exact HB.out | apply below_alloc | apply pw_below_drewN | apply below_drew1) | exact HB.out)))); have n2_ := Aside0.mk (below_step (by repeat (first | (with_reducible first | exact HB.out | apply below_alloc | apply pw_below_drewN | apply below_drew1) | exact HB.out)) hb); clear HO469; clear HB; have HO469 := n0_; have HO472 := n1_; have HB := n2_; clear n0_ n1_ n2_; (try clear hb); (try clear hb2); (try clear hk); (try clear hi); (try clear ho0); obtain ⟨Ao15, co15, eo15⟩ := Kd.R_slice HO469.out; subst eo15; obtain ⟨Ao16, co16, eo16⟩ := Kd.R_slice HO472.out; subst eo16) | ((with_reducible refine gate_callee (f := 18) rfl ?_); refine goesL_ (some 16) rfl rfl Try.func18 (by kernel_rfl) rfl #[.slice Ao15 t467.length co15, .slice Ao16 t470.length co16] rfl (by (try simp only [List.map_toArray, List.map_cons, List.map_nil]); first | done | rfl | (simp only [List.length_drop, List.length_take]; rfl)) ?_; (with_reducible refine (r01Same.calls k _ _ t467 _ _ t470 true _ ?side1 ?side2 ?side3 ?side4 A8.out).mono ?_); (case side1 => repeat (first | exact (Kd.R_reads' HO469.out).2.2 | (with_reducible refine Kd.C_alloc ?_ _) | (with_reducible refine Kd.C_drewN ?_ _) | (with_reducible refine Kd.C_drew ?_))); (case side2 => exact (Kd.R_reads' HO469.out).2.1); (case side3 => repeat (first | exact (Kd.R_reads' HO472.out).2.2 | (with_reducible refine Kd.C_alloc ?_ _) | (with_reducible refine Kd.C_drewN ?_ _) | (with_reducible refine Kd.C_drew ?_))); (case side4 => exact (Kd.R_reads' HO472.out).2.1); rintro e w' ⟨rfl, ⟨nd, rfl⟩⟩; refine ⟨_, rfl, ?_⟩) | (go_at_call 27; (with_reducible refine (xIntersect.calls _ _ l0 _ _ l1 t474 _ ?side1 ?side2 ?side3 ?side4 A10.out).mono ?_); (case side1 => repeat (first | exact (Kd.C_below HR0.out (by repeat (first | (with_reducible first | exact HB.out | apply below_alloc | apply pw_below_drewN | apply below_drew1) | exact HB.out))) | (with_reducible refine Kd.C_alloc ?_ _) | (with_reducible refine Kd.C_drewN ?_ _) | (with_reducible refine Kd.C_drew ?_))); (case side2 => exact HC0.out); (case side3 => repeat (first | exact (Kd.C_below HR1.out (by repeat (first | (with_reducible first | exact HB.out | apply below_alloc | apply pw_below_drewN | apply below_drew1) | exact HB.out))) | (with_reducible refine Kd.C_alloc ?_ _) | (with_reducible refine Kd.C_drewN ?_ _) | (with_reducible refine Kd.C_drew ?_))); (case side4 => exact HC1.out); rintro e w17 ⟨v475, rfl, ho0, hb⟩; have n0_ := Aside0.mk (Kd.R_elder' (by (with_reducible repeat (first | apply Kd.R_alloc | apply Kd.R_drewN | apply Kd.R_drew)); exact HO469.out) (Kd.R_base ho0) hb); have n1_ := Aside0.mk (Kd.R_elder' (by (with_reducible repeat (first | apply Kd.R_alloc | apply Kd.R_drewN | apply Kd.R_drew)); exact HO472.out) (Kd.R_base ho0) hb); have n2_ := Aside0.mk (Kd.R_lower (Kd.R_new' (Kd.R_new' ho0 (Kd.R_lt (by (with_reducible repeat (first | apply Kd.R_alloc | apply Kd.R_drewN | apply Kd.R_drew)); exact HO469.out))) (Kd.R_lt (by (with_reducible repeat (first | apply Kd.R_alloc | apply Kd.R_drewN | apply Kd.R_drew)); exact HO472.out))) (below_size (by repeat (first | (with_reducible first | exact HB.out | apply below_alloc | apply pw_below_drewN | apply below_drew1) | exact HB.out)))); have n3_ := Aside0.mk (below_step (by repeat (first | (with_reducible first | exact HB.out | apply below_alloc | apply pw_below_drewN | apply below_drew1) | exact HB.out)) hb); clear HO469; clear HO472; clear HB; have HO469 := n0_; have HO472 := n1_; have HO476 := n2_; have HB := n3_; clear n0_ n1_ n2_ n3_; (try clear hb); (try clear hb2); (try clear hk); (try clear hi); (try clear ho0)) | (go_at_call 28; (with_reducible refine (r01Intersect.calls k _ _ l0 _ _ l1 t477 _ ?side1 ?side2 ?side3 ?side4 A11.out).mono ?_); (case side1 => repeat (first | exact (Kd.C_below HR0.out HB.out) | (with_reducible refine Kd.C_alloc ?_ _) | (with_reducible refine Kd.C_drewN ?_ _) | (with_reducible refine Kd.C_drew ?_))); (case side2 => exact HC0.out); (case side3 => repeat (first | exact (Kd.C_below HR1.out HB.out) | (with_reducible refine Kd.C_alloc ?_ _) | (with_reducible refine Kd.C_drewN ?_ _) | (with_reducible refine Kd.C_drew ?_))); (case side4 => exact HC1.out); rintro e w18 ⟨v478, rfl, ho0, hb⟩; have n0_ := Aside0.mk (Kd.R_elder' (by (with_reducible repeat (first | apply Kd.R_alloc | apply Kd.R_drewN | apply Kd.R_drew)); exact HO469.out) (Kd.R_base ho0) hb); have n1_ := Aside0.mk (Kd.R_elder' (by (with_reducible repeat (first | apply Kd.R_alloc | apply Kd.R_drewN | apply Kd.R_drew)); exact HO472.out) (Kd.R_base ho0) hb); have n2_ := Aside0.mk (Kd.R_elder' (by (with_reducible repeat (first | apply Kd.R_alloc | apply Kd.R_drewN | apply Kd.R_drew)); exact HO476.out) (Kd.R_base ho0) hb); have n3_ := Aside0.mk (Kd.R_lower (Kd.R_new' (Kd.R_new' (Kd.R_new' ho0 (Kd.R_lt (by (with_reducible repeat (first | apply Kd.R_alloc | apply Kd.R_drewN | apply Kd.R_drew)); exact HO469.out))) (Kd.R_lt (by (with_reducible repeat (first | apply Kd.R_alloc | apply Kd.R_drewN | apply Kd.R_drew)); exact HO472.out))) (Kd.R_lt (by (with_reducible repeat (first | apply Kd.R_alloc | apply Kd.R_drewN | apply Kd.R_drew)); exact HO476.out))) (below_size (by repeat (first | (with_reducible first | exact HB.out | apply below_alloc | apply pw_below_drewN | apply below_drew1) | exact HB.out)))); have n4_ := Aside0.mk (below_step (by repeat (first | (with_reducible first | exact HB.out | apply below_alloc | apply pw_below_drewN | apply below_drew1) | exact HB.out)) hb); clear HO469; clear HO472; clear HO476; clear HB; have HO469 := n0_; have HO472 := n1_; have HO476 := n2_; have HO479 := n3_; have HB := n4_; clear n0_ n1_ n2_ n3_ n4_; (try clear hb); (try clear hb2); (try clear hk); (try clear hi); (try clear ho0); obtain ⟨Ao19, co19, eo19⟩ := Kd.R_slice HO476.out; subst eo19; obtain ⟨Ao20, co20, eo20⟩ := Kd.R_slice HO479.out; subst eo20) | (go_at_call 18; (with_reducible refine (r01Same.calls k _ _ t474 _ _ t477 t480 _ ?side1 ?side2 ?side3 ?side4 A12.out).mono ?_); (case side1 => repeat (first | exact (Kd.R_reads' HO476.out).2.2 | (with_reducible refine Kd.C_alloc ?_ _) | (with_reducible refine Kd.C_drewN ?_ _) | (with_reducible refine Kd.C_drew ?_))); (case side2 => exact (Kd.R_reads' HO476.out).2.1); (case side3 => repeat (first | exact (Kd.R_reads' HO479.out).2.2 | (with_reducible refine Kd.C_alloc ?_ _) | (with_reducible refine Kd.C_drewN ?_ _) | (with_reducible refine Kd.C_drew ?_))); (case side4 => exact (Kd.R_reads' HO479.out).2.1); rintro e w' ⟨rfl, ⟨nd, rfl⟩⟩))
        go_meet
        case rel => exact ⟨_, (!t480), (by first | rfl | (simp; done) | (simp [*]; done)), H', ⟨by first | omega | exact Nat.le_refl _⟩, ⟨by repeat (first | (with_reducible first | exact HB.out | apply below_alloc | apply pw_below_drewN | apply below_drew1) | exact HB.out)⟩⟩
      · replace c9 := Bool.eq_false_iff.mpr c9
        subst c9
        have H1 : (l01ExtentOperates.j0 k l0 l1 true) = some r := by rw [if_neg (show ¬ (false = true) by decide)] at H; exact H
        clear H
        have H := H1
        clear H1
        have H' := Aside0.mk H
        clear H
        go_wp2_with (first | ((with_reducible refine gate_callee (f := 25) rfl ?_); refine goesL_ (some 12) rfl rfl Try.func25 (by kernel_rfl) rfl #[.slice A0 l0.length c0, .slice A1 l1.length c1] rfl (by (try simp only [List.map_toArray, List.map_cons, List.map_nil]); first | done | rfl | (simp only [List.length_drop, List.length_take]; rfl)) ?_; (with_reducible refine (xUnion.calls _ _ l0 _ _ l1 t467 _ ?side1 ?side2 ?side3 ?side4 A6.out).mono ?_); (case side1 => repeat (first | exact (Kd.C_below HR0.out HB.out) | (with_reducible refine Kd.C_alloc ?_ _) | (with_reducible refine Kd.C_drewN ?_ _) | (with_reducible refine Kd.C_drew ?_))); (case side2 => exact HC0.out); (case side3 => repeat (first | exact (Kd.C_below HR1.out HB.out) | (with_reducible refine Kd.C_alloc ?_ _) | (with_reducible refine Kd.C_drewN ?_ _) | (with_reducible refine Kd.C_drew ?_))); (case side4 => exact HC1.out); rintro e w21 ⟨v468, rfl, ho0, hb⟩; refine ⟨_, rfl, ?_⟩; have n0_ := Aside0.mk (Kd.R_lower ho0 (below_size (by repeat (first | (with_reducible first | exact HB.out | apply below_alloc | apply pw_below_drewN | apply below_drew1) | exact HB.out)))); have n1_ := Aside0.mk (below_step (by repeat (first | (with_reducible first | exact HB.out | apply below_alloc | apply pw_below_drewN | apply below_drew1) | exact HB.out)) hb); clear HB; have HO469 := n0_; have HB := n1_; clear n0_ n1_; (try clear hb); (try clear hb2); (try clear hk); (try clear hi); (try clear ho0)) | ((with_reducible refine gate_callee (f := 26) rfl ?_); refine goesL_ (some 15) rfl rfl Try.func26 (by kernel_rfl) rfl #[.slice A0 l0.length c0, .slice A1 l1.length c1] rfl (by (try simp only [List.map_toArray, List.map_cons, List.map_nil]); first | done | rfl | (simp only [List.length_drop, List.length_take]; rfl)) ?_; (with_reducible refine (r01Union.calls k _ _ l0 _ _ l1 t470 _ ?side1 ?side2 ?side3 ?side4 A7.out).mono ?_); (case side1 => repeat (first | exact (Kd.C_below HR0.out HB.out) | (with_reducible refine Kd.C_alloc ?_ _) | (with_reducible refine Kd.C_drewN ?_ _) | (with_reducible refine Kd.C_drew ?_))); (case side2 => exact HC0.out); (case side3 => repeat (first | exact (Kd.C_below HR1.out HB.out) | (with_reducible refine Kd.C_alloc ?_ _) | (with_reducible refine Kd.C_drewN ?_ _) | (with_reducible refine Kd.C_drew ?_))); (case side4 => exact HC1.out); rintro e w22 ⟨v471, rfl, ho0, hb⟩; refine ⟨_, rfl, ?_⟩; have n0_ := Aside0.mk (Kd.R_elder' (by (with_reducible repeat (first | apply Kd.R_alloc | apply Kd.R_drewN | apply Kd.R_drew)); exact HO469.out) (Kd.R_base ho0) hb); have n1_ := Aside0.mk (Kd.R_lower (Kd.R_new' ho0 (Kd.R_lt (by (with_reducible repeat (first | apply Kd.R_alloc | apply Kd.R_drewN | apply Kd.R_drew)); exact HO469.out))) (below_size (by repeat (first | (with_reducible first | exact HB.out | apply below_alloc | apply pw_below_drewN | apply below_drew1) | exact HB.out)))); have n2_ := Aside0.mk (below_step (by repeat (first | (with_reducible first | exact HB.out | apply below_alloc | apply pw_below_drewN | apply below_drew1) | exact HB.out)) hb); clear HO469; clear HB; have HO469 := n0_; have HO472 := n1_; have HB := n2_; clear n0_ n1_ n2_; (try clear hb); (try clear hb2); (try clear hk); (try clear hi); (try clear ho0); obtain ⟨Ao23, co23, eo23⟩ := Kd.R_slice HO469.out; subst eo23; obtain ⟨Ao24, co24, eo24⟩ := Kd.R_slice HO472.out; subst eo24) | ((with_reducible refine gate_callee (f := 18) rfl ?_); refine goesL_ (some 16) rfl rfl Try.func18 (by kernel_rfl) rfl #[.slice Ao23 t467.length co23, .slice Ao24 t470.length co24] rfl (by (try simp only [List.map_toArray, List.map_cons, List.map_nil]); first | done | rfl | (simp only [List.length_drop, List.length_take]; rfl)) ?_; (with_reducible refine (r01Same.calls k _ _ t467 _ _ t470 false _ ?side1 ?side2 ?side3 ?side4 A8.out).mono ?_); (case side1 => repeat (first | exact (Kd.R_reads' HO469.out).2.2 | (with_reducible refine Kd.C_alloc ?_ _) | (with_reducible refine Kd.C_drewN ?_ _) | (with_reducible refine Kd.C_drew ?_))); (case side2 => exact (Kd.R_reads' HO469.out).2.1); (case side3 => repeat (first | exact (Kd.R_reads' HO472.out).2.2 | (with_reducible refine Kd.C_alloc ?_ _) | (with_reducible refine Kd.C_drewN ?_ _) | (with_reducible refine Kd.C_drew ?_))); (case side4 => exact (Kd.R_reads' HO472.out).2.1); rintro e w' ⟨rfl, ⟨nd, rfl⟩⟩; refine ⟨_, rfl, ?_⟩))
        go_meet
        case rel => exact ⟨_, (true), (by first | rfl | (simp; done) | (simp [*]; done)), H', ⟨by first | omega | exact Nat.le_refl _⟩, ⟨by repeat (first | (with_reducible first | exact HB.out | apply below_alloc | apply pw_below_drewN | apply below_drew1) | exact HB.out)⟩⟩
    case rest =>
      clear HC5
      try clear c1
      try clear c2
      try clear p2
      try clear c4
      try clear c8
      try clear c9
      try clear c12
      try clear c18
      obtain ⟨kq, x27_4, rfl, HA, HJ4, HB⟩ := hcut
      cases kq with
      | zero => exact absurd HA.out (by simp [l01ExtentOperates.j0])
      | succ kj4 =>
        have H := HA.out
        clear HA
        simp only [l01ExtentOperates.j0] at H
        by_cases c25 : x27_4 = true
        · subst c25
          have H1 : (some false) = some r := by rw [if_pos rfl] at H; exact H
          clear H
          have H := H1
          clear H1
          exact absurd ((Option.some.inj H).trans hT.out) (by decide)
        · replace c25 := Bool.eq_false_iff.mpr c25
          subst c25
          have H1 : ((xSubtract.f l0 l1).bind fun t481 => ((r01Subtract.f kj4 l0 l1).bind fun t484 => ((r01Same.f kj4 t481 t484).bind fun t487 => (if t487 = true then ((xCount.f kj4 l0).bind fun t488 => ((r01Count.f kj4 l0).bind fun t489 => (if t488 = t489 then ((l01awake.f kj4).bind fun t490 => (some t490)) else (some false)))) else (some false))))) = some r := by rw [if_neg (show ¬ (false = true) by decide)] at H; exact H
          clear H
          have H := H1
          clear H1
          replace H := Option.bind_eq_some_iff.mp H
          obtain ⟨t481, A260, H⟩ := H
          replace H : ((r01Subtract.f kj4 l0 l1).bind fun t484 => ((r01Same.f kj4 t481 t484).bind fun t487 => (if t487 = true then ((xCount.f kj4 l0).bind fun t488 => ((r01Count.f kj4 l0).bind fun t489 => (if t488 = t489 then ((l01awake.f kj4).bind fun t490 => (some t490)) else (some false)))) else (some false)))) = some r := H
          have A26 := Aside0.mk A260
          clear A260
          replace H := Option.bind_eq_some_iff.mp H
          obtain ⟨t484, A270, H⟩ := H
          replace H : ((r01Same.f kj4 t481 t484).bind fun t487 => (if t487 = true then ((xCount.f kj4 l0).bind fun t488 => ((r01Count.f kj4 l0).bind fun t489 => (if t488 = t489 then ((l01awake.f kj4).bind fun t490 => (some t490)) else (some false)))) else (some false))) = some r := H
          have A27 := Aside0.mk A270
          clear A270
          replace H := Option.bind_eq_some_iff.mp H
          obtain ⟨t487, A280, H⟩ := H
          replace H : (if t487 = true then ((xCount.f kj4 l0).bind fun t488 => ((r01Count.f kj4 l0).bind fun t489 => (if t488 = t489 then ((l01awake.f kj4).bind fun t490 => (some t490)) else (some false)))) else (some false)) = some r := H
          have A28 := Aside0.mk A280
          clear A280
          by_cases c29 : t487 = true
          · subst c29
            have H1 : ((xCount.f kj4 l0).bind fun t488 => ((r01Count.f kj4 l0).bind fun t489 => (if t488 = t489 then ((l01awake.f kj4).bind fun t490 => (some t490)) else (some false)))) = some r := by rw [if_pos rfl] at H; exact H
            clear H
            have H := H1
            clear H1
            replace H := Option.bind_eq_some_iff.mp H
            obtain ⟨t488, A300, H⟩ := H
            replace H : ((r01Count.f kj4 l0).bind fun t489 => (if t488 = t489 then ((l01awake.f kj4).bind fun t490 => (some t490)) else (some false))) = some r := H
            have A30 := Aside0.mk A300
            clear A300
            replace H := Option.bind_eq_some_iff.mp H
            obtain ⟨t489, A310, H⟩ := H
            replace H : (if t488 = t489 then ((l01awake.f kj4).bind fun t490 => (some t490)) else (some false)) = some r := H
            have A31 := Aside0.mk A310
            clear A310
            by_cases c32 : t488 = t489
            · rw [if_pos c32] at H
              have c32b0 : (t488 == t489) = true := beq_iff_eq.mpr c32
              have c32b1 : (t488 != t489) = false := bne_eq_false_iff_eq.mpr c32
              clear c32
              replace H := Option.bind_eq_some_iff.mp H
              obtain ⟨t490, A330, H⟩ := H
              replace H : (some t490) = some r := H
              have A33 := Aside0.mk A330
              clear A330
              obtain rfl := Option.some.inj H
              go_wp2_with (first | ((with_reducible refine gate_callee (f := 29) rfl ?_); refine goesL_ (some 30) rfl rfl Try.func29 (by kernel_rfl) rfl #[.slice A0 l0.length c0, .slice A1 l1.length c1] rfl (by (try simp only [List.map_toArray, List.map_cons, List.map_nil]); first | done | rfl | (simp only [List.length_drop, List.length_take]; rfl)) ?_; (with_reducible refine (xSubtract.calls _ _ l0 _ _ l1 t481 _ ?side1 ?side2 ?side3 ?side4 A26.out).mono ?_); (case side1 => repeat (first | exact (Kd.C_below HR0.out HB.out) | (with_reducible refine Kd.C_alloc ?_ _) | (with_reducible refine Kd.C_drewN ?_ _) | (with_reducible refine Kd.C_drew ?_))); (case side2 => exact HC0.out); (case side3 => repeat (first | exact (Kd.C_below HR1.out HB.out) | (with_reducible refine Kd.C_alloc ?_ _) | (with_reducible refine Kd.C_drewN ?_ _) | (with_reducible refine Kd.C_drew ?_))); (case side4 => exact HC1.out); rintro e w34 ⟨v482, rfl, ho0, hb⟩; refine ⟨_, rfl, ?_⟩; have n0_ := Aside0.mk (Kd.R_lower ho0 (below_size (by repeat (first | (with_reducible first | exact HB.out | apply below_alloc | apply pw_below_drewN | apply below_drew1) | exact HB.out)))); have n1_ := Aside0.mk (below_step (by repeat (first | (with_reducible first | exact HB.out | apply below_alloc | apply pw_below_drewN | apply below_drew1) | exact HB.out)) hb); clear HB; have HO483 := n0_; have HB := n1_; clear n0_ n1_; (try clear hb); (try clear hb2); (try clear hk); (try clear hi); (try clear ho0)) | ((with_reducible refine gate_callee (f := 30) rfl ?_); refine goesL_ (some 33) rfl rfl Try.func30 (by kernel_rfl) rfl #[.slice A0 l0.length c0, .slice A1 l1.length c1] rfl (by (try simp only [List.map_toArray, List.map_cons, List.map_nil]); first | done | rfl | (simp only [List.length_drop, List.length_take]; rfl)) ?_; (with_reducible refine (r01Subtract.calls kj4 _ _ l0 _ _ l1 t484 _ ?side1 ?side2 ?side3 ?side4 A27.out).mono ?_); (case side1 => repeat (first | exact (Kd.C_below HR0.out HB.out) | (with_reducible refine Kd.C_alloc ?_ _) | (with_reducible refine Kd.C_drewN ?_ _) | (with_reducible refine Kd.C_drew ?_))); (case side2 => exact HC0.out); (case side3 => repeat (first | exact (Kd.C_below HR1.out HB.out) | (with_reducible refine Kd.C_alloc ?_ _) | (with_reducible refine Kd.C_drewN ?_ _) | (with_reducible refine Kd.C_drew ?_))); (case side4 => exact HC1.out); rintro e w35 ⟨v485, rfl, ho0, hb⟩; refine ⟨_, rfl, ?_⟩; have n0_ := Aside0.mk (Kd.R_elder' (by (with_reducible repeat (first | apply Kd.R_alloc | apply Kd.R_drewN | apply Kd.R_drew)); exact HO483.out) (Kd.R_base ho0) hb); have n1_ := Aside0.mk (Kd.R_lower (Kd.R_new' ho0 (Kd.R_lt (by (with_reducible repeat (first | apply Kd.R_alloc | apply Kd.R_drewN | apply Kd.R_drew)); exact HO483.out))) (below_size (by repeat (first | (with_reducible first | exact HB.out | apply below_alloc | apply pw_below_drewN | apply below_drew1) | exact HB.out)))); have n2_ := Aside0.mk (below_step (by repeat (first | (with_reducible first | exact HB.out | apply below_alloc | apply pw_below_drewN | apply below_drew1) | exact HB.out)) hb); clear HO483; clear HB; have HO483 := n0_; have HO486 := n1_; have HB := n2_; clear n0_ n1_ n2_; (try clear hb); (try clear hb2); (try clear hk); (try clear hi); (try clear ho0); obtain ⟨Ao36, co36, eo36⟩ := Kd.R_slice HO483.out; subst eo36; obtain ⟨Ao37, co37, eo37⟩ := Kd.R_slice HO486.out; subst eo37) | ((with_reducible refine gate_callee (f := 18) rfl ?_); refine goesL_ (some 34) rfl rfl Try.func18 (by kernel_rfl) rfl #[.slice Ao36 t481.length co36, .slice Ao37 t484.length co37] rfl (by (try simp only [List.map_toArray, List.map_cons, List.map_nil]); first | done | rfl | (simp only [List.length_drop, List.length_take]; rfl)) ?_; (with_reducible refine (r01Same.calls kj4 _ _ t481 _ _ t484 true _ ?side1 ?side2 ?side3 ?side4 A28.out).mono ?_); (case side1 => repeat (first | exact (Kd.R_reads' HO483.out).2.2 | (with_reducible refine Kd.C_alloc ?_ _) | (with_reducible refine Kd.C_drewN ?_ _) | (with_reducible refine Kd.C_drew ?_))); (case side2 => exact (Kd.R_reads' HO483.out).2.1); (case side3 => repeat (first | exact (Kd.R_reads' HO486.out).2.2 | (with_reducible refine Kd.C_alloc ?_ _) | (with_reducible refine Kd.C_drewN ?_ _) | (with_reducible refine Kd.C_drew ?_))); (case side4 => exact (Kd.R_reads' HO486.out).2.1); rintro e w' ⟨rfl, ⟨nd, rfl⟩⟩; refine ⟨_, rfl, ?_⟩) | (go_at_call 31; (with_reducible refine (xCount.calls kj4 _ _ l0 t488 _ ?side1 ?side2 A30.out).mono ?_); (case side1 => repeat (first | exact (Kd.C_below HR0.out (by repeat (first | (with_reducible first | exact HB.out | apply below_alloc | apply pw_below_drewN | apply below_drew1) | exact HB.out))) | (with_reducible refine Kd.C_alloc ?_ _) | (with_reducible refine Kd.C_drewN ?_ _) | (with_reducible refine Kd.C_drew ?_))); (case side2 => exact HC0.out); rintro e w38 ⟨rfl, hb⟩; have n0_ := Aside0.mk (Kd.R_below (by (with_reducible repeat (first | apply Kd.R_alloc | apply Kd.R_drewN | apply Kd.R_drew)); exact HO483.out) hb); have n1_ := Aside0.mk (Kd.R_below (by (with_reducible repeat (first | apply Kd.R_alloc | apply Kd.R_drewN | apply Kd.R_drew)); exact HO486.out) hb); have n2_ := Aside0.mk (below_step (by repeat (first | (with_reducible first | exact HB.out | apply below_alloc | apply pw_below_drewN | apply below_drew1) | exact HB.out)) hb); clear HO483; clear HO486; clear HB; have HO483 := n0_; have HO486 := n1_; have HB := n2_; clear n0_ n1_ n2_; (try clear hb); (try clear hb2); (try clear hk); (try clear hi)) | (go_at_call 32; (with_reducible refine (r01Count.calls kj4 _ _ l0 t489 _ ?side1 ?side2 A31.out).mono ?_); (case side1 => repeat (first | exact (Kd.C_below HR0.out HB.out) | (with_reducible refine Kd.C_alloc ?_ _) | (with_reducible refine Kd.C_drewN ?_ _) | (with_reducible refine Kd.C_drew ?_))); (case side2 => exact HC0.out); rintro e w39 ⟨rfl, hb⟩; have n0_ := Aside0.mk (Kd.R_below (by (with_reducible repeat (first | apply Kd.R_alloc | apply Kd.R_drewN | apply Kd.R_drew)); exact HO483.out) hb); have n1_ := Aside0.mk (Kd.R_below (by (with_reducible repeat (first | apply Kd.R_alloc | apply Kd.R_drewN | apply Kd.R_drew)); exact HO486.out) hb); have n2_ := Aside0.mk (below_step (by repeat (first | (with_reducible first | exact HB.out | apply below_alloc | apply pw_below_drewN | apply below_drew1) | exact HB.out)) hb); clear HO483; clear HO486; clear HB; have HO483 := n0_; have HO486 := n1_; have HB := n2_; clear n0_ n1_ n2_; (try clear hb); (try clear hb2); (try clear hk); (try clear hi)) | (go_at_call 13; (with_reducible refine (l01awake.calls kj4  t490 _ A33.out).mono ?_); rintro e w40 ⟨rfl, hb⟩; have n0_ := Aside0.mk (Kd.R_below (by (with_reducible repeat (first | apply Kd.R_alloc | apply Kd.R_drewN | apply Kd.R_drew)); exact HO483.out) hb); have n1_ := Aside0.mk (Kd.R_below (by (with_reducible repeat (first | apply Kd.R_alloc | apply Kd.R_drewN | apply Kd.R_drew)); exact HO486.out) hb); have n2_ := Aside0.mk (below_step (by repeat (first | (with_reducible first | exact HB.out | apply below_alloc | apply pw_below_drewN | apply below_drew1) | exact HB.out)) hb); clear HO483; clear HO486; clear HB; have HO483 := n0_; have HO486 := n1_; have HB := n2_; clear n0_ n1_ n2_; (try clear hb); (try clear hb2); (try clear hk); (try clear hi)))
              go_ret
              exact ⟨by first | rfl | (simp [errW_none, errW_some] <;> rfl) | (simp [*, errW_none, errW_some] <;> rfl), by repeat (first | (with_reducible first | exact HB.out | apply below_alloc | apply pw_below_drewN | apply below_drew1) | exact HB.out)⟩
            · rw [if_neg c32] at H
              have c32b0 : (t488 == t489) = false := beq_eq_false_iff_ne.mpr c32
              have c32b1 : (t488 != t489) = true := bne_iff_ne.mpr c32
              exact absurd ((Option.some.inj H).trans hT.out) (by decide)
          · replace c29 := Bool.eq_false_iff.mpr c29
            subst c29
            have H1 : (some false) = some r := by rw [if_neg (show ¬ (false = true) by decide)] at H; exact H
            clear H
            have H := H1
            clear H1
            exact absurd ((Option.some.inj H).trans hT.out) (by decide)
  · replace c4 := Bool.eq_false_iff.mpr c4
    subst c4
    have H1 : ((l01awake.f k).bind fun t466 => (some t466)) = some r := by rw [if_neg (show ¬ (false = true) by decide)] at H; exact H
    clear H
    have H := H1
    clear H1
    replace H := Option.bind_eq_some_iff.mp H
    obtain ⟨t466, A410, H⟩ := H
    replace H : (some t466) = some r := H
    have A41 := Aside0.mk A410
    clear A410
    obtain rfl := Option.some.inj H
    go_enter Try.func8, Try.ntmps8
    go_wp2_with (first | ((with_reducible refine gate_callee (f := 12) rfl ?_); refine goesL_ (some 7) rfl rfl Try.func12 (by kernel_rfl) rfl #[.slice A0 l0.length c0, .slice A1 l1.length c1] rfl (by (try simp only [List.map_toArray, List.map_cons, List.map_nil]); first | done | rfl | (simp only [List.length_drop, List.length_take]; rfl)) ?_; (with_reducible refine (l01few.calls _ _ l0 _ _ l1 false _ ?side1 ?side2 ?side3 ?side4 A3.out).mono ?_); (case side1 => repeat (first | exact HR0.out | (with_reducible refine Kd.C_alloc ?_ _) | (with_reducible refine Kd.C_drewN ?_ _) | (with_reducible refine Kd.C_drew ?_))); (case side2 => exact HC0.out); (case side3 => repeat (first | exact HR1.out | (with_reducible refine Kd.C_alloc ?_ _) | (with_reducible refine Kd.C_drewN ?_ _) | (with_reducible refine Kd.C_drew ?_))); (case side4 => exact HC1.out); rintro e w' ⟨rfl, ⟨nd, rfl⟩⟩; refine ⟨_, rfl, ?_⟩) | ((with_reducible refine gate_callee (f := 13) rfl ?_); refine goesL_ (some 9) rfl rfl Try.func13 (by kernel_rfl) rfl #[] rfl (by (try simp only [List.map_toArray, List.map_cons, List.map_nil]); first | done | rfl | (simp only [List.length_drop, List.length_take]; rfl)) ?_; (with_reducible refine (l01awake.calls k  t466 _ A41.out).mono ?_); rintro e w42 ⟨rfl, hb⟩; refine ⟨_, rfl, ?_⟩; have n0_ := Aside0.mk (below_step (by repeat (first | (with_reducible first | exact HB.out | apply below_alloc | apply pw_below_drewN | apply below_drew1) | exact HB.out)) hb); clear HB; have HB := n0_; clear n0_; (try clear hb); (try clear hb2); (try clear hk); (try clear hi)))
    go_ret
    exact ⟨by first | rfl | (simp [errW_none, errW_some] <;> rfl) | (simp [*, errW_none, errW_some] <;> rfl), by repeat (first | (with_reducible first | exact HB.out | apply below_alloc | apply pw_below_drewN | apply below_drew1) | exact HB.out)⟩
end Go.Proofs.Yteeedheklnelkaa.P

namespace Go.Proofs.Yteeedheklnelkaa.P
open Go.RowKit Go.Proofs.YteeedheklnelkaaW.PrintWords Go.Proofs.YteeedheklnelkaaW.PrintLast Go.Proofs.YteeedheklnelkaaW.PrintMore
theorem canonN_zero (p : Nat → Bool) : canonN 0 p = [] := by unfold canonN; rfl
theorem canonN_succ (N : Nat) (p : Nat → Bool) : canonN (N + 1) p = if p N then joinE (canonN N p) N else canonN N p := by
  unfold canonN
  rw [List.range_succ, List.filter_append, List.map_append, List.foldl_append, List.filter_cons]
  cases p N
  · rfl
  · rfl
theorem asc_le_end : ∀ (L : List S40) (p : Int), Asc p L → p ≤ endL p L ∧ ∀ e ∈ L, e.f0 + e.f1 ≤ endL p L
  | [], p, _ => ⟨Int.le_refl _, fun _ h => by cases h⟩
  | x :: L, p, h => by
    obtain ⟨h1, h2, h3⟩ := h
    obtain ⟨i1, i2⟩ := asc_le_end L _ h3
    rw [endL]
    refine ⟨by omega, fun e he => ?_⟩
    rcases List.mem_cons.1 he with rfl | he
    · exact i1
    · exact i2 e he
theorem canonN_len (N : Nat) (_hN : N ≤ 1000000) (p : Nat → Bool) : (canonN N p).length ≤ N := by
  unfold canonN
  have h := fold_len (((List.range N).filter p).map fun (b : Nat) => (b : Int)) []
  have h2 := List.length_filter_le p (List.range N)
  rw [List.length_range] at h2
  rw [List.length_map] at h
  simp only [List.length_nil] at h
  omega
/-- Behind i places: the last extent ends at i iff the place before i is marked. -/
theorem canonN_last (i : Nat) (hi : i ≤ 1000000) (p : Nat → Bool) (h0 : 0 < i) (hp : p (i - 1) = true) : ∃ M e, canonN i p = M ++ [e] ∧ e.f0 + e.f1 = (i : Int) := by
  have J := canonN_joined i hi p
  have hc := (canonN_cov i hi p ((i - 1 : Nat) : Int)).2 ⟨by omega, by omega, by rw [Int.toNat_natCast]; exact hp⟩
  have hasc := J.asc
  have hbd := J.bound
  generalize canonN i p = L at hc hasc hbd
  obtain ⟨e, he, h1, h2⟩ := hc
  have hend := (asc_le_end L (-1) hasc).2 e he
  rcases L.eq_nil_or_concat with h | ⟨M, x, h⟩
  · subst h; cases he
  · rw [List.concat_eq_append] at h
    subst h
    rw [endL_snoc] at hend
    have := hbd x (by simp)
    exact ⟨M, x, rfl, by omega⟩
theorem canonN_not_last (i : Nat) (hi : i ≤ 1000000) (p : Nat → Bool) (hp : 0 < i → p (i - 1) = false) : canonN i p = [] ∨ ∃ M e, canonN i p = M ++ [e] ∧ wrap64 (e.f0 + e.f1) ≠ i := by
  have J := canonN_joined i hi p
  have hcov := fun t => canonN_cov i hi p t
  have hbd := J.bound
  generalize canonN i p = L at hcov hbd
  rcases L.eq_nil_or_concat with h | ⟨M, e, h⟩
  · exact .inl h
  · rw [List.concat_eq_append] at h
    subst h
    right
    have hb := hbd e (by simp)
    refine ⟨M, e, rfl, ?_⟩
    rw [w64 _ (by omega) (by omega)]
    intro hEq
    have := (hcov ((i - 1 : Nat) : Int)).1 ⟨e, by simp, by omega, by omega⟩
    rw [Int.toNat_natCast, hp (by omega)] at this
    cases this.2.2
theorem list_loop (N : Nat) (hN : N ≤ 100000) (p : Nat → Bool) : ∀ (n k i : Nat), i + n = N → n < k → r01List.l0 k (bvN N p) (canonN i p) i = some (canonN N p) := by
  intro n
  induction n with
  | zero =>
    intro k i hi hk
    obtain ⟨k, rfl⟩ : ∃ m, k = m + 1 := ⟨k - 1, by omega⟩
    obtain rfl : i = N := by omega
    rw [r01List.l0, if_neg (by rw [bvN_length]; omega)]
  | succ n ih =>
    intro k i hi hk
    obtain ⟨k, rfl⟩ : ∃ m, k = m + 1 := ⟨k - 1, by omega⟩
    have hlen := canonN_len i (by omega) p
    have ih' := ih k (i + 1) (by omega) (by omega)
    rw [canonN_succ] at ih'
    rw [r01List.l0, bvN_length, if_pos (by omega), if_pos (by omega), bvN_get p (by omega), wsucc i (by omega)]
    cases hp : p i
    · rw [hp, if_neg (by decide)] at ih'
      rw [if_neg (by decide), ih']
    · rw [hp, if_pos rfl] at ih'
      rw [if_pos rfl]
      have happ : (canonN i p = [] ∨ ∃ M e, canonN i p = M ++ [e] ∧ wrap64 (e.f0 + e.f1) ≠ i) → joinE (canonN i p) i = canonN i p ++ [⟨(i : Int), 1⟩] := by
        rintro (h | ⟨M, e, h, hne⟩)
        · rw [h]; rfl
        · rw [h, joinE_snoc, if_neg hne]
      by_cases h0 : (i : Int) > 0
      · have e1 : wrap64 ((i : Int) - 1) = ((i - 1 : Nat) : Int) := by rw [w64 _ (by omega) (by omega)]; omega
        rw [if_pos h0, e1, if_pos (by omega), if_pos (by omega), bvN_get p (by omega)]
        cases hq : p (i - 1)
        · rw [if_neg (by decide), if_pos (by omega), ← happ (canonN_not_last i (by omega) p (fun _ => hq)), ih']
        · rw [if_pos rfl]
          obtain ⟨M, e, hM, hend⟩ := canonN_last i (by omega) p (by omega) hq
          rw [hM] at hlen ih' ⊢
          have hl : (M ++ [e]).length = M.length + 1 := by simp
          have hd : wrap64 (((M ++ [e]).length : Int) - 1) = (M.length : Int) := by rw [hl, w64 _ (by omega) (by omega)]; omega
          have hr : rd_T40 (M ++ [e]) (M.length : Int) = e := by
            unfold rd_T40
            rw [Int.toNat_natCast, List.getD_eq_getElem?_getD, List.getElem?_append_right (Nat.le_refl _)]
            simp
          have hset : (M ++ [e]).set M.length (⟨e.f0, wrap64 (e.f1 + 1)⟩ : S40) = M ++ [⟨e.f0, wrap64 (e.f1 + 1)⟩] := by
            rw [List.set_append_right _ _ (Nat.le_refl _)]; simp
          rw [hd, if_pos (by omega), if_pos (by rw [hl]; omega), hr, Int.toNat_natCast, hset]
          rw [joinE_snoc, if_pos (by rw [w64 _ (by omega) (by omega)]; exact hend)] at ih'
          exact ih'
      · rw [if_neg h0, if_pos (by omega), ← happ (canonN_not_last i (by omega) p (fun h => by omega)), ih']
theorem list_eq (N : Nat) (hN : N ≤ 4096) (p : Nat → Bool) {k : Nat} (hk : 5000 ≤ k) : r01List.f k (bvN N p) = some (canonN N p) := by
  unfold r01List.f
  have := list_loop N (by omega) p N k 0 (by omega) (by omega)
  rw [canonN_zero] at this
  exact this
theorem same_loop (l : List S40) (hl : l.length ≤ 100000) : ∀ (n k i : Nat), i + n = l.length → n < k → r01Same.l0 k l l i = some true := by
  intro n
  induction n with
  | zero =>
    intro k i hi hk
    obtain ⟨k, rfl⟩ : ∃ m, k = m + 1 := ⟨k - 1, by omega⟩
    rw [r01Same.l0, if_neg (by omega)]
  | succ n ih =>
    intro k i hi hk
    obtain ⟨k, rfl⟩ : ∃ m, k = m + 1 := ⟨k - 1, by omega⟩
    rw [r01Same.l0, if_pos (by omega), if_pos (by omega), if_pos (by omega), if_neg (by simp), wsucc i (by omega), ih k (i + 1) (by omega) (by omega)]
theorem same_eq (l : List S40) {k : Nat} (hl : l.length ≤ 10000) (hk : 10001 ≤ k) : r01Same.f k l l = some true := by
  unfold r01Same.f
  rw [if_pos rfl]
  exact same_loop l (by omega) l.length k 0 (by omega) (by omega)
end Go.Proofs.Yteeedheklnelkaa.P

namespace Go.Proofs.Yteeedheklnelkaa.P
open Go.RowKit Go.Proofs.YteeedheklnelkaaW.PrintWords Go.Proofs.YteeedheklnelkaaW.PrintLast Go.Proofs.YteeedheklnelkaaW.PrintMore
/-- The first i places by g, the others by p. -/
def mix (g p : Nat → Bool) (i : Nat) (j : Nat) : Bool := if j < i then g j else p j
theorem mix_step (g p : Nat → Bool) (i : Nat) (b : Bool) (hb : b = g i) : (fun j => if j = i then b else mix g p i j) = mix g p (i + 1) := by
  funext j
  unfold mix
  by_cases h : j = i
  · subst h; rw [if_pos rfl, if_pos (by omega), hb]
  · rw [if_neg h]
    by_cases h2 : j < i
    · rw [if_pos h2, if_pos (by omega)]
    · rw [if_neg h2, if_neg (by omega)]
theorem mix_zero (g p : Nat → Bool) : mix g p 0 = p := by funext j; unfold mix; rw [if_neg (by omega)]
theorem mix_all (N : Nat) (g p : Nat → Bool) : bvN N (mix g p N) = bvN N g := bvN_congr fun j hj => by unfold mix; rw [if_pos hj]
theorem mix_at (g p : Nat → Bool) (i : Nat) : mix g p i i = p i := by unfold mix; rw [if_neg (by omega)]
theorem rUnion_loop (N : Nat) (hN : N ≤ 4096) (p q : Nat → Bool) : ∀ (n k i : Nat), i + n = N → n + 5000 < k → r01Union.l0 k (bvN N (mix (fun j => p j || q j) p i)) (bvN N q) i = some (canonN N fun j => p j || q j) := by
  intro n
  induction n with
  | zero =>
    intro k i hi hk
    obtain ⟨k, rfl⟩ : ∃ m, k = m + 1 := ⟨k - 1, by omega⟩
    obtain rfl : i = N := by omega
    rw [r01Union.l0, if_neg (by rw [bvN_length]; omega), mix_all, list_eq i hN _ (by omega)]; rfl
  | succ n ih =>
    intro k i hi hk
    obtain ⟨k, rfl⟩ : ∃ m, k = m + 1 := ⟨k - 1, by omega⟩
    have ih' := ih k (i + 1) (by omega) (by omega)
    rw [r01Union.l0, bvN_length, bvN_length, if_pos (by omega), if_pos (by omega), bvN_get _ (by omega), bvN_get _ (by omega), mix_at, wsucc i (by omega), Int.toNat_natCast]
    cases hp : p i
    · rw [if_neg (by decide), if_pos (by omega), bvN_set, mix_step _ _ _ _ (by rw [hp, Bool.false_or]), ih']
    · rw [if_pos rfl, bvN_set, mix_step _ _ _ _ (by rw [hp, Bool.true_or]), ih']
theorem rUnion_eq (a b : List S40) (ha : a.length ≤ 5000) (hb : b.length ≤ 5000) (hra : ∀ e ∈ a, R64 e) (hrb : ∀ e ∈ b, R64 e) {k : Nat} (hk : 20000 ≤ k) : r01Union.f k a b = some (canon fun j => inL a j || inL b j) := by
  unfold r01Union.f
  rw [marks_eq a ha hra (by omega), Option.bind_some, marks_eq b hb hrb (by omega), Option.bind_some]
  have h := rUnion_loop 4096 (by omega) (fun j => inL a j) (fun j => inL b j) 4096 k 0 (by omega) (by omega)
  rw [mix_zero] at h
  rw [canon_eq]
  exact h
theorem rIntersect_loop (N : Nat) (hN : N ≤ 4096) (p q : Nat → Bool) : ∀ (n k i : Nat), i + n = N → n + 5000 < k → r01Intersect.l0 k (bvN N (mix (fun j => p j && q j) p i)) (bvN N q) i = some (canonN N fun j => p j && q j) := by
  intro n
  induction n with
  | zero =>
    intro k i hi hk
    obtain ⟨k, rfl⟩ : ∃ m, k = m + 1 := ⟨k - 1, by omega⟩
    obtain rfl : i = N := by omega
    rw [r01Intersect.l0, if_neg (by rw [bvN_length]; omega), mix_all, list_eq i hN _ (by omega)]; rfl
  | succ n ih =>
    intro k i hi hk
    obtain ⟨k, rfl⟩ : ∃ m, k = m + 1 := ⟨k - 1, by omega⟩
    have ih' := ih k (i + 1) (by omega) (by omega)
    rw [r01Intersect.l0, bvN_length, bvN_length, if_pos (by omega), if_pos (by omega), bvN_get _ (by omega), bvN_get _ (by omega), mix_at, wsucc i (by omega), Int.toNat_natCast]
    cases hp : p i
    · rw [if_neg (by decide), bvN_set, mix_step _ _ _ _ (by rw [hp, Bool.false_and]), ih']
    · rw [if_pos rfl, if_pos (by omega), bvN_set, mix_step _ _ _ _ (by rw [hp, Bool.true_and]), ih']
theorem rIntersect_eq (a b : List S40) (ha : a.length ≤ 5000) (hb : b.length ≤ 5000) (hra : ∀ e ∈ a, R64 e) (hrb : ∀ e ∈ b, R64 e) {k : Nat} (hk : 20000 ≤ k) : r01Intersect.f k a b = some (canon fun j => inL a j && inL b j) := by
  unfold r01Intersect.f
  rw [marks_eq a ha hra (by omega), Option.bind_some, marks_eq b hb hrb (by omega), Option.bind_some]
  have h := rIntersect_loop 4096 (by omega) (fun j => inL a j) (fun j => inL b j) 4096 k 0 (by omega) (by omega)
  rw [mix_zero] at h
  rw [canon_eq]
  exact h
theorem rSubtract_loop (N : Nat) (hN : N ≤ 4096) (p q : Nat → Bool) : ∀ (n k i : Nat), i + n = N → n + 5000 < k → r01Subtract.l0 k (bvN N (mix (fun j => p j && !q j) p i)) (bvN N q) i = some (canonN N fun j => p j && !q j) := by
  intro n
  induction n with
  | zero =>
    intro k i hi hk
    obtain ⟨k, rfl⟩ : ∃ m, k = m + 1 := ⟨k - 1, by omega⟩
    obtain rfl : i = N := by omega
    rw [r01Subtract.l0, if_neg (by rw [bvN_length]; omega), mix_all, list_eq i hN _ (by omega)]; rfl
  | succ n ih =>
    intro k i hi hk
    obtain ⟨k, rfl⟩ : ∃ m, k = m + 1 := ⟨k - 1, by omega⟩
    have ih' := ih k (i + 1) (by omega) (by omega)
    rw [r01Subtract.l0, bvN_length, bvN_length, if_pos (by omega), if_pos (by omega), bvN_get _ (by omega), bvN_get _ (by omega), mix_at, wsucc i (by omega), Int.toNat_natCast]
    cases hp : p i
    · rw [if_neg (by decide), bvN_set, mix_step _ _ _ _ (by rw [hp, Bool.false_and]), ih']
    · rw [if_pos rfl, if_pos (by omega), bvN_set, mix_step _ _ _ _ (by rw [hp, Bool.true_and]), ih']
theorem rSubtract_eq (a b : List S40) (ha : a.length ≤ 5000) (hb : b.length ≤ 5000) (hra : ∀ e ∈ a, R64 e) (hrb : ∀ e ∈ b, R64 e) {k : Nat} (hk : 20000 ≤ k) : r01Subtract.f k a b = some (canon fun j => inL a j && !inL b j) := by
  unfold r01Subtract.f
  rw [marks_eq a ha hra (by omega), Option.bind_some, marks_eq b hb hrb (by omega), Option.bind_some]
  have h := rSubtract_loop 4096 (by omega) (fun j => inL a j) (fun j => inL b j) 4096 k 0 (by omega) (by omega)
  rw [mix_zero] at h
  rw [canon_eq]
  exact h
theorem inL_nil (t : Int) : inL [] t = false := rfl
theorem xUnion_eq (a b : List S40) (h : a.length + b.length ≤ 100000) : xUnion.f a b = some (canon fun j => inL a j || inL b j) := by unfold xUnion.f opX; rw [if_pos h]
theorem xIntersect_eq (a b : List S40) (h : a.length + b.length ≤ 100000) : xIntersect.f a b = some (canon fun j => inL a j && inL b j) := by unfold xIntersect.f opX; rw [if_pos h]
theorem xSubtract_eq (a b : List S40) (h : a.length + b.length ≤ 100000) : xSubtract.f a b = some (canon fun j => inL a j && !inL b j) := by unfold xSubtract.f opX; rw [if_pos h]
theorem union_nil (l : List S40) (h : l.length ≤ 100000) : xUnion.f l [] = some (canon fun j => inL l j) := by
  rw [xUnion_eq l [] (by simpa using h)]
  congr 1
  exact canon_congr fun j _ => by rw [inL_nil, Bool.or_false]
end Go.Proofs.Yteeedheklnelkaa.P

namespace Go.Proofs.Yteeedheklnelkaa.P
open Go.RowKit Go.Proofs.YteeedheklnelkaaW.PrintWords Go.Proofs.YteeedheklnelkaaW.PrintLast Go.Proofs.YteeedheklnelkaaW.PrintMore
theorem awake100 : l01awake.f 100 = some true := by kernel_rfl
theorem awake_eq {k : Nat} (hk : 100 ≤ k) : l01awake.f k = some true := by
  obtain ⟨n, rfl⟩ : ∃ n, k = 100 + n := ⟨k - 100, by omega⟩
  clear hk
  induction n with
  | zero => exact awake100
  | succ n ih => exact l01awake.mono _ _ ih
end Go.Proofs.Yteeedheklnelkaa.P

namespace Go.Proofs.Yteeedheklnelkaa.P
open Go.RowKit Go.Proofs.YteeedheklnelkaaW.PrintWords Go.Proofs.YteeedheklnelkaaW.PrintLast Go.Proofs.YteeedheklnelkaaW.PrintMore
theorem few_eq (a b : List S40) : l01few.f a b = some (decide (a.length ≤ 20 ∧ b.length ≤ 20)) := by
  unfold l01few.f
  by_cases h : (a.length : Int) ≤ 20
  · rw [if_pos h]
    congr 1
    rw [decide_eq_decide]; omega
  · rw [if_neg h, decide_eq_false (by omega)]
theorem rd_mem (l : List S40) {i : Nat} (hi : i < l.length) : rd_T40 l (i : Int) ∈ l := List.mem_of_mem_drop (i := i) (by rw [drop_cons l hi]; exact List.mem_cons_self)
end Go.Proofs.Yteeedheklnelkaa.P

namespace Go.Proofs.Yteeedheklnelkaa.P
open Go.RowKit Go.Proofs.YteeedheklnelkaaW.PrintWords Go.Proofs.YteeedheklnelkaaW.PrintLast Go.Proofs.YteeedheklnelkaaW.PrintMore
def sumF : List S40 → Int
  | [] => 0
  | e :: l => e.f1 + sumF l
theorem sumF_append (m : List S40) : ∀ l, sumF (l ++ m) = sumF l + sumF m
  | [] => by simp [sumF]
  | e :: l => by rw [List.cons_append, sumF, sumF, sumF_append m l]; omega
def cntN : Nat → (Nat → Bool) → Int
  | 0, _ => 0
  | n + 1, p => cntN n p + if p n then 1 else 0
theorem cntN_bound (p : Nat → Bool) : ∀ n, 0 ≤ cntN n p ∧ cntN n p ≤ n
  | 0 => by simp [cntN]
  | n + 1 => by
    have := cntN_bound p n
    rw [cntN]
    split <;> omega
theorem sumF_canonN (p : Nat → Bool) : ∀ n : Nat, n ≤ 100000 → sumF (canonN n p) = cntN n p
  | 0, _ => by rw [canonN_zero]; rfl
  | n + 1, hn => by
    have ih := sumF_canonN p n (by omega)
    have hbd := (canonN_joined n (by omega) p).bound
    rw [canonN_succ, cntN]
    cases hp : p n
    · rw [if_neg (by decide), if_neg (by decide), ih]; omega
    · rw [if_pos rfl, if_pos rfl, ← ih]
      generalize canonN n p = L at hbd
      rcases L.eq_nil_or_concat with h | ⟨M, e, h⟩
      · subst h; rfl
      · rw [List.concat_eq_append] at h
        subst h
        have hb := hbd e (by simp)
        rw [joinE_snoc]
        split
        · rw [sumF_append, sumF_append, sumF, sumF, w64 _ (by omega) (by omega)]; simp only [sumF]; omega
        · rw [sumF_append (m := [⟨(n : Int), 1⟩])]; rfl
theorem sumF_canon (p : Nat → Bool) : sumF (canon p) = cntN 4096 p := by rw [canon_eq, sumF_canonN p 4096 (by omega)]
end Go.Proofs.Yteeedheklnelkaa.P

namespace Go.Proofs.Yteeedheklnelkaa.P
open Go.RowKit Go.Proofs.YteeedheklnelkaaW.PrintWords Go.Proofs.YteeedheklnelkaaW.PrintLast Go.Proofs.YteeedheklnelkaaW.PrintMore
theorem xcount_loop (L : List S40) (hL : L.length ≤ 100000) (hb : ∀ e ∈ L, 0 ≤ e.f1 ∧ e.f1 ≤ 4096) : ∀ (n k i : Nat) (a : Int), i + n = L.length → n < k → 0 ≤ a → a ≤ 5000 * i →
    xCount.l0 k a L L.length i = some (a + sumF (L.drop i)) := by
  intro n
  induction n with
  | zero =>
    intro k i a hi hk _ _
    obtain ⟨k, rfl⟩ : ∃ m, k = m + 1 := ⟨k - 1, by omega⟩
    rw [xCount.l0, if_neg (by omega), List.drop_eq_nil_of_le (by omega)]
    simp [sumF]
  | succ n ih =>
    intro k i a hi hk h0 h1
    obtain ⟨k, rfl⟩ : ∃ m, k = m + 1 := ⟨k - 1, by omega⟩
    have hm := hb _ (rd_mem L (i := i) (by omega))
    rw [xCount.l0, if_pos (by omega), if_pos (by omega), if_pos (by omega), drop_cons L (by omega), sumF]
    generalize rd_T40 L (i : Int) = e at hm ⊢
    rw [w64 (a + e.f1) (by omega) (by omega), wsucc i (by omega), ih k (i + 1) _ (by omega) (by omega) (by omega) (by omega)]
    congr 1; omega
theorem xCount_eq (l : List S40) (h : l.length ≤ 100000) {k : Nat} (hk : 10000 ≤ k) : xCount.f k l = some (cntN 4096 fun j => inL l j) := by
  unfold xCount.f
  rw [union_nil l h, Option.bind_some]
  have hlen := canon_length fun j => inL l (j : Int)
  have hbd := canon_bound fun j => inL l (j : Int)
  have hs := sumF_canon fun j => inL l (j : Int)
  generalize canon (fun j => inL l (j : Int)) = L at hlen hbd hs
  have := xcount_loop L (by omega) (fun e he => by have := hbd e he; omega) L.length k 0 0 (by omega) (by omega) (by omega) (by omega)
  rw [List.drop_zero, hs, Int.zero_add] at this
  exact this
theorem rcount_loop (N : Nat) (hN : N ≤ 100000) (p : Nat → Bool) : ∀ (n k i : Nat), i + n = N → n < k → r01Count.l0 k (bvN N p) (cntN i p) i = some (cntN N p) := by
  intro n
  induction n with
  | zero =>
    intro k i hi hk
    obtain ⟨k, rfl⟩ : ∃ m, k = m + 1 := ⟨k - 1, by omega⟩
    obtain rfl : i = N := by omega
    rw [r01Count.l0, if_neg (by rw [bvN_length]; omega)]
  | succ n ih =>
    intro k i hi hk
    obtain ⟨k, rfl⟩ : ∃ m, k = m + 1 := ⟨k - 1, by omega⟩
    have ih' := ih k (i + 1) (by omega) (by omega)
    have hc := cntN_bound p i
    rw [cntN] at ih'
    rw [r01Count.l0, bvN_length, if_pos (by omega), if_pos (by omega), bvN_get p (by omega), wsucc i (by omega), w64 (cntN i p + 1) (by omega) (by omega)]
    cases hp : p i
    · rw [hp, if_neg (by decide), Int.add_zero] at ih'
      rw [if_neg (by decide), ih']
    · rw [hp, if_pos rfl] at ih'
      rw [if_pos rfl, ih']
theorem rCount_eq (l : List S40) (h : l.length ≤ 5000) (hr : ∀ e ∈ l, R64 e) {k : Nat} (hk : 11000 ≤ k) : r01Count.f k l = some (cntN 4096 fun j => inL l j) := by
  unfold r01Count.f
  rw [marks_eq l h hr hk, Option.bind_some]
  exact rcount_loop 4096 (by omega) _ 4096 k 0 (by omega) (by omega)
theorem operates_true (a b : List S40) (hra : ∀ e ∈ a, R64 e) (hrb : ∀ e ∈ b, R64 e) {k : Nat} (hk : 40000 ≤ k) : l01ExtentOperates.f k a b = some true := by
  unfold l01ExtentOperates.f
  rw [few_eq, Option.bind_some]
  by_cases h : a.length ≤ 20 ∧ b.length ≤ 20
  · have h1 := canon_length (fun j => inL a (j : Int) || inL b (j : Int))
    have h2 := canon_length (fun j => inL a (j : Int) && inL b (j : Int))
    have h3 := canon_length (fun j => inL a (j : Int) && !inL b (j : Int))
    rw [decide_eq_true h, if_pos rfl, xUnion_eq a b (by omega), Option.bind_some, rUnion_eq a b (by omega) (by omega) hra hrb (by omega), Option.bind_some, same_eq _ (by omega) (by omega), Option.bind_some, if_pos rfl,
      xIntersect_eq a b (by omega), Option.bind_some, rIntersect_eq a b (by omega) (by omega) hra hrb (by omega), Option.bind_some, same_eq _ (by omega) (by omega), Option.bind_some]
    obtain ⟨k, rfl⟩ : ∃ m, k = m + 1 := ⟨k - 1, by omega⟩
    rw [l01ExtentOperates.j0, if_neg (by decide), xSubtract_eq a b (by omega), Option.bind_some, rSubtract_eq a b (by omega) (by omega) hra hrb (by omega), Option.bind_some, same_eq _ (by omega) (by omega), Option.bind_some, if_pos rfl,
      xCount_eq a (by omega) (by omega), Option.bind_some, rCount_eq a (by omega) hra (by omega), Option.bind_some, if_pos rfl, awake_eq (by omega)]; rfl
  · rw [decide_eq_false h, if_neg (by decide), awake_eq (by omega)]; rfl
end Go.Proofs.Yteeedheklnelkaa.P
