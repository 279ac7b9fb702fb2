/-
  Parts of the proof of the law ExtentMembers (part 3): what the functions it reaches come to, and the plain law. Conditions: those that each theorem names.
-/
import Derived.KernelRfl
import Derived.Test.YteeedheklnelkaaCExtentMembers2
namespace Go.Proofs.Yteeedheklnelkaa.P
open Go.RowKit Go.Proofs.YteeedheklnelkaaW.PrintWords Go.Proofs.YteeedheklnelkaaW.PrintLast Go.Proofs.YteeedheklnelkaaW.PrintMore
attribute [local go_sem] max2_int min2_int max_two min_two max_three min_three max_four min_four   -- for this text's walks alone
set_option linter.unusedVariables false
set_option linter.unusedSimpArgs false
mutual
def l01ExtentMembers.j0 : Nat → List (S40) → List (S40) → Int → Bool → Bool → Bool → Option (Bool)
  | 0, _, _, _, _, _, _ => none
  | k + 1, x0, x1, x2, x7, x8, x42 => if x42 = true then (some false) else ((xSubtract.f x0 x1).bind fun t507 => ((xContains.f t507 x2).bind fun t510 => (if x7 = true then (l01ExtentMembers.j1 k x0 x2 x7 (t510 != (!x8))) else (l01ExtentMembers.j1 k x0 x2 x7 (t510 != false)))))
def l01ExtentMembers.j1 : Nat → List (S40) → Int → Bool → Bool → Option (Bool)
  | 0, _, _, _, _ => none
  | k + 1, x0, x2, x7, x53 => if x53 = true then (some false) else (if x2 ≥ 0 then ((xComplement.f x0 4096).bind fun t511 => ((xContains.f t511 x2).bind fun t514 => (if x2 < 4096 then (if (t514 == (!x7)) = true then ((l01awake.f k).bind fun t515 => (some t515)) else (some false)) else (if (t514 == false) = true then ((l01awake.f k).bind fun t516 => (some t516)) else (some false))))) else ((xComplement.f x0 4096).bind fun t517 => ((xContains.f t517 x2).bind fun t520 => (if (t520 == false) = true then ((l01awake.f k).bind fun t521 => (some t521)) else (some false)))))
end
def l01ExtentMembers.f (k : Nat) (l0 : List (S40)) (l1 : List (S40)) (a2 : Int) : Option (Bool) := (l01few.f l0 l1).bind fun t491 => (if t491 = true then ((xContains.f l0 a2).bind fun t493 => ((xContains.f l1 a2).bind fun t494 => ((xUnion.f l0 l1).bind fun t495 => ((xContains.f t495 a2).bind fun t498 => (if t493 = true then (if (t498 != true) = true then (l01ExtentMembers.j0 k l0 l1 a2 t493 t494 true) else ((xIntersect.f l0 l1).bind fun t499 => ((xContains.f t499 a2).bind fun t502 => (l01ExtentMembers.j0 k l0 l1 a2 t493 t494 (t502 != t494))))) else (if (t498 != t494) = true then (l01ExtentMembers.j0 k l0 l1 a2 t493 t494 true) else ((xIntersect.f l0 l1).bind fun t503 => ((xContains.f t503 a2).bind fun t506 => (l01ExtentMembers.j0 k l0 l1 a2 t493 t494 (t506 != false)))))))))) else ((l01awake.f k).bind fun t492 => (some t492)))
set_option maxHeartbeats 8000000 in
set_option maxRecDepth 100000 in
theorem l01ExtentMembers.calls (k : Nat) (A0 : Option Addr) (c0 : Nat) (l0 : List (S40)) (A1 : Option Addr) (c1 : Nat) (l1 : List (S40)) (a2 : Int) (r : Bool) (w : World) (hr0 : Kd.C k40 w A0 l0.length l0) (hc0 : l0.length ≤ c0) (hr1 : Kd.C k40 w A1 l1.length l1) (hc1 : l1.length ≤ c1) (hT : Aside0 (r = true)) (h : l01ExtentMembers.f k l0 l1 a2 = some r) :
    Calls Try.prog 9 #[.slice A0 l0.length c0, .slice A1 l1.length c1, .int .i64 a2] w fun e w' => e = .returned (.bool r) ∧ Below w.heap.size w w' := by
  have HR0 := Aside0.mk hr0
  have HC0 := Aside0.mk hc0
  clear hr0 hc0
  have HR1 := Aside0.mk hr1
  have HC1 := Aside0.mk hc1
  clear hr1 hc1
  have HB := Aside0.mk (Below.refl w.heap.size w)
  have H : ((l01few.f l0 l1).bind fun t491 => (if t491 = true then ((xContains.f l0 a2).bind fun t493 => ((xContains.f l1 a2).bind fun t494 => ((xUnion.f l0 l1).bind fun t495 => ((xContains.f t495 a2).bind fun t498 => (if t493 = true then (if (t498 != true) = true then (l01ExtentMembers.j0 k l0 l1 a2 t493 t494 true) else ((xIntersect.f l0 l1).bind fun t499 => ((xContains.f t499 a2).bind fun t502 => (l01ExtentMembers.j0 k l0 l1 a2 t493 t494 (t502 != t494))))) else (if (t498 != t494) = true then (l01ExtentMembers.j0 k l0 l1 a2 t493 t494 true) else ((xIntersect.f l0 l1).bind fun t503 => ((xContains.f t503 a2).bind fun t506 => (l01ExtentMembers.j0 k l0 l1 a2 t493 t494 (t506 != false)))))))))) else ((l01awake.f k).bind fun t492 => (some t492)))) = some r := h
  clear h
  replace H := Option.bind_eq_some_iff.mp H
  obtain ⟨t491, A40, H⟩ := H
  replace H : (if t491 = true then ((xContains.f l0 a2).bind fun t493 => ((xContains.f l1 a2).bind fun t494 => ((xUnion.f l0 l1).bind fun t495 => ((xContains.f t495 a2).bind fun t498 => (if t493 = true then (if (t498 != true) = true then (l01ExtentMembers.j0 k l0 l1 a2 t493 t494 true) else ((xIntersect.f l0 l1).bind fun t499 => ((xContains.f t499 a2).bind fun t502 => (l01ExtentMembers.j0 k l0 l1 a2 t493 t494 (t502 != t494))))) else (if (t498 != t494) = true then (l01ExtentMembers.j0 k l0 l1 a2 t493 t494 true) else ((xIntersect.f l0 l1).bind fun t503 => ((xContains.f t503 a2).bind fun t506 => (l01ExtentMembers.j0 k l0 l1 a2 t493 t494 (t506 != false)))))))))) else ((l01awake.f k).bind fun t492 => (some t492))) = some r := H
  have A4 := Aside0.mk A40
  clear A40
  by_cases c5 : t491 = true
  · subst c5
    have H1 : ((xContains.f l0 a2).bind fun t493 => ((xContains.f l1 a2).bind fun t494 => ((xUnion.f l0 l1).bind fun t495 => ((xContains.f t495 a2).bind fun t498 => (if t493 = true then (if (t498 != true) = true then (l01ExtentMembers.j0 k l0 l1 a2 t493 t494 true) else ((xIntersect.f l0 l1).bind fun t499 => ((xContains.f t499 a2).bind fun t502 => (l01ExtentMembers.j0 k l0 l1 a2 t493 t494 (t502 != t494))))) else (if (t498 != t494) = true then (l01ExtentMembers.j0 k l0 l1 a2 t493 t494 true) else ((xIntersect.f l0 l1).bind fun t503 => ((xContains.f t503 a2).bind fun t506 => (l01ExtentMembers.j0 k l0 l1 a2 t493 t494 (t506 != false)))))))))) = some r := by rw [if_pos rfl] at H; exact H
    clear H
    have H := H1
    clear H1
    replace H := Option.bind_eq_some_iff.mp H
    obtain ⟨t493, A60, H⟩ := H
    replace H : ((xContains.f l1 a2).bind fun t494 => ((xUnion.f l0 l1).bind fun t495 => ((xContains.f t495 a2).bind fun t498 => (if t493 = true then (if (t498 != true) = true then (l01ExtentMembers.j0 k l0 l1 a2 t493 t494 true) else ((xIntersect.f l0 l1).bind fun t499 => ((xContains.f t499 a2).bind fun t502 => (l01ExtentMembers.j0 k l0 l1 a2 t493 t494 (t502 != t494))))) else (if (t498 != t494) = true then (l01ExtentMembers.j0 k l0 l1 a2 t493 t494 true) else ((xIntersect.f l0 l1).bind fun t503 => ((xContains.f t503 a2).bind fun t506 => (l01ExtentMembers.j0 k l0 l1 a2 t493 t494 (t506 != false))))))))) = some r := H
    have A6 := Aside0.mk A60
    clear A60
    replace H := Option.bind_eq_some_iff.mp H
    obtain ⟨t494, A70, H⟩ := H
    replace H : ((xUnion.f l0 l1).bind fun t495 => ((xContains.f t495 a2).bind fun t498 => (if t493 = true then (if (t498 != true) = true then (l01ExtentMembers.j0 k l0 l1 a2 t493 t494 true) else ((xIntersect.f l0 l1).bind fun t499 => ((xContains.f t499 a2).bind fun t502 => (l01ExtentMembers.j0 k l0 l1 a2 t493 t494 (t502 != t494))))) else (if (t498 != t494) = true then (l01ExtentMembers.j0 k l0 l1 a2 t493 t494 true) else ((xIntersect.f l0 l1).bind fun t503 => ((xContains.f t503 a2).bind fun t506 => (l01ExtentMembers.j0 k l0 l1 a2 t493 t494 (t506 != false)))))))) = some r := H
    have A7 := Aside0.mk A70
    clear A70
    have HC8 := Aside0.mk H
    clear H
    go_enter Try.func9, Try.ntmps9
    go_upto_region 4 with (first | ((with_reducible refine gate_callee (f := 12) rfl ?_); refine goesL_ (some 12) rfl rfl Try.func12 (by kernel_rfl) rfl #[.slice A0 l0.length c0, .slice A1 l1.length c1] rfl (by (try simp only [List.map_toArray, List.map_cons, List.map_nil]); first | done | rfl | (simp only [List.length_drop, List.length_take]; rfl)) ?_; (with_reducible refine (l01few.calls _ _ l0 _ _ l1 true _ ?side1 ?side2 ?side3 ?side4 A4.out).mono ?_); (case side1 => repeat (first | exact HR0.out | (with_reducible refine Kd.C_alloc ?_ _) | (with_reducible refine Kd.C_drewN ?_ _) | (with_reducible refine Kd.C_drew ?_))); (case side2 => exact HC0.out); (case side3 => repeat (first | exact HR1.out | (with_reducible refine Kd.C_alloc ?_ _) | (with_reducible refine Kd.C_drewN ?_ _) | (with_reducible refine Kd.C_drew ?_))); (case side4 => exact HC1.out); rintro e w' ⟨rfl, ⟨nd, rfl⟩⟩; refine ⟨_, rfl, ?_⟩) | ((with_reducible refine gate_callee (f := 21) rfl ?_); refine goesL_ (some 17) rfl rfl Try.func21 (by kernel_rfl) rfl #[.slice A0 l0.length c0, .int .i64 a2] rfl (by (try simp only [List.map_toArray, List.map_cons, List.map_nil]); first | done | rfl | (simp only [List.length_drop, List.length_take]; rfl)) ?_; (with_reducible refine (xContains.calls _ _ l0 a2 t493 _ ?side1 ?side2 A6.out).mono ?_); (case side1 => repeat (first | exact HR0.out | (with_reducible refine Kd.C_alloc ?_ _) | (with_reducible refine Kd.C_drewN ?_ _) | (with_reducible refine Kd.C_drew ?_))); (case side2 => exact HC0.out); rintro e w9 ⟨rfl, hb⟩; refine ⟨_, rfl, ?_⟩; have n0_ := Aside0.mk (below_step (by repeat (first | (with_reducible first | exact HB.out | apply below_alloc | apply pw_below_drewN | apply below_drew1) | exact HB.out)) hb); clear HB; have HB := n0_; clear n0_; (try clear hb); (try clear hb2); (try clear hk); (try clear hi)) | ((with_reducible refine gate_callee (f := 21) rfl ?_); refine goesL_ (some 20) rfl rfl Try.func21 (by kernel_rfl) rfl #[.slice A1 l1.length c1, .int .i64 a2] rfl (by (try simp only [List.map_toArray, List.map_cons, List.map_nil]); first | done | rfl | (simp only [List.length_drop, List.length_take]; rfl)) ?_; (with_reducible refine (xContains.calls _ _ l1 a2 t494 _ ?side1 ?side2 A7.out).mono ?_); (case side1 => repeat (first | exact (Kd.C_below HR1.out HB.out) | (with_reducible refine Kd.C_alloc ?_ _) | (with_reducible refine Kd.C_drewN ?_ _) | (with_reducible refine Kd.C_drew ?_))); (case side2 => exact HC1.out); rintro e w10 ⟨rfl, hb⟩; refine ⟨_, rfl, ?_⟩; have n0_ := Aside0.mk (below_step (by repeat (first | (with_reducible first | exact HB.out | apply below_alloc | apply pw_below_drewN | apply below_drew1) | exact HB.out)) hb); clear HB; have HB := n0_; clear n0_; (try clear hb); (try clear hb2); (try clear hk); (try clear hi)))
    (try simp only [Act.put, List.setIfInBounds_toArray, List.set_cons_zero, List.set_cons_succ])
    go_cut [42] (fun v42 wc => ∃ (kq : Nat) (x42_7 : Bool), v42 = .bool x42_7 ∧ Aside0 (l01ExtentMembers.j0 kq l0 l1 a2 t493 t494 x42_7 = some r) ∧ Aside0 (kq ≤ k) ∧ Aside0 (Below w.heap.size w wc))
    case first =>
      have H := HC8.out
      clear HC8
      replace H := Option.bind_eq_some_iff.mp H
      obtain ⟨t495, A110, H⟩ := H
      replace H : ((xContains.f t495 a2).bind fun t498 => (if t493 = true then (if (t498 != true) = true then (l01ExtentMembers.j0 k l0 l1 a2 t493 t494 true) else ((xIntersect.f l0 l1).bind fun t499 => ((xContains.f t499 a2).bind fun t502 => (l01ExtentMembers.j0 k l0 l1 a2 t493 t494 (t502 != t494))))) else (if (t498 != t494) = true then (l01ExtentMembers.j0 k l0 l1 a2 t493 t494 true) else ((xIntersect.f l0 l1).bind fun t503 => ((xContains.f t503 a2).bind fun t506 => (l01ExtentMembers.j0 k l0 l1 a2 t493 t494 (t506 != false))))))) = some r := H
      have A11 := Aside0.mk A110
      clear A110
      replace H := Option.bind_eq_some_iff.mp H
      obtain ⟨t498, A120, H⟩ := H
      replace H : (if t493 = true then (if (t498 != true) = true then (l01ExtentMembers.j0 k l0 l1 a2 t493 t494 true) else ((xIntersect.f l0 l1).bind fun t499 => ((xContains.f t499 a2).bind fun t502 => (l01ExtentMembers.j0 k l0 l1 a2 t493 t494 (t502 != t494))))) else (if (t498 != t494) = true then (l01ExtentMembers.j0 k l0 l1 a2 t493 t494 true) else ((xIntersect.f l0 l1).bind fun t503 => ((xContains.f t503 a2).bind fun t506 => (l01ExtentMembers.j0 k l0 l1 a2 t493 t494 (t506 != false)))))) = some r := H
      have A12 := Aside0.mk A120
      clear A120
      by_cases c13 : t493 = true
      · subst c13
        have H1 : (if (t498 != true) = true then (l01ExtentMembers.j0 k l0 l1 a2 true t494 true) else ((xIntersect.f l0 l1).bind fun t499 => ((xContains.f t499 a2).bind fun t502 => (l01ExtentMembers.j0 k l0 l1 a2 true t494 (t502 != t494))))) = some r := by rw [if_pos rfl] at H; exact H
        clear H
        have H := H1
        clear H1
        by_cases c14 : (t498 != true) = true
        · rw [if_pos c14] at H
          have c14b0 : (t498 != true) = true := c14
          (try (have c14b1 : decide (t498 = true) = false := by simpa using c14))
          (try (have c14b2 : (t498 == true) = false := by simpa using c14))
          (try (have c14b3 : ¬ (t498 = true) := by simpa using c14))
          clear c14
          (first | rw [c14b0] | (simp only [i64_w, i32_w]; rw [c14b0]) | skip)
          have H' := Aside0.mk H
          clear H
          go_wp2_with (first | ((with_reducible refine gate_callee (f := 25) rfl ?_); refine goesL_ (some 23) rfl rfl Try.func25 (by kernel_rfl) rfl #[.slice A0 l0.length c0, .slice A1 l1.length c1] rfl (by (try simp only [List.map_toArray, List.map_cons, List.map_nil]); first | done | rfl | (simp only [List.length_drop, List.length_take]; rfl)) ?_; (with_reducible refine (xUnion.calls _ _ l0 _ _ l1 t495 _ ?side1 ?side2 ?side3 ?side4 A11.out).mono ?_); (case side1 => repeat (first | exact (Kd.C_below HR0.out HB.out) | (with_reducible refine Kd.C_alloc ?_ _) | (with_reducible refine Kd.C_drewN ?_ _) | (with_reducible refine Kd.C_drew ?_))); (case side2 => exact HC0.out); (case side3 => repeat (first | exact (Kd.C_below HR1.out HB.out) | (with_reducible refine Kd.C_alloc ?_ _) | (with_reducible refine Kd.C_drewN ?_ _) | (with_reducible refine Kd.C_drew ?_))); (case side4 => exact HC1.out); rintro e w15 ⟨v496, rfl, ho0, hb⟩; refine ⟨_, rfl, ?_⟩; have n0_ := Aside0.mk (Kd.R_lower ho0 (below_size (by repeat (first | (with_reducible first | exact HB.out | apply below_alloc | apply pw_below_drewN | apply below_drew1) | exact HB.out)))); have n1_ := Aside0.mk (below_step (by repeat (first | (with_reducible first | exact HB.out | apply below_alloc | apply pw_below_drewN | apply below_drew1) | exact HB.out)) hb); clear HB; have HO497 := n0_; have HB := n1_; clear n0_ n1_; (try clear hb); (try clear hb2); (try clear hk); (try clear hi); (try clear ho0); obtain ⟨Ao16, co16, eo16⟩ := Kd.R_slice HO497.out; subst eo16) | ((with_reducible refine gate_callee (f := 21) rfl ?_); refine goesL_ (some 25) rfl rfl Try.func21 (by kernel_rfl) rfl #[.slice Ao16 t495.length co16, .int .i64 a2] rfl (by (try simp only [List.map_toArray, List.map_cons, List.map_nil]); first | done | rfl | (simp only [List.length_drop, List.length_take]; rfl)) ?_; (with_reducible refine (xContains.calls _ _ t495 a2 t498 _ ?side1 ?side2 A12.out).mono ?_); (case side1 => repeat (first | exact (Kd.R_reads' HO497.out).2.2 | (with_reducible refine Kd.C_alloc ?_ _) | (with_reducible refine Kd.C_drewN ?_ _) | (with_reducible refine Kd.C_drew ?_))); (case side2 => exact (Kd.R_reads' HO497.out).2.1); rintro e w17 ⟨rfl, hb⟩; refine ⟨_, rfl, ?_⟩; have n0_ := Aside0.mk (Kd.R_below (by (with_reducible repeat (first | apply Kd.R_alloc | apply Kd.R_drewN | apply Kd.R_drew)); exact HO497.out) hb); have n1_ := Aside0.mk (below_step (by repeat (first | (with_reducible first | exact HB.out | apply below_alloc | apply pw_below_drewN | apply below_drew1) | exact HB.out)) hb); clear HO497; clear HB; have HO497 := n0_; have HB := n1_; clear n0_ n1_; (try clear hb); (try clear hb2); (try clear hk); (try clear hi)))
          go_meet
          case rel => exact ⟨_, (true), (by first | rfl | (simp; done) | (simp [*]; done)), H', ⟨by first | omega | exact Nat.le_refl _⟩, ⟨by repeat (first | (with_reducible first | exact HB.out | apply below_alloc | apply pw_below_drewN | apply below_drew1) | exact HB.out)⟩⟩
        · rw [if_neg c14] at H
          have c14b0 : (t498 != true) = false := by simpa using c14
          (try (have c14b1 : decide (t498 = true) = true := by simpa using c14))
          (try (have c14b2 : (t498 == true) = true := by simpa using c14))
          clear c14
          (first | rw [c14b0] | (simp only [i64_w, i32_w]; rw [c14b0]) | skip)
          replace H := Option.bind_eq_some_iff.mp H
          obtain ⟨t499, A180, H⟩ := H
          replace H : ((xContains.f t499 a2).bind fun t502 => (l01ExtentMembers.j0 k l0 l1 a2 true t494 (t502 != t494))) = some r := H
          have A18 := Aside0.mk A180
          clear A180
          replace H := Option.bind_eq_some_iff.mp H
          obtain ⟨t502, A190, H⟩ := H
          replace H : (l01ExtentMembers.j0 k l0 l1 a2 true t494 (t502 != t494)) = some r := H
          have A19 := Aside0.mk A190
          clear A190
          have H' := Aside0.mk H
          clear H
          go_wp2_with (first | ((with_reducible refine gate_callee (f := 25) rfl ?_); refine goesL_ (some 23) rfl rfl Try.func25 (by kernel_rfl) rfl #[.slice A0 l0.length c0, .slice A1 l1.length c1] rfl (by (try simp only [List.map_toArray, List.map_cons, List.map_nil]); first | done | rfl | (simp only [List.length_drop, List.length_take]; rfl)) ?_; (with_reducible refine (xUnion.calls _ _ l0 _ _ l1 t495 _ ?side1 ?side2 ?side3 ?side4 A11.out).mono ?_); (case side1 => repeat (first | exact (Kd.C_below HR0.out HB.out) | (with_reducible refine Kd.C_alloc ?_ _) | (with_reducible refine Kd.C_drewN ?_ _) | (with_reducible refine Kd.C_drew ?_))); (case side2 => exact HC0.out); (case side3 => repeat (first | exact (Kd.C_below HR1.out HB.out) | (with_reducible refine Kd.C_alloc ?_ _) | (with_reducible refine Kd.C_drewN ?_ _) | (with_reducible refine Kd.C_drew ?_))); (case side4 => exact HC1.out); rintro e w20 ⟨v496, rfl, ho0, hb⟩; refine ⟨_, rfl, ?_⟩; have n0_ := Aside0.mk (Kd.R_lower ho0 (below_size (by repeat (first | (with_reducible first | exact HB.out | apply below_alloc | apply pw_below_drewN | apply below_drew1) | exact HB.out)))); have n1_ := Aside0.mk (below_step (by repeat (first | (with_reducible first | exact HB.out | apply below_alloc | apply pw_below_drewN | apply below_drew1) | exact HB.out)) hb); clear HB; have HO497 := n0_; have HB := n1_; clear n0_ n1_; (try clear hb); (try clear hb2); (try clear hk); (try clear hi); (try clear ho0); obtain ⟨Ao21, co21, eo21⟩ := Kd.R_slice HO497.out; subst eo21) | ((with_reducible refine gate_callee (f := 21) rfl ?_); refine goesL_ (some 25) rfl rfl Try.func21 (by kernel_rfl) rfl #[.slice Ao21 t495.length co21, .int .i64 a2] rfl (by (try simp only [List.map_toArray, List.map_cons, List.map_nil]); first | done | rfl | (simp only [List.length_drop, List.length_take]; rfl)) ?_; (with_reducible refine (xContains.calls _ _ t495 a2 t498 _ ?side1 ?side2 A12.out).mono ?_); (case side1 => repeat (first | exact (Kd.R_reads' HO497.out).2.2 | (with_reducible refine Kd.C_alloc ?_ _) | (with_reducible refine Kd.C_drewN ?_ _) | (with_reducible refine Kd.C_drew ?_))); (case side2 => exact (Kd.R_reads' HO497.out).2.1); rintro e w22 ⟨rfl, hb⟩; refine ⟨_, rfl, ?_⟩; have n0_ := Aside0.mk (Kd.R_below (by (with_reducible repeat (first | apply Kd.R_alloc | apply Kd.R_drewN | apply Kd.R_drew)); exact HO497.out) hb); have n1_ := Aside0.mk (below_step (by repeat (first | (with_reducible first | exact HB.out | apply below_alloc | apply pw_below_drewN | apply below_drew1) | exact HB.out)) hb); clear HO497; clear HB; have HO497 := n0_; have HB := n1_; clear n0_ n1_; (try clear hb); (try clear hb2); (try clear hk); (try clear hi)) | (go_at_call 27; (with_reducible refine (xIntersect.calls _ _ l0 _ _ l1 t499 _ ?side1 ?side2 ?side3 ?side4 A18.out).mono ?_); (case side1 => repeat (first | exact (Kd.C_below HR0.out HB.out) | (with_reducible refine Kd.C_alloc ?_ _) | (with_reducible refine Kd.C_drewN ?_ _) | (with_reducible refine Kd.C_drew ?_))); (case side2 => exact HC0.out); (case side3 => repeat (first | exact (Kd.C_below HR1.out HB.out) | (with_reducible refine Kd.C_alloc ?_ _) | (with_reducible refine Kd.C_drewN ?_ _) | (with_reducible refine Kd.C_drew ?_))); (case side4 => exact HC1.out); rintro e w23 ⟨v500, rfl, ho0, hb⟩; have n0_ := Aside0.mk (Kd.R_elder' (by (with_reducible repeat (first | apply Kd.R_alloc | apply Kd.R_drewN | apply Kd.R_drew)); exact HO497.out) (Kd.R_base ho0) hb); have n1_ := Aside0.mk (Kd.R_lower (Kd.R_new' ho0 (Kd.R_lt (by (with_reducible repeat (first | apply Kd.R_alloc | apply Kd.R_drewN | apply Kd.R_drew)); exact HO497.out))) (below_size (by repeat (first | (with_reducible first | exact HB.out | apply below_alloc | apply pw_below_drewN | apply below_drew1) | exact HB.out)))); have n2_ := Aside0.mk (below_step (by repeat (first | (with_reducible first | exact HB.out | apply below_alloc | apply pw_below_drewN | apply below_drew1) | exact HB.out)) hb); clear HO497; clear HB; have HO497 := n0_; have HO501 := n1_; have HB := n2_; clear n0_ n1_ n2_; (try clear hb); (try clear hb2); (try clear hk); (try clear hi); (try clear ho0); obtain ⟨Ao24, co24, eo24⟩ := Kd.R_slice HO501.out; subst eo24) | (go_at_call 21; (with_reducible refine (xContains.calls _ _ t499 a2 t502 _ ?side1 ?side2 A19.out).mono ?_); (case side1 => repeat (first | exact (Kd.R_reads' HO501.out).2.2 | (with_reducible refine Kd.C_alloc ?_ _) | (with_reducible refine Kd.C_drewN ?_ _) | (with_reducible refine Kd.C_drew ?_))); (case side2 => exact (Kd.R_reads' HO501.out).2.1); rintro e w25 ⟨rfl, hb⟩; have n0_ := Aside0.mk (Kd.R_below (by (with_reducible repeat (first | apply Kd.R_alloc | apply Kd.R_drewN | apply Kd.R_drew)); exact HO497.out) hb); have n1_ := Aside0.mk (Kd.R_below (by (with_reducible repeat (first | apply Kd.R_alloc | apply Kd.R_drewN | apply Kd.R_drew)); exact HO501.out) hb); have n2_ := Aside0.mk (below_step (by repeat (first | (with_reducible first | exact HB.out | apply below_alloc | apply pw_below_drewN | apply below_drew1) | exact HB.out)) hb); clear HO497; clear HO501; clear HB; have HO497 := n0_; have HO501 := n1_; have HB := n2_; clear n0_ n1_ n2_; (try clear hb); (try clear hb2); (try clear hk); (try clear hi)))
          go_meet
          case rel => exact ⟨_, ((t502 != t494)), (by first | rfl | (simp; done) | (simp [*]; done)), H', ⟨by first | omega | exact Nat.le_refl _⟩, ⟨by repeat (first | (with_reducible first | exact HB.out | apply below_alloc | apply pw_below_drewN | apply below_drew1) | exact HB.out)⟩⟩
      · replace c13 := Bool.eq_false_iff.mpr c13
        subst c13
        have H1 : (if (t498 != t494) = true then (l01ExtentMembers.j0 k l0 l1 a2 false t494 true) else ((xIntersect.f l0 l1).bind fun t503 => ((xContains.f t503 a2).bind fun t506 => (l01ExtentMembers.j0 k l0 l1 a2 false t494 (t506 != false))))) = some r := by rw [if_neg (show ¬ (false = true) by decide)] at H; exact H
        clear H
        have H := H1
        clear H1
        by_cases c26 : (t498 != t494) = true
        · rw [if_pos c26] at H
          have c26b0 : (t498 != t494) = true := c26
          (try (have c26b1 : decide (t498 = t494) = false := by simpa using c26))
          (try (have c26b2 : (t498 == t494) = false := by simpa using c26))
          (try (have c26b3 : ¬ (t498 = t494) := by simpa using c26))
          clear c26
          have H' := Aside0.mk H
          clear H
          go_wp2_with (first | ((with_reducible refine gate_callee (f := 25) rfl ?_); refine goesL_ (some 23) rfl rfl Try.func25 (by kernel_rfl) rfl #[.slice A0 l0.length c0, .slice A1 l1.length c1] rfl (by (try simp only [List.map_toArray, List.map_cons, List.map_nil]); first | done | rfl | (simp only [List.length_drop, List.length_take]; rfl)) ?_; (with_reducible refine (xUnion.calls _ _ l0 _ _ l1 t495 _ ?side1 ?side2 ?side3 ?side4 A11.out).mono ?_); (case side1 => repeat (first | exact (Kd.C_below HR0.out HB.out) | (with_reducible refine Kd.C_alloc ?_ _) | (with_reducible refine Kd.C_drewN ?_ _) | (with_reducible refine Kd.C_drew ?_))); (case side2 => exact HC0.out); (case side3 => repeat (first | exact (Kd.C_below HR1.out HB.out) | (with_reducible refine Kd.C_alloc ?_ _) | (with_reducible refine Kd.C_drewN ?_ _) | (with_reducible refine Kd.C_drew ?_))); (case side4 => exact HC1.out); rintro e w27 ⟨v496, rfl, ho0, hb⟩; refine ⟨_, rfl, ?_⟩; have n0_ := Aside0.mk (Kd.R_lower ho0 (below_size (by repeat (first | (with_reducible first | exact HB.out | apply below_alloc | apply pw_below_drewN | apply below_drew1) | exact HB.out)))); have n1_ := Aside0.mk (below_step (by repeat (first | (with_reducible first | exact HB.out | apply below_alloc | apply pw_below_drewN | apply below_drew1) | exact HB.out)) hb); clear HB; have HO497 := n0_; have HB := n1_; clear n0_ n1_; (try clear hb); (try clear hb2); (try clear hk); (try clear hi); (try clear ho0); obtain ⟨Ao28, co28, eo28⟩ := Kd.R_slice HO497.out; subst eo28) | ((with_reducible refine gate_callee (f := 21) rfl ?_); refine goesL_ (some 25) rfl rfl Try.func21 (by kernel_rfl) rfl #[.slice Ao28 t495.length co28, .int .i64 a2] rfl (by (try simp only [List.map_toArray, List.map_cons, List.map_nil]); first | done | rfl | (simp only [List.length_drop, List.length_take]; rfl)) ?_; (with_reducible refine (xContains.calls _ _ t495 a2 t498 _ ?side1 ?side2 A12.out).mono ?_); (case side1 => repeat (first | exact (Kd.R_reads' HO497.out).2.2 | (with_reducible refine Kd.C_alloc ?_ _) | (with_reducible refine Kd.C_drewN ?_ _) | (with_reducible refine Kd.C_drew ?_))); (case side2 => exact (Kd.R_reads' HO497.out).2.1); rintro e w29 ⟨rfl, hb⟩; refine ⟨_, rfl, ?_⟩; have n0_ := Aside0.mk (Kd.R_below (by (with_reducible repeat (first | apply Kd.R_alloc | apply Kd.R_drewN | apply Kd.R_drew)); exact HO497.out) hb); have n1_ := Aside0.mk (below_step (by repeat (first | (with_reducible first | exact HB.out | apply below_alloc | apply pw_below_drewN | apply below_drew1) | exact HB.out)) hb); clear HO497; clear HB; have HO497 := n0_; have HB := n1_; clear n0_ n1_; (try clear hb); (try clear hb2); (try clear hk); (try clear hi)))
          go_meet
          case rel => exact ⟨_, (true), (by first | rfl | (simp; done) | (simp [*]; done)), H', ⟨by first | omega | exact Nat.le_refl _⟩, ⟨by repeat (first | (with_reducible first | exact HB.out | apply below_alloc | apply pw_below_drewN | apply below_drew1) | exact HB.out)⟩⟩
        · rw [if_neg c26] at H
          have c26b0 : (t498 != t494) = false := by simpa using c26
          (try (have c26b1 : decide (t498 = t494) = true := by simpa using c26))
          (try (have c26b2 : (t498 == t494) = true := by simpa using c26))
          clear c26
          replace H := Option.bind_eq_some_iff.mp H
          obtain ⟨t503, A300, H⟩ := H
          replace H : ((xContains.f t503 a2).bind fun t506 => (l01ExtentMembers.j0 k l0 l1 a2 false t494 (t506 != false))) = some r := H
          have A30 := Aside0.mk A300
          clear A300
          replace H := Option.bind_eq_some_iff.mp H
          obtain ⟨t506, A310, H⟩ := H
          replace H : (l01ExtentMembers.j0 k l0 l1 a2 false t494 (t506 != false)) = some r := H
          have A31 := Aside0.mk A310
          clear A310
          have H' := Aside0.mk H
          clear H
          go_wp2_with (first | ((with_reducible refine gate_callee (f := 25) rfl ?_); refine goesL_ (some 23) rfl rfl Try.func25 (by kernel_rfl) rfl #[.slice A0 l0.length c0, .slice A1 l1.length c1] rfl (by (try simp only [List.map_toArray, List.map_cons, List.map_nil]); first | done | rfl | (simp only [List.length_drop, List.length_take]; rfl)) ?_; (with_reducible refine (xUnion.calls _ _ l0 _ _ l1 t495 _ ?side1 ?side2 ?side3 ?side4 A11.out).mono ?_); (case side1 => repeat (first | exact (Kd.C_below HR0.out HB.out) | (with_reducible refine Kd.C_alloc ?_ _) | (with_reducible refine Kd.C_drewN ?_ _) | (with_reducible refine Kd.C_drew ?_))); (case side2 => exact HC0.out); (case side3 => repeat (first | exact (Kd.C_below HR1.out HB.out) | (with_reducible refine Kd.C_alloc ?_ _) | (with_reducible refine Kd.C_drewN ?_ _) | (with_reducible refine Kd.C_drew ?_))); (case side4 => exact HC1.out); rintro e w32 ⟨v496, rfl, ho0, hb⟩; refine ⟨_, rfl, ?_⟩; have n0_ := Aside0.mk (Kd.R_lower ho0 (below_size (by repeat (first | (with_reducible first | exact HB.out | apply below_alloc | apply pw_below_drewN | apply below_drew1) | exact HB.out)))); have n1_ := Aside0.mk (below_step (by repeat (first | (with_reducible first | exact HB.out | apply below_alloc | apply pw_below_drewN | apply below_drew1) | exact HB.out)) hb); clear HB; have HO497 := n0_; have HB := n1_; clear n0_ n1_; (try clear hb); (try clear hb2); (try clear hk); (try clear hi); (try clear ho0); obtain ⟨Ao33, co33, eo33⟩ := Kd.R_slice HO497.out; subst eo33) | ((with_reducible refine gate_callee (f := 21) rfl ?_); refine goesL_ (some 25) rfl rfl Try.func21 (by kernel_rfl) rfl #[.slice Ao33 t495.length co33, .int .i64 a2] rfl (by (try simp only [List.map_toArray, List.map_cons, List.map_nil]); first | done | rfl | (simp only [List.length_drop, List.length_take]; rfl)) ?_; (with_reducible refine (xContains.calls _ _ t495 a2 t498 _ ?side1 ?side2 A12.out).mono ?_); (case side1 => repeat (first | exact (Kd.R_reads' HO497.out).2.2 | (with_reducible refine Kd.C_alloc ?_ _) | (with_reducible refine Kd.C_drewN ?_ _) | (with_reducible refine Kd.C_drew ?_))); (case side2 => exact (Kd.R_reads' HO497.out).2.1); rintro e w34 ⟨rfl, hb⟩; refine ⟨_, rfl, ?_⟩; have n0_ := Aside0.mk (Kd.R_below (by (with_reducible repeat (first | apply Kd.R_alloc | apply Kd.R_drewN | apply Kd.R_drew)); exact HO497.out) hb); have n1_ := Aside0.mk (below_step (by repeat (first | (with_reducible first | exact HB.out | apply below_alloc | apply pw_below_drewN | apply below_drew1) | exact HB.out)) hb); clear HO497; clear HB; have HO497 := n0_; have HB := n1_; clear n0_ n1_; (try clear hb); (try clear hb2); (try clear hk); (try clear hi)) | (go_at_call 27; (with_reducible refine (xIntersect.calls _ _ l0 _ _ l1 t503 _ ?side1 ?side2 ?side3 ?side4 A30.out).mono ?_); (case side1 => repeat (first | exact (Kd.C_below HR0.out HB.out) | (with_reducible refine Kd.C_alloc ?_ _) | (with_reducible refine Kd.C_drewN ?_ _) | (with_reducible refine Kd.C_drew ?_))); (case side2 => exact HC0.out); (case side3 => repeat (first | exact (Kd.C_below HR1.out HB.out) | (with_reducible refine Kd.C_alloc ?_ _) | (with_reducible refine Kd.C_drewN ?_ _) | (with_reducible refine Kd.C_drew ?_))); (case side4 => exact HC1.out); rintro e w35 ⟨v504, rfl, ho0, hb⟩; have n0_ := Aside0.mk (Kd.R_elder' (by (with_reducible repeat (first | apply Kd.R_alloc | apply Kd.R_drewN | apply Kd.R_drew)); exact HO497.out) (Kd.R_base ho0) hb); have n1_ := Aside0.mk (Kd.R_lower (Kd.R_new' ho0 (Kd.R_lt (by (with_reducible repeat (first | apply Kd.R_alloc | apply Kd.R_drewN | apply Kd.R_drew)); exact HO497.out))) (below_size (by repeat (first | (with_reducible first | exact HB.out | apply below_alloc | apply pw_below_drewN | apply below_drew1) | exact HB.out)))); have n2_ := Aside0.mk (below_step (by repeat (first | (with_reducible first | exact HB.out | apply below_alloc | apply pw_below_drewN | apply below_drew1) | exact HB.out)) hb); clear HO497; clear HB; have HO497 := n0_; have HO505 := n1_; have HB := n2_; clear n0_ n1_ n2_; (try clear hb); (try clear hb2); (try clear hk); (try clear hi); (try clear ho0); obtain ⟨Ao36, co36, eo36⟩ := Kd.R_slice HO505.out; subst eo36) | (go_at_call 21; (with_reducible refine (xContains.calls _ _ t503 a2 t506 _ ?side1 ?side2 A31.out).mono ?_); (case side1 => repeat (first | exact (Kd.R_reads' HO505.out).2.2 | (with_reducible refine Kd.C_alloc ?_ _) | (with_reducible refine Kd.C_drewN ?_ _) | (with_reducible refine Kd.C_drew ?_))); (case side2 => exact (Kd.R_reads' HO505.out).2.1); rintro e w37 ⟨rfl, hb⟩; have n0_ := Aside0.mk (Kd.R_below (by (with_reducible repeat (first | apply Kd.R_alloc | apply Kd.R_drewN | apply Kd.R_drew)); exact HO497.out) hb); have n1_ := Aside0.mk (Kd.R_below (by (with_reducible repeat (first | apply Kd.R_alloc | apply Kd.R_drewN | apply Kd.R_drew)); exact HO505.out) hb); have n2_ := Aside0.mk (below_step (by repeat (first | (with_reducible first | exact HB.out | apply below_alloc | apply pw_below_drewN | apply below_drew1) | exact HB.out)) hb); clear HO497; clear HO505; clear HB; have HO497 := n0_; have HO505 := n1_; have HB := n2_; clear n0_ n1_ n2_; (try clear hb); (try clear hb2); (try clear hk); (try clear hi)))
          go_meet
          case rel => exact ⟨_, ((t506 != false)), (by first | rfl | (simp; done) | (simp [*]; done)), H', ⟨by first | omega | exact Nat.le_refl _⟩, ⟨by repeat (first | (with_reducible first | exact HB.out | apply below_alloc | apply pw_below_drewN | apply below_drew1) | exact HB.out)⟩⟩
    case rest =>
      clear HC8
      try clear c1
      try clear c2
      try clear p2
      try clear c5
      try clear c9
      try clear c12
      try clear c13
      try clear c14
      try clear c14b0
      try clear c14b1
      try clear c14b2
      try clear c21
      try clear c25
      try clear c26
      try clear c26b0
      try clear c26b1
      try clear c26b2
      obtain ⟨kq, x42_7, rfl, HA, HJ7, HB⟩ := hcut
      cases kq with
      | zero => exact absurd HA.out (by simp [l01ExtentMembers.j0])
      | succ kj7 =>
        have H := HA.out
        clear HA
        simp only [l01ExtentMembers.j0] at H
        by_cases c38 : x42_7 = true
        · subst c38
          have H1 : (some false) = some r := by rw [if_pos rfl] at H; exact H
          clear H
          have H := H1
          clear H1
          exact absurd ((Option.some.inj H).trans hT.out) (by decide)
        · replace c38 := Bool.eq_false_iff.mpr c38
          subst c38
          have H1 : ((xSubtract.f l0 l1).bind fun t507 => ((xContains.f t507 a2).bind fun t510 => (if t493 = true then (l01ExtentMembers.j1 kj7 l0 a2 t493 (t510 != (!t494))) else (l01ExtentMembers.j1 kj7 l0 a2 t493 (t510 != false))))) = some r := by rw [if_neg (show ¬ (false = true) by decide)] at H; exact H
          clear H
          have H := H1
          clear H1
          have HC39 := Aside0.mk H
          clear H
          go_upto_region 6 with (fail)
          go_cut [53] (fun v53 wc => ∃ (kq : Nat) (x53_38 : Bool), v53 = .bool x53_38 ∧ Aside0 (l01ExtentMembers.j1 kq l0 a2 t493 x53_38 = some r) ∧ Aside0 (kq ≤ kj7) ∧ Aside0 (Below w.heap.size w wc))
          case first =>
            have H := HC39.out
            clear HC39
            replace H := Option.bind_eq_some_iff.mp H
            obtain ⟨t507, A400, H⟩ := H
            replace H : ((xContains.f t507 a2).bind fun t510 => (if t493 = true then (l01ExtentMembers.j1 kj7 l0 a2 t493 (t510 != (!t494))) else (l01ExtentMembers.j1 kj7 l0 a2 t493 (t510 != false)))) = some r := H
            have A40 := Aside0.mk A400
            clear A400
            replace H := Option.bind_eq_some_iff.mp H
            obtain ⟨t510, A410, H⟩ := H
            replace H : (if t493 = true then (l01ExtentMembers.j1 kj7 l0 a2 t493 (t510 != (!t494))) else (l01ExtentMembers.j1 kj7 l0 a2 t493 (t510 != false))) = some r := H
            have A41 := Aside0.mk A410
            clear A410
            by_cases c42 : t493 = true
            · subst c42
              have H1 : (l01ExtentMembers.j1 kj7 l0 a2 true (t510 != (!t494))) = some r := by rw [if_pos rfl] at H; exact H
              clear H
              have H := H1
              clear H1
              have H' := Aside0.mk H
              clear H
              go_wp2_with (first | ((with_reducible refine gate_callee (f := 29) rfl ?_); refine goesL_ (some 45) rfl rfl Try.func29 (by kernel_rfl) rfl #[.slice A0 l0.length c0, .slice A1 l1.length c1] rfl (by (try simp only [List.map_toArray, List.map_cons, List.map_nil]); first | done | rfl | (simp only [List.length_drop, List.length_take]; rfl)) ?_; (with_reducible refine (xSubtract.calls _ _ l0 _ _ l1 t507 _ ?side1 ?side2 ?side3 ?side4 A40.out).mono ?_); (case side1 => repeat (first | exact (Kd.C_below HR0.out HB.out) | (with_reducible refine Kd.C_alloc ?_ _) | (with_reducible refine Kd.C_drewN ?_ _) | (with_reducible refine Kd.C_drew ?_))); (case side2 => exact HC0.out); (case side3 => repeat (first | exact (Kd.C_below HR1.out HB.out) | (with_reducible refine Kd.C_alloc ?_ _) | (with_reducible refine Kd.C_drewN ?_ _) | (with_reducible refine Kd.C_drew ?_))); (case side4 => exact HC1.out); rintro e w43 ⟨v508, rfl, ho0, hb⟩; refine ⟨_, rfl, ?_⟩; have n0_ := Aside0.mk (Kd.R_lower ho0 (below_size (by repeat (first | (with_reducible first | exact HB.out | apply below_alloc | apply pw_below_drewN | apply below_drew1) | exact HB.out)))); have n1_ := Aside0.mk (below_step (by repeat (first | (with_reducible first | exact HB.out | apply below_alloc | apply pw_below_drewN | apply below_drew1) | exact HB.out)) hb); clear HB; have HO509 := n0_; have HB := n1_; clear n0_ n1_; (try clear hb); (try clear hb2); (try clear hk); (try clear hi); (try clear ho0); obtain ⟨Ao44, co44, eo44⟩ := Kd.R_slice HO509.out; subst eo44) | ((with_reducible refine gate_callee (f := 21) rfl ?_); refine goesL_ (some 47) rfl rfl Try.func21 (by kernel_rfl) rfl #[.slice Ao44 t507.length co44, .int .i64 a2] rfl (by (try simp only [List.map_toArray, List.map_cons, List.map_nil]); first | done | rfl | (simp only [List.length_drop, List.length_take]; rfl)) ?_; (with_reducible refine (xContains.calls _ _ t507 a2 t510 _ ?side1 ?side2 A41.out).mono ?_); (case side1 => repeat (first | exact (Kd.R_reads' HO509.out).2.2 | (with_reducible refine Kd.C_alloc ?_ _) | (with_reducible refine Kd.C_drewN ?_ _) | (with_reducible refine Kd.C_drew ?_))); (case side2 => exact (Kd.R_reads' HO509.out).2.1); rintro e w45 ⟨rfl, hb⟩; refine ⟨_, rfl, ?_⟩; have n0_ := Aside0.mk (Kd.R_below (by (with_reducible repeat (first | apply Kd.R_alloc | apply Kd.R_drewN | apply Kd.R_drew)); exact HO509.out) hb); have n1_ := Aside0.mk (below_step (by repeat (first | (with_reducible first | exact HB.out | apply below_alloc | apply pw_below_drewN | apply below_drew1) | exact HB.out)) hb); clear HO509; clear HB; have HO509 := n0_; have HB := n1_; clear n0_ n1_; (try clear hb); (try clear hb2); (try clear hk); (try clear hi)))
              go_meet
              case rel => exact ⟨_, ((t510 != (!t494))), (by first | rfl | (simp; done) | (simp [*]; done)), H', ⟨by have := HJ7.out; first | omega | exact Nat.le_refl _⟩, ⟨by repeat (first | (with_reducible first | exact HB.out | apply below_alloc | apply pw_below_drewN | apply below_drew1) | exact HB.out)⟩⟩
            · replace c42 := Bool.eq_false_iff.mpr c42
              subst c42
              have H1 : (l01ExtentMembers.j1 kj7 l0 a2 false (t510 != false)) = some r := by rw [if_neg (show ¬ (false = true) by decide)] at H; exact H
              clear H
              have H := H1
              clear H1
              have H' := Aside0.mk H
              clear H
              go_wp2_with (first | ((with_reducible refine gate_callee (f := 29) rfl ?_); refine goesL_ (some 45) rfl rfl Try.func29 (by kernel_rfl) rfl #[.slice A0 l0.length c0, .slice A1 l1.length c1] rfl (by (try simp only [List.map_toArray, List.map_cons, List.map_nil]); first | done | rfl | (simp only [List.length_drop, List.length_take]; rfl)) ?_; (with_reducible refine (xSubtract.calls _ _ l0 _ _ l1 t507 _ ?side1 ?side2 ?side3 ?side4 A40.out).mono ?_); (case side1 => repeat (first | exact (Kd.C_below HR0.out HB.out) | (with_reducible refine Kd.C_alloc ?_ _) | (with_reducible refine Kd.C_drewN ?_ _) | (with_reducible refine Kd.C_drew ?_))); (case side2 => exact HC0.out); (case side3 => repeat (first | exact (Kd.C_below HR1.out HB.out) | (with_reducible refine Kd.C_alloc ?_ _) | (with_reducible refine Kd.C_drewN ?_ _) | (with_reducible refine Kd.C_drew ?_))); (case side4 => exact HC1.out); rintro e w46 ⟨v508, rfl, ho0, hb⟩; refine ⟨_, rfl, ?_⟩; have n0_ := Aside0.mk (Kd.R_lower ho0 (below_size (by repeat (first | (with_reducible first | exact HB.out | apply below_alloc | apply pw_below_drewN | apply below_drew1) | exact HB.out)))); have n1_ := Aside0.mk (below_step (by repeat (first | (with_reducible first | exact HB.out | apply below_alloc | apply pw_below_drewN | apply below_drew1) | exact HB.out)) hb); clear HB; have HO509 := n0_; have HB := n1_; clear n0_ n1_; (try clear hb); (try clear hb2); (try clear hk); (try clear hi); (try clear ho0); obtain ⟨Ao47, co47, eo47⟩ := Kd.R_slice HO509.out; subst eo47) | ((with_reducible refine gate_callee (f := 21) rfl ?_); refine goesL_ (some 47) rfl rfl Try.func21 (by kernel_rfl) rfl #[.slice Ao47 t507.length co47, .int .i64 a2] rfl (by (try simp only [List.map_toArray, List.map_cons, List.map_nil]); first | done | rfl | (simp only [List.length_drop, List.length_take]; rfl)) ?_; (with_reducible refine (xContains.calls _ _ t507 a2 t510 _ ?side1 ?side2 A41.out).mono ?_); (case side1 => repeat (first | exact (Kd.R_reads' HO509.out).2.2 | (with_reducible refine Kd.C_alloc ?_ _) | (with_reducible refine Kd.C_drewN ?_ _) | (with_reducible refine Kd.C_drew ?_))); (case side2 => exact (Kd.R_reads' HO509.out).2.1); rintro e w48 ⟨rfl, hb⟩; refine ⟨_, rfl, ?_⟩; have n0_ := Aside0.mk (Kd.R_below (by (with_reducible repeat (first | apply Kd.R_alloc | apply Kd.R_drewN | apply Kd.R_drew)); exact HO509.out) hb); have n1_ := Aside0.mk (below_step (by repeat (first | (with_reducible first | exact HB.out | apply below_alloc | apply pw_below_drewN | apply below_drew1) | exact HB.out)) hb); clear HO509; clear HB; have HO509 := n0_; have HB := n1_; clear n0_ n1_; (try clear hb); (try clear hb2); (try clear hk); (try clear hi)))
              go_meet
              case rel => exact ⟨_, ((t510 != false)), (by first | rfl | (simp; done) | (simp [*]; done)), H', ⟨by have := HJ7.out; first | omega | exact Nat.le_refl _⟩, ⟨by repeat (first | (with_reducible first | exact HB.out | apply below_alloc | apply pw_below_drewN | apply below_drew1) | exact HB.out)⟩⟩
          case rest =>
            clear HC39
            try clear c1
            try clear c2
            try clear p2
            try clear c3
            try clear c4
            try clear c5
            try clear c9
            try clear c12
            try clear c13
            try clear c14
            try clear c14b0
            try clear c14b1
            try clear c14b2
            try clear c21
            try clear c25
            try clear c26
            try clear c26b0
            try clear c26b1
            try clear c26b2
            try clear c29
            try clear c38
            try clear c42
            try clear p2
            obtain ⟨kq, x53_38, rfl, HA, HJ38, HB⟩ := hcut
            cases kq with
            | zero => exact absurd HA.out (by simp [l01ExtentMembers.j1])
            | succ kj38 =>
              have H := HA.out
              clear HA
              simp only [l01ExtentMembers.j1] at H
              by_cases c49 : x53_38 = true
              · subst c49
                have H1 : (some false) = some r := by rw [if_pos rfl] at H; exact H
                clear H
                have H := H1
                clear H1
                exact absurd ((Option.some.inj H).trans hT.out) (by decide)
              · replace c49 := Bool.eq_false_iff.mpr c49
                subst c49
                have H1 : (if a2 ≥ 0 then ((xComplement.f l0 4096).bind fun t511 => ((xContains.f t511 a2).bind fun t514 => (if a2 < 4096 then (if (t514 == (!t493)) = true then ((l01awake.f kj38).bind fun t515 => (some t515)) else (some false)) else (if (t514 == false) = true then ((l01awake.f kj38).bind fun t516 => (some t516)) else (some false))))) else ((xComplement.f l0 4096).bind fun t517 => ((xContains.f t517 a2).bind fun t520 => (if (t520 == false) = true then ((l01awake.f kj38).bind fun t521 => (some t521)) else (some false))))) = some r := by rw [if_neg (show ¬ (false = true) by decide)] at H; exact H
                clear H
                have H := H1
                clear H1
                by_cases c50 : a2 ≥ 0
                · rw [if_pos c50] at H
                  have c50b0 : decide (0 ≤ a2) = true := decide_eq_true c50
                  clear c50
                  replace H := Option.bind_eq_some_iff.mp H
                  obtain ⟨t511, A510, H⟩ := H
                  replace H : ((xContains.f t511 a2).bind fun t514 => (if a2 < 4096 then (if (t514 == (!t493)) = true then ((l01awake.f kj38).bind fun t515 => (some t515)) else (some false)) else (if (t514 == false) = true then ((l01awake.f kj38).bind fun t516 => (some t516)) else (some false)))) = some r := H
                  have A51 := Aside0.mk A510
                  clear A510
                  replace H := Option.bind_eq_some_iff.mp H
                  obtain ⟨t514, A520, H⟩ := H
                  replace H : (if a2 < 4096 then (if (t514 == (!t493)) = true then ((l01awake.f kj38).bind fun t515 => (some t515)) else (some false)) else (if (t514 == false) = true then ((l01awake.f kj38).bind fun t516 => (some t516)) else (some false))) = some r := H
                  have A52 := Aside0.mk A520
                  clear A520
                  by_cases c53 : a2 < 4096
                  · rw [if_pos c53] at H
                    have c53b0 : decide (a2 < 4096) = true := decide_eq_true c53
                    clear c53
                    by_cases c54 : (t514 == (!t493)) = true
                    · rw [if_pos c54] at H
                      have c54b0 : (t514 == (!t493)) = true := c54
                      (try (have c54b1 : decide (t514 = (!t493)) = true := by simpa using c54))
                      (try (have c54b2 : (t514 == (!t493)) = true := by simpa using c54))
                      clear c54
                      replace H := Option.bind_eq_some_iff.mp H
                      obtain ⟨t515, A550, H⟩ := H
                      replace H : (some t515) = some r := H
                      have A55 := Aside0.mk A550
                      clear A550
                      obtain rfl := Option.some.inj H
                      go_wp2_with (first | ((with_reducible refine gate_callee (f := 19) rfl ?_); refine goesL_ (some 61) rfl rfl Try.func19 (by kernel_rfl) rfl #[.slice A0 l0.length c0, .int .i64 4096] rfl (by (try simp only [List.map_toArray, List.map_cons, List.map_nil]); first | done | rfl | (simp only [List.length_drop, List.length_take]; rfl)) ?_; (with_reducible refine (xComplement.calls _ _ l0 4096 t511 _ ?side1 ?side2 A51.out).mono ?_); (case side1 => repeat (first | exact (Kd.C_below HR0.out HB.out) | (with_reducible refine Kd.C_alloc ?_ _) | (with_reducible refine Kd.C_drewN ?_ _) | (with_reducible refine Kd.C_drew ?_))); (case side2 => exact HC0.out); rintro e w56 ⟨v512, rfl, ho0, hb⟩; refine ⟨_, rfl, ?_⟩; have n0_ := Aside0.mk (Kd.R_lower ho0 (below_size (by repeat (first | (with_reducible first | exact HB.out | apply below_alloc | apply pw_below_drewN | apply below_drew1) | exact HB.out)))); have n1_ := Aside0.mk (below_step (by repeat (first | (with_reducible first | exact HB.out | apply below_alloc | apply pw_below_drewN | apply below_drew1) | exact HB.out)) hb); clear HB; have HO513 := n0_; have HB := n1_; clear n0_ n1_; (try clear hb); (try clear hb2); (try clear hk); (try clear hi); (try clear ho0); obtain ⟨Ao57, co57, eo57⟩ := Kd.R_slice HO513.out; subst eo57) | ((with_reducible refine gate_callee (f := 21) rfl ?_); refine goesL_ (some 63) rfl rfl Try.func21 (by kernel_rfl) rfl #[.slice Ao57 t511.length co57, .int .i64 a2] rfl (by (try simp only [List.map_toArray, List.map_cons, List.map_nil]); first | done | rfl | (simp only [List.length_drop, List.length_take]; rfl)) ?_; (with_reducible refine (xContains.calls _ _ t511 a2 t514 _ ?side1 ?side2 A52.out).mono ?_); (case side1 => repeat (first | exact (Kd.R_reads' HO513.out).2.2 | (with_reducible refine Kd.C_alloc ?_ _) | (with_reducible refine Kd.C_drewN ?_ _) | (with_reducible refine Kd.C_drew ?_))); (case side2 => exact (Kd.R_reads' HO513.out).2.1); rintro e w58 ⟨rfl, hb⟩; refine ⟨_, rfl, ?_⟩; have n0_ := Aside0.mk (Kd.R_below (by (with_reducible repeat (first | apply Kd.R_alloc | apply Kd.R_drewN | apply Kd.R_drew)); exact HO513.out) hb); have n1_ := Aside0.mk (below_step (by repeat (first | (with_reducible first | exact HB.out | apply below_alloc | apply pw_below_drewN | apply below_drew1) | exact HB.out)) hb); clear HO513; clear HB; have HO513 := n0_; have HB := n1_; clear n0_ n1_; (try clear hb); (try clear hb2); (try clear hk); (try clear hi)) | (go_at_call 13; (with_reducible refine (l01awake.calls kj38  t515 _ A55.out).mono ?_); rintro e w59 ⟨rfl, hb⟩; have n0_ := Aside0.mk (Kd.R_below (by (with_reducible repeat (first | apply Kd.R_alloc | apply Kd.R_drewN | apply Kd.R_drew)); exact HO513.out) hb); have n1_ := Aside0.mk (below_step (by repeat (first | (with_reducible first | exact HB.out | apply below_alloc | apply pw_below_drewN | apply below_drew1) | exact HB.out)) hb); clear HO513; clear HB; have HO513 := n0_; have HB := n1_; clear n0_ n1_; (try clear hb); (try clear hb2); (try clear hk); (try clear hi)))
                      go_ret
                      exact ⟨by first | rfl | (simp [errW_none, errW_some] <;> rfl) | (simp [*, errW_none, errW_some] <;> rfl), by repeat (first | (with_reducible first | exact HB.out | apply below_alloc | apply pw_below_drewN | apply below_drew1) | exact HB.out)⟩
                    · rw [if_neg c54] at H
                      have c54b0 : (t514 == (!t493)) = false := by simpa using c54
                      (try (have c54b1 : decide (t514 = (!t493)) = false := by simpa using c54))
                      (try (have c54b2 : (t514 == (!t493)) = false := by simpa using c54))
                      (try (have c54b3 : ¬ (t514 = (!t493)) := by simpa using c54))
                      clear c54
                      exact absurd ((Option.some.inj H).trans hT.out) (by decide)
                  · rw [if_neg c53] at H
                    have c53b0 : decide (a2 < 4096) = false := decide_eq_false c53
                    clear c53
                    by_cases c60 : (t514 == false) = true
                    · rw [if_pos c60] at H
                      have c60b0 : (t514 == false) = true := c60
                      (try (have c60b1 : decide (t514 = false) = true := by simpa using c60))
                      (try (have c60b2 : (t514 == false) = true := by simpa using c60))
                      clear c60
                      replace H := Option.bind_eq_some_iff.mp H
                      obtain ⟨t516, A610, H⟩ := H
                      replace H : (some t516) = some r := H
                      have A61 := Aside0.mk A610
                      clear A610
                      obtain rfl := Option.some.inj H
                      go_wp2_with (first | ((with_reducible refine gate_callee (f := 19) rfl ?_); refine goesL_ (some 61) rfl rfl Try.func19 (by kernel_rfl) rfl #[.slice A0 l0.length c0, .int .i64 4096] rfl (by (try simp only [List.map_toArray, List.map_cons, List.map_nil]); first | done | rfl | (simp only [List.length_drop, List.length_take]; rfl)) ?_; (with_reducible refine (xComplement.calls _ _ l0 4096 t511 _ ?side1 ?side2 A51.out).mono ?_); (case side1 => repeat (first | exact (Kd.C_below HR0.out HB.out) | (with_reducible refine Kd.C_alloc ?_ _) | (with_reducible refine Kd.C_drewN ?_ _) | (with_reducible refine Kd.C_drew ?_))); (case side2 => exact HC0.out); rintro e w62 ⟨v512, rfl, ho0, hb⟩; refine ⟨_, rfl, ?_⟩; have n0_ := Aside0.mk (Kd.R_lower ho0 (below_size (by repeat (first | (with_reducible first | exact HB.out | apply below_alloc | apply pw_below_drewN | apply below_drew1) | exact HB.out)))); have n1_ := Aside0.mk (below_step (by repeat (first | (with_reducible first | exact HB.out | apply below_alloc | apply pw_below_drewN | apply below_drew1) | exact HB.out)) hb); clear HB; have HO513 := n0_; have HB := n1_; clear n0_ n1_; (try clear hb); (try clear hb2); (try clear hk); (try clear hi); (try clear ho0); obtain ⟨Ao63, co63, eo63⟩ := Kd.R_slice HO513.out; subst eo63) | ((with_reducible refine gate_callee (f := 21) rfl ?_); refine goesL_ (some 63) rfl rfl Try.func21 (by kernel_rfl) rfl #[.slice Ao63 t511.length co63, .int .i64 a2] rfl (by (try simp only [List.map_toArray, List.map_cons, List.map_nil]); first | done | rfl | (simp only [List.length_drop, List.length_take]; rfl)) ?_; (with_reducible refine (xContains.calls _ _ t511 a2 t514 _ ?side1 ?side2 A52.out).mono ?_); (case side1 => repeat (first | exact (Kd.R_reads' HO513.out).2.2 | (with_reducible refine Kd.C_alloc ?_ _) | (with_reducible refine Kd.C_drewN ?_ _) | (with_reducible refine Kd.C_drew ?_))); (case side2 => exact (Kd.R_reads' HO513.out).2.1); rintro e w64 ⟨rfl, hb⟩; refine ⟨_, rfl, ?_⟩; have n0_ := Aside0.mk (Kd.R_below (by (with_reducible repeat (first | apply Kd.R_alloc | apply Kd.R_drewN | apply Kd.R_drew)); exact HO513.out) hb); have n1_ := Aside0.mk (below_step (by repeat (first | (with_reducible first | exact HB.out | apply below_alloc | apply pw_below_drewN | apply below_drew1) | exact HB.out)) hb); clear HO513; clear HB; have HO513 := n0_; have HB := n1_; clear n0_ n1_; (try clear hb); (try clear hb2); (try clear hk); (try clear hi)) | (go_at_call 13; (with_reducible refine (l01awake.calls kj38  t516 _ A61.out).mono ?_); rintro e w65 ⟨rfl, hb⟩; have n0_ := Aside0.mk (Kd.R_below (by (with_reducible repeat (first | apply Kd.R_alloc | apply Kd.R_drewN | apply Kd.R_drew)); exact HO513.out) hb); have n1_ := Aside0.mk (below_step (by repeat (first | (with_reducible first | exact HB.out | apply below_alloc | apply pw_below_drewN | apply below_drew1) | exact HB.out)) hb); clear HO513; clear HB; have HO513 := n0_; have HB := n1_; clear n0_ n1_; (try clear hb); (try clear hb2); (try clear hk); (try clear hi)))
                      go_ret
                      exact ⟨by first | rfl | (simp [errW_none, errW_some] <;> rfl) | (simp [*, errW_none, errW_some] <;> rfl), by repeat (first | (with_reducible first | exact HB.out | apply below_alloc | apply pw_below_drewN | apply below_drew1) | exact HB.out)⟩
                    · rw [if_neg c60] at H
                      have c60b0 : (t514 == false) = false := by simpa using c60
                      (try (have c60b1 : decide (t514 = false) = false := by simpa using c60))
                      (try (have c60b2 : (t514 == false) = false := by simpa using c60))
                      (try (have c60b3 : ¬ (t514 = false) := by simpa using c60))
                      clear c60
                      exact absurd ((Option.some.inj H).trans hT.out) (by decide)
                · rw [if_neg c50] at H
                  have c50b0 : decide (0 ≤ a2) = false := decide_eq_false c50
                  clear c50
                  replace H := Option.bind_eq_some_iff.mp H
                  obtain ⟨t517, A660, H⟩ := H
                  replace H : ((xContains.f t517 a2).bind fun t520 => (if (t520 == false) = true then ((l01awake.f kj38).bind fun t521 => (some t521)) else (some false))) = some r := H
                  have A66 := Aside0.mk A660
                  clear A660
                  replace H := Option.bind_eq_some_iff.mp H
                  obtain ⟨t520, A670, H⟩ := H
                  replace H : (if (t520 == false) = true then ((l01awake.f kj38).bind fun t521 => (some t521)) else (some false)) = some r := H
                  have A67 := Aside0.mk A670
                  clear A670
                  by_cases c68 : (t520 == false) = true
                  · rw [if_pos c68] at H
                    have c68b0 : (t520 == false) = true := c68
                    (try (have c68b1 : decide (t520 = false) = true := by simpa using c68))
                    (try (have c68b2 : (t520 == false) = true := by simpa using c68))
                    clear c68
                    replace H := Option.bind_eq_some_iff.mp H
                    obtain ⟨t521, A690, H⟩ := H
                    replace H : (some t521) = some r := H
                    have A69 := Aside0.mk A690
                    clear A690
                    obtain rfl := Option.some.inj H
                    go_wp2_with (first | ((with_reducible refine gate_callee (f := 19) rfl ?_); refine goesL_ (some 61) rfl rfl Try.func19 (by kernel_rfl) rfl #[.slice A0 l0.length c0, .int .i64 4096] rfl (by (try simp only [List.map_toArray, List.map_cons, List.map_nil]); first | done | rfl | (simp only [List.length_drop, List.length_take]; rfl)) ?_; (with_reducible refine (xComplement.calls _ _ l0 4096 t517 _ ?side1 ?side2 A66.out).mono ?_); (case side1 => repeat (first | exact (Kd.C_below HR0.out HB.out) | (with_reducible refine Kd.C_alloc ?_ _) | (with_reducible refine Kd.C_drewN ?_ _) | (with_reducible refine Kd.C_drew ?_))); (case side2 => exact HC0.out); rintro e w70 ⟨v518, rfl, ho0, hb⟩; refine ⟨_, rfl, ?_⟩; have n0_ := Aside0.mk (Kd.R_lower ho0 (below_size (by repeat (first | (with_reducible first | exact HB.out | apply below_alloc | apply pw_below_drewN | apply below_drew1) | exact HB.out)))); have n1_ := Aside0.mk (below_step (by repeat (first | (with_reducible first | exact HB.out | apply below_alloc | apply pw_below_drewN | apply below_drew1) | exact HB.out)) hb); clear HB; have HO519 := n0_; have HB := n1_; clear n0_ n1_; (try clear hb); (try clear hb2); (try clear hk); (try clear hi); (try clear ho0); obtain ⟨Ao71, co71, eo71⟩ := Kd.R_slice HO519.out; subst eo71) | ((with_reducible refine gate_callee (f := 21) rfl ?_); refine goesL_ (some 63) rfl rfl Try.func21 (by kernel_rfl) rfl #[.slice Ao71 t517.length co71, .int .i64 a2] rfl (by (try simp only [List.map_toArray, List.map_cons, List.map_nil]); first | done | rfl | (simp only [List.length_drop, List.length_take]; rfl)) ?_; (with_reducible refine (xContains.calls _ _ t517 a2 t520 _ ?side1 ?side2 A67.out).mono ?_); (case side1 => repeat (first | exact (Kd.R_reads' HO519.out).2.2 | (with_reducible refine Kd.C_alloc ?_ _) | (with_reducible refine Kd.C_drewN ?_ _) | (with_reducible refine Kd.C_drew ?_))); (case side2 => exact (Kd.R_reads' HO519.out).2.1); rintro e w72 ⟨rfl, hb⟩; refine ⟨_, rfl, ?_⟩; have n0_ := Aside0.mk (Kd.R_below (by (with_reducible repeat (first | apply Kd.R_alloc | apply Kd.R_drewN | apply Kd.R_drew)); exact HO519.out) hb); have n1_ := Aside0.mk (below_step (by repeat (first | (with_reducible first | exact HB.out | apply below_alloc | apply pw_below_drewN | apply below_drew1) | exact HB.out)) hb); clear HO519; clear HB; have HO519 := n0_; have HB := n1_; clear n0_ n1_; (try clear hb); (try clear hb2); (try clear hk); (try clear hi)) | (go_at_call 13; (with_reducible refine (l01awake.calls kj38  t521 _ A69.out).mono ?_); rintro e w73 ⟨rfl, hb⟩; have n0_ := Aside0.mk (Kd.R_below (by (with_reducible repeat (first | apply Kd.R_alloc | apply Kd.R_drewN | apply Kd.R_drew)); exact HO519.out) hb); have n1_ := Aside0.mk (below_step (by repeat (first | (with_reducible first | exact HB.out | apply below_alloc | apply pw_below_drewN | apply below_drew1) | exact HB.out)) hb); clear HO519; clear HB; have HO519 := n0_; have HB := n1_; clear n0_ n1_; (try clear hb); (try clear hb2); (try clear hk); (try clear hi)))
                    go_ret
                    exact ⟨by first | rfl | (simp [errW_none, errW_some] <;> rfl) | (simp [*, errW_none, errW_some] <;> rfl), by repeat (first | (with_reducible first | exact HB.out | apply below_alloc | apply pw_below_drewN | apply below_drew1) | exact HB.out)⟩
                  · rw [if_neg c68] at H
                    have c68b0 : (t520 == false) = false := by simpa using c68
                    (try (have c68b1 : decide (t520 = false) = false := by simpa using c68))
                    (try (have c68b2 : (t520 == false) = false := by simpa using c68))
                    (try (have c68b3 : ¬ (t520 = false) := by simpa using c68))
                    clear c68
                    exact absurd ((Option.some.inj H).trans hT.out) (by decide)
  · replace c5 := Bool.eq_false_iff.mpr c5
    subst c5
    have H1 : ((l01awake.f k).bind fun t492 => (some t492)) = some r := by rw [if_neg (show ¬ (false = true) by decide)] at H; exact H
    clear H
    have H := H1
    clear H1
    replace H := Option.bind_eq_some_iff.mp H
    obtain ⟨t492, A740, H⟩ := H
    replace H : (some t492) = some r := H
    have A74 := Aside0.mk A740
    clear A740
    obtain rfl := Option.some.inj H
    go_enter Try.func9, Try.ntmps9
    go_wp2_with (first | ((with_reducible refine gate_callee (f := 12) rfl ?_); refine goesL_ (some 12) rfl rfl Try.func12 (by kernel_rfl) rfl #[.slice A0 l0.length c0, .slice A1 l1.length c1] rfl (by (try simp only [List.map_toArray, List.map_cons, List.map_nil]); first | done | rfl | (simp only [List.length_drop, List.length_take]; rfl)) ?_; (with_reducible refine (l01few.calls _ _ l0 _ _ l1 false _ ?side1 ?side2 ?side3 ?side4 A4.out).mono ?_); (case side1 => repeat (first | exact HR0.out | (with_reducible refine Kd.C_alloc ?_ _) | (with_reducible refine Kd.C_drewN ?_ _) | (with_reducible refine Kd.C_drew ?_))); (case side2 => exact HC0.out); (case side3 => repeat (first | exact HR1.out | (with_reducible refine Kd.C_alloc ?_ _) | (with_reducible refine Kd.C_drewN ?_ _) | (with_reducible refine Kd.C_drew ?_))); (case side4 => exact HC1.out); rintro e w' ⟨rfl, ⟨nd, rfl⟩⟩; refine ⟨_, rfl, ?_⟩) | ((with_reducible refine gate_callee (f := 13) rfl ?_); refine goesL_ (some 14) rfl rfl Try.func13 (by kernel_rfl) rfl #[] rfl (by (try simp only [List.map_toArray, List.map_cons, List.map_nil]); first | done | rfl | (simp only [List.length_drop, List.length_take]; rfl)) ?_; (with_reducible refine (l01awake.calls k  t492 _ A74.out).mono ?_); rintro e w75 ⟨rfl, hb⟩; refine ⟨_, rfl, ?_⟩; have n0_ := Aside0.mk (below_step (by repeat (first | (with_reducible first | exact HB.out | apply below_alloc | apply pw_below_drewN | apply below_drew1) | exact HB.out)) hb); clear HB; have HB := n0_; clear n0_; (try clear hb); (try clear hb2); (try clear hk); (try clear hi)))
    go_ret
    exact ⟨by first | rfl | (simp [errW_none, errW_some] <;> rfl) | (simp [*, errW_none, errW_some] <;> rfl), by repeat (first | (with_reducible first | exact HB.out | apply below_alloc | apply pw_below_drewN | apply below_drew1) | exact HB.out)⟩
end Go.Proofs.Yteeedheklnelkaa.P

namespace Go.Proofs.Yteeedheklnelkaa.P
open Go.RowKit Go.Proofs.YteeedheklnelkaaW.PrintWords Go.Proofs.YteeedheklnelkaaW.PrintLast Go.Proofs.YteeedheklnelkaaW.PrintMore
theorem wI_canon {e : S40} (h : 0 ≤ e.f0 ∧ 1 ≤ e.f1 ∧ e.f0 + e.f1 ≤ 4096) : wI e = (e.f0, e.f0 + e.f1, true) := by
  have he := wI_eq e.f0 e.f1
  have hx : (⟨e.f0, e.f1⟩ : S40) = e := rfl
  rw [hx] at he
  have : xwithin.f e.f0 e.f1 = some (e.f0, e.f0 + e.f1, true) := by
    unfold xwithin.f
    simp only [mx_eq, mn_eq]
    rw [if_neg (by omega), if_neg (by omega), w64 _ (by omega) (by omega), w64 _ (by omega) (by omega)]
    have e1 : max e.f0 0 = e.f0 := by omega
    have e2 : min (e.f0 + e.f1) 4096 = e.f0 + e.f1 := by omega
    rw [e1, e2]
    by_cases c : e.f1 < 4096 - e.f0
    · rw [if_pos c, decide_eq_true (by omega)]
    · rw [if_neg c, decide_eq_true (by omega), show (4096 : Int) = e.f0 + e.f1 by omega]
  rw [this] at he
  exact (Option.some.inj he).symm
theorem inL_cov {l : List S40} (h : ∀ e ∈ l, 0 ≤ e.f0 ∧ 1 ≤ e.f1 ∧ e.f0 + e.f1 ≤ 4096) (t : Int) : inL l t = true ↔ Cov l t := by
  unfold inL Cov
  rw [List.any_eq_true]
  constructor
  · rintro ⟨e, he, h1⟩
    unfold inE at h1
    rw [wI_canon (h e he), Bool.true_and, decide_eq_true_iff] at h1
    exact ⟨e, he, h1⟩
  · rintro ⟨e, he, h1⟩
    refine ⟨e, he, ?_⟩
    unfold inE
    rw [wI_canon (h e he), Bool.true_and, decide_eq_true_iff]
    exact h1
theorem inL_canon (p : Nat → Bool) (t : Int) : inL (canon p) t = (decide (0 ≤ t ∧ t < 4096) && p t.toNat) := by
  have h := inL_cov (canon_bound p) t
  rw [canon_cov] at h
  cases hb : inL (canon p) t
  · rw [hb] at h
    symm
    rw [Bool.and_eq_false_iff]
    by_cases hr : 0 ≤ t ∧ t < 4096
    · right
      cases hp : p t.toNat
      · rfl
      · exact absurd (h.2 ⟨hr.1, hr.2, hp⟩) (by decide)
    · left; exact decide_eq_false hr
  · have := h.1 hb
    rw [decide_eq_true ⟨this.1, this.2.1⟩, this.2.2]; rfl
theorem xUnion_eq (a b : List S40) (h : a.length + b.length ≤ 100000) : xUnion.f a b = some (canon fun j => inL a j || inL b j) := by unfold xUnion.f opX; rw [if_pos h]
theorem xIntersect_eq (a b : List S40) (h : a.length + b.length ≤ 100000) : xIntersect.f a b = some (canon fun j => inL a j && inL b j) := by unfold xIntersect.f opX; rw [if_pos h]
theorem xSubtract_eq (a b : List S40) (h : a.length + b.length ≤ 100000) : xSubtract.f a b = some (canon fun j => inL a j && !inL b j) := by unfold xSubtract.f opX; rw [if_pos h]
theorem xContains_eq (l : List S40) (x : Int) (h : l.length ≤ 100000) : xContains.f l x = some (inL l x) := by unfold xContains.f; rw [if_pos (by omega)]
/-- Below a size. -/
def belowS (size : Int) (j : Nat) : Bool := decide ((j : Int) < size)
theorem inL_head (n : Int) (h0 : 0 ≤ n) (h1 : n ≤ 4096) {j : Nat} (hj : j < 4096) : inL [⟨0, n⟩] (j : Int) = belowS n j := by
  unfold inL
  rw [List.any_cons, List.any_nil, Bool.or_false, inE_eq ⟨by simp only; omega, by simp only; omega, by simp only; omega, by simp only; omega⟩ hj]
  unfold belowS
  rw [decide_eq_decide]
  simp only
  omega
theorem xComplement_eq (l : List S40) (size : Int) (h : l.length ≤ 90000) : xComplement.f l size = some (canon fun j => belowS size j && !inL l j) := by
  unfold xComplement.f
  rw [xSubtract_eq _ _ (by simp; omega), Option.bind_some]
  congr 1
  refine canon_congr fun j hj => ?_
  rw [inL_head _ (by rw [mn_eq, mx_eq]; omega) (by rw [mn_eq]; omega) hj]
  congr 1
  unfold belowS
  rw [decide_eq_decide, mn_eq, mx_eq]; omega
end Go.Proofs.Yteeedheklnelkaa.P

namespace Go.Proofs.Yteeedheklnelkaa.P
open Go.RowKit Go.Proofs.YteeedheklnelkaaW.PrintWords Go.Proofs.YteeedheklnelkaaW.PrintLast Go.Proofs.YteeedheklnelkaaW.PrintMore
theorem awake100 : l01awake.f 100 = some true := by kernel_rfl
theorem awake_eq {k : Nat} (hk : 100 ≤ k) : l01awake.f k = some true := by
  obtain ⟨n, rfl⟩ : ∃ n, k = 100 + n := ⟨k - 100, by omega⟩
  clear hk
  induction n with
  | zero => exact awake100
  | succ n ih => exact l01awake.mono _ _ ih
end Go.Proofs.Yteeedheklnelkaa.P

namespace Go.Proofs.Yteeedheklnelkaa.P
open Go.RowKit Go.Proofs.YteeedheklnelkaaW.PrintWords Go.Proofs.YteeedheklnelkaaW.PrintLast Go.Proofs.YteeedheklnelkaaW.PrintMore
theorem few_eq (a b : List S40) : l01few.f a b = some (decide (a.length ≤ 20 ∧ b.length ≤ 20)) := by
  unfold l01few.f
  by_cases h : (a.length : Int) ≤ 20
  · rw [if_pos h]
    congr 1
    rw [decide_eq_decide]; omega
  · rw [if_neg h, decide_eq_false (by omega)]
end Go.Proofs.Yteeedheklnelkaa.P

namespace Go.Proofs.Yteeedheklnelkaa.P
open Go.RowKit Go.Proofs.YteeedheklnelkaaW.PrintWords Go.Proofs.YteeedheklnelkaaW.PrintLast Go.Proofs.YteeedheklnelkaaW.PrintMore
theorem inL_out {l : List S40} {x : Int} (h : ¬ (0 ≤ x ∧ x < 4096)) : inL l x = false := by
  cases hb : inL l x
  · rfl
  · have := inL_range hb; omega
theorem inL_canon_op (p : Nat → Bool) (q : Bool) (x : Int) (h : 0 ≤ x ∧ x < 4096 → p x.toNat = q) (h2 : ¬ (0 ≤ x ∧ x < 4096) → q = false) : inL (canon p) x = q := by
  rw [inL_canon]
  by_cases hx : 0 ≤ x ∧ x < 4096
  · rw [decide_eq_true hx, Bool.true_and, h hx]
  · rw [decide_eq_false hx, Bool.false_and, h2 hx]
theorem members_true (a b : List S40) (x : Int) {k : Nat} (hk : 40000 ≤ k) : l01ExtentMembers.f k a b x = some true := by
  unfold l01ExtentMembers.f
  rw [few_eq, Option.bind_some]
  by_cases h : a.length ≤ 20 ∧ b.length ≤ 20
  · have h1 := canon_length (fun j => inL a (j : Int) || inL b (j : Int))
    have h2 := canon_length (fun j => inL a (j : Int) && inL b (j : Int))
    have h3 := canon_length (fun j => inL a (j : Int) && !inL b (j : Int))
    have h4 := canon_length (fun j => belowS 4096 j && !inL a (j : Int))
    have e1 : inL (canon fun j => inL a (j : Int) || inL b (j : Int)) x = (inL a x || inL b x) := inL_canon_op _ _ x (fun hx => by rw [Int.toNat_of_nonneg hx.1]) (fun hx => by rw [inL_out hx, inL_out hx]; rfl)
    have e2 : inL (canon fun j => inL a (j : Int) && inL b (j : Int)) x = (inL a x && inL b x) := inL_canon_op _ _ x (fun hx => by rw [Int.toNat_of_nonneg hx.1]) (fun hx => by rw [inL_out hx]; rfl)
    have e3 : inL (canon fun j => inL a (j : Int) && !inL b (j : Int)) x = (inL a x && !inL b x) := inL_canon_op _ _ x (fun hx => by rw [Int.toNat_of_nonneg hx.1]) (fun hx => by rw [inL_out hx]; rfl)
    have e4 : inL (canon fun j => belowS 4096 j && !inL a (j : Int)) x = (decide (0 ≤ x ∧ x < 4096) && !inL a x) := inL_canon_op _ _ x
      (fun hx => by unfold belowS; rw [Int.toNat_of_nonneg hx.1, decide_eq_true hx.2, decide_eq_true hx]) (fun hx => by rw [decide_eq_false hx]; rfl)
    have tail : ∀ k, 1000 ≤ k → l01ExtentMembers.j1 k a x (inL a x) false = some true := fun k hk => by
      obtain ⟨k, rfl⟩ : ∃ m, k = m + 1 := ⟨k - 1, by omega⟩
      rw [l01ExtentMembers.j1, if_neg (by decide)]
      have e5 := xContains_eq (canon fun j => belowS 4096 j && !inL a (j : Int)) x (by omega)
      rw [e4] at e5
      by_cases c0 : x ≥ 0
      · rw [if_pos c0, xComplement_eq a 4096 (by omega), Option.bind_some, e5, Option.bind_some]
        by_cases c1 : x < 4096
        · rw [if_pos c1, decide_eq_true ⟨c0, c1⟩, Bool.true_and, if_pos (by simp), awake_eq (by omega)]; rfl
        · rw [if_neg c1, decide_eq_false (by omega), if_pos (by simp), awake_eq (by omega)]; rfl
      · rw [if_neg c0, xComplement_eq a 4096 (by omega), Option.bind_some, e5, Option.bind_some, decide_eq_false (by omega), if_pos (by simp), awake_eq (by omega)]; rfl
    have mid : ∀ k, 2000 ≤ k → l01ExtentMembers.j0 k a b x (inL a x) (inL b x) false = some true := fun k hk => by
      obtain ⟨k, rfl⟩ : ∃ m, k = m + 1 := ⟨k - 1, by omega⟩
      rw [l01ExtentMembers.j0, if_neg (by decide), xSubtract_eq a b (by omega), Option.bind_some, xContains_eq _ x (by omega), e3, Option.bind_some]
      have t := tail k (by omega)
      cases hA : inL a x
      · rw [hA] at t; rw [if_neg (by decide), Bool.false_and]; exact t
      · rw [hA] at t; rw [if_pos rfl, Bool.true_and, bne_self_eq_false]; exact t
    rw [decide_eq_true h, if_pos rfl, xContains_eq a x (by omega), Option.bind_some, xContains_eq b x (by omega), Option.bind_some, xUnion_eq a b (by omega), Option.bind_some, xContains_eq _ x (by omega), e1, Option.bind_some]
    have m := mid k (by omega)
    have e5 := xContains_eq (canon fun j => inL a (j : Int) && inL b (j : Int)) x (by omega)
    rw [e2] at e5
    cases hA : inL a x
    · rw [hA] at m e5; rw [if_neg (by decide), Bool.false_or, bne_self_eq_false, if_neg (by decide), xIntersect_eq a b (by omega), Option.bind_some, e5, Option.bind_some, Bool.false_and, bne_self_eq_false]; exact m
    · rw [hA] at m e5; rw [if_pos rfl, Bool.true_or, bne_self_eq_false, if_neg (by decide), xIntersect_eq a b (by omega), Option.bind_some, e5, Option.bind_some, Bool.true_and, bne_self_eq_false]; exact m
  · rw [decide_eq_false h, if_neg (by decide), awake_eq (by omega)]; rfl
end Go.Proofs.Yteeedheklnelkaa.P
