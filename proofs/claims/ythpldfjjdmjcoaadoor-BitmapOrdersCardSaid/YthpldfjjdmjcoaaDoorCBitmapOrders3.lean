/-
  Parts of the proof of the law BitmapOrders (part 3): what the functions it reaches come to, and the plain law. Conditions: those that each theorem names.
-/
import Derived.Test.YthpldfjjdmjcoaaDoorCBitmapOrders2
namespace Go.Proofs.YthpldfjjdmjcoaaDoor.P
open Go.RowKit Go.Proofs.YthpldfjjdmjcoaaDoorW.PrintWords Go.Proofs.YthpldfjjdmjcoaaDoorW.PrintLast Go.Proofs.YthpldfjjdmjcoaaDoorW.PrintMore
attribute [local go_sem] max2_int min2_int max_two min_two max_three min_three max_four min_four   -- for this text's walks alone
set_option linter.unusedVariables false
set_option linter.unusedSimpArgs false
mutual
def l02BitmapOrders.l0 : Nat → List (S26) → Int → List (S26) → Int → Option (Bool)
  | 0, _, _, _, _ => none
  | k + 1, x1, x5, x6, x7 => if x7 ≥ 0 then (if 0 ≤ x7 then (if x7 < (x1.length : Int) then (if x6.length < 8796093022208 then (l02BitmapOrders.l0 k x1 x5 (x6 ++ [(⟨(rd_T26 x1 x7).f0, (rd_T26 x1 x7).f1⟩ : S26)]) (wrap64 (x7 - 1))) else (none)) else (none)) else (none)) else ((bFromExtents.f k x5 x1).bind fun bt421 => ((bFromExtents.f k x5 x6).bind fun bt427 => (if bt421.2.2 = bt427.2.2 then ((r02Same.f k bt421.1 bt421.2.1 bt427.1 bt427.2.1).bind fun t433 => (if t433 = true then (if bt421.2.2 = 0 then (l02BitmapOrders.j1 k x1 x5 bt421.2.2 bt427.2.2 ((x1.length : Int) == 0) bt421.1 bt421.2.1 bt427.1 bt427.2.1) else (l02BitmapOrders.j1 k x1 x5 bt421.2.2 bt427.2.2 true bt421.1 bt421.2.1 bt427.1 bt427.2.1)) else (l02BitmapOrders.j1 k x1 x5 bt421.2.2 bt427.2.2 true bt421.1 bt421.2.1 bt427.1 bt427.2.1))) else (l02BitmapOrders.j1 k x1 x5 bt421.2.2 bt427.2.2 true bt421.1 bt421.2.1 bt427.1 bt427.2.1))))
def l02BitmapOrders.j1 : Nat → List (S26) → Int → Int → Int → Bool → Int → List Int → Int → List Int → Option (Bool)
  | 0, _, _, _, _, _, _, _, _, _ => none
  | k + 1, x1, x5, x9, x11, x66, x427000, x427001, x433000, x433001 => if x66 = true then ((l02awake.f k).bind fun t434 => (if t434 = true then (if x9 = x11 then ((r02Same.f k x427000 x427001 x433000 x433001).bind fun t435 => (some t435)) else (some false)) else (some false))) else (if 0 < (x1.length : Int) then ((bClear.f x427000 x427001 ((rd_T26 x1 0).f0) ((rd_T26 x1 0).f1)).bind fun bt437 => (if bt437.2.2 = 0 then (l02BitmapOrders.l1 k x1 x5 0 x427000 x427001 bt437.1 bt437.2.1) else (some false))) else (none))
def l02BitmapOrders.l1 : Nat → List (S26) → Int → Int → Int → List Int → Int → List Int → Option (Bool)
  | 0, _, _, _, _, _, _, _ => none
  | k + 1, x1, x5, x14, x427000, x427001, x443000, x443001 => if x14 < x5 then (if 0 < (x1.length : Int) then (if x14 ≥ ((rd_T26 x1 0).f0) then (l02BitmapOrders.j3 k x1 x5 x14 (decide (x14 < (wrap64 (((rd_T26 x1 0).f0) + ((rd_T26 x1 0).f1))))) x427000 x427001 x443000 x443001) else (l02BitmapOrders.j3 k x1 x5 x14 false x427000 x427001 x443000 x443001)) else (none)) else ((l02awake.f k).bind fun t443 => (some t443))
def l02BitmapOrders.j3 : Nat → List (S26) → Int → Int → Bool → Int → List Int → Int → List Int → Option (Bool)
  | 0, _, _, _, _, _, _, _, _ => none
  | k + 1, x1, x5, x14, x15, x427000, x427001, x443000, x443001 => (bGet.f k x443000 x443001 x14).bind fun t447 => ((bGet.f k x427000 x427001 x14).bind fun t448 => (if t448 = true then (if (t447 != (!x15)) = true then (some false) else (if x15 = true then ((bGet.f k x427000 x427001 x14).bind fun t449 => (if t449 = true then (l02BitmapOrders.l1 k x1 x5 (wrap64 (x14 + 1)) x427000 x427001 x443000 x443001) else (some false))) else (l02BitmapOrders.l1 k x1 x5 (wrap64 (x14 + 1)) x427000 x427001 x443000 x443001))) else (if (t447 != false) = true then (some false) else (if x15 = true then ((bGet.f k x427000 x427001 x14).bind fun t450 => (if t450 = true then (l02BitmapOrders.l1 k x1 x5 (wrap64 (x14 + 1)) x427000 x427001 x443000 x443001) else (some false))) else (l02BitmapOrders.l1 k x1 x5 (wrap64 (x14 + 1)) x427000 x427001 x443000 x443001)))))
end
def l02BitmapOrders.f (k : Nat) (a0 : Int) (l1 : List (S26)) : Option (Bool) := if (l1.length : Int) > 12 then ((l02awake.f k).bind fun t416 => (some t416)) else (l02BitmapOrders.l0 k l1 (wrap64 (Int.tmod a0 1200)) ([] : List (S26)) (wrap64 ((l1.length : Int) - 1)))
def l02BitmapOrders.T13 : Bool × List (List Nat × List Nat) := (true, [([], []), ([], []), ([1], [1]), ([2], [2]), ([0, 3], [0, 3]), ([4], [4]), ([5], [5]), ([5], [5]), ([], []), ([8, 6, 4, 0, 1, 2, 3, 4, 5, 6, 8], [6, 8]), ([7, 9, 0, 1, 2, 3, 4, 5, 6, 7, 8, 9], [7])])
def l02BitmapOrders.B13 : List Nat := [0, 0, 2, 6, 15, 31, 63, 63, 0, 383, 1023]
theorem l02BitmapOrders.tab13 : rtab .any (opsOf Tryd.f8 13) = l02BitmapOrders.T13 := by kernel_rfl
theorem l02BitmapOrders.bits13 : waitsOk l02BitmapOrders.T13.2 l02BitmapOrders.B13 = true := by kernel_rfl
def l02BitmapOrders.T19 : Bool × List (List Nat × List Nat) := (true, [([], []), ([], []), ([1], [1]), ([2], [2]), ([3], [3]), ([0, 4], [0, 4]), ([5], [5]), ([6], [6]), ([6], [6]), ([8, 6], [6, 8]), ([9, 6], [6, 9]), ([10, 6], [6, 10]), ([6], [6]), ([12, 6], [6, 12]), ([13, 6], [6, 13]), ([14, 6], [6, 14]), ([11, 15, 6], [6, 11, 15]), ([7, 16, 6], [6, 7, 16]), ([6, 17], [6, 17]), ([18, 6, 0, 1, 2, 3, 4, 5, 6, 7, 8, 9, 10, 11, 12, 13, 14, 15, 16, 17, 18], [18])])
def l02BitmapOrders.B19 : List Nat := [0, 0, 2, 6, 14, 31, 63, 127, 127, 383, 895, 1919, 127, 4223, 12415, 28799, 65407, 131071, 262143, 524287]
theorem l02BitmapOrders.tab19 : rtab .any (opsOf Tryd.f8 19) = l02BitmapOrders.T19 := by kernel_rfl
theorem l02BitmapOrders.bits19 : waitsOk l02BitmapOrders.T19.2 l02BitmapOrders.B19 = true := by kernel_rfl
def l02BitmapOrders.T20 : Bool × List (List Nat × List Nat) := (true, [([], []), ([], []), ([0, 1], [0, 1]), ([], []), ([], []), ([3, 4, 2], [3, 4]), ([5, 5], [5]), ([6], [6]), ([7, 6], [6, 7]), ([6, 8], [6, 8]), ([2, 9], [2, 9]), ([10, 6], [10]), ([11], [11]), ([12, 11, 11], [11, 12]), ([13], [13]), ([13], [13]), ([14, 15, 13, 13], [13, 14, 15]), ([16, 13], [13, 16]), ([13, 17, 11], [11, 13, 17]), ([11, 18], [11, 18])])
def l02BitmapOrders.B20 : List Nat := [0, 0, 3, 0, 0, 31, 63, 127, 255, 511, 1023, 2047, 4095, 8191, 16383, 16383, 65535, 131071, 262143, 524287]
theorem l02BitmapOrders.tab20 : rtab .any (opsOf Tryd.f8 20) = l02BitmapOrders.T20 := by kernel_rfl
theorem l02BitmapOrders.bits20 : waitsOk l02BitmapOrders.T20.2 l02BitmapOrders.B20 = true := by kernel_rfl
set_option maxHeartbeats 8000000 in
set_option maxRecDepth 100000 in
theorem l02BitmapOrders.calls (k : Nat) (a0 : Int) (A1 : Option Addr) (c1 : Nat) (l1 : List (S26)) (r : Bool) (w : World) (hG : TabOK w) (hr1 : Kd.C k26 w A1 l1.length l1) (hc1 : l1.length ≤ c1) (hT : Aside0 (r = true)) (h : l02BitmapOrders.f k a0 l1 = some r) :
    Calls Tryd.prog 8 #[.int .u16 a0, .slice A1 l1.length c1] w fun e w' => e = .returned (.bool r) ∧ Below w.heap.size w w' := by
  have hu26 := Tryd.underlying26
  have hu24 := Tryd.underlying24
  have HR1 := Aside0.mk hr1
  have HC1 := Aside0.mk hc1
  clear hr1 hc1
  have HB := Aside0.mk (Below.refl w.heap.size w)
  have H : (if (l1.length : Int) > 12 then ((l02awake.f k).bind fun t416 => (some t416)) else (l02BitmapOrders.l0 k l1 (wrap64 (Int.tmod a0 1200)) ([] : List (S26)) (wrap64 ((l1.length : Int) - 1)))) = some r := h
  clear h
  by_cases c3 : (l1.length : Int) > 12
  · rw [if_pos c3] at H
    have c3b0 : decide (12 < (l1.length : Int)) = true := decide_eq_true c3
    have c3b1 : decide (12 < l1.length) = true := decide_eq_true (by omega)
    clear c3
    replace H := Option.bind_eq_some_iff.mp H
    obtain ⟨t416, A40, H⟩ := H
    replace H : (some t416) = some r := H
    have A4 := Aside0.mk A40
    clear A40
    obtain rfl := Option.some.inj H
    go_enter Tryd.func8, Tryd.ntmps8
    go_wp2_with (first | ((with_reducible refine gate_callee (f := 12) rfl ?_); refine goesL_ (some 22) rfl rfl Tryd.func12 (by kernel_rfl) rfl #[] rfl (by (try simp only [List.map_toArray, List.map_cons, List.map_nil]); first | done | rfl | (simp only [List.length_drop, List.length_take]; rfl)) ?_; (with_reducible refine (l02awake.calls k  t416 _ ?side1 A4.out).mono ?_); (case side1 => exact TabOK.below hG (by repeat (first | (with_reducible first | exact HB.out | apply below_alloc | apply pw_below_drewN | apply below_drew1) | exact HB.out))); rintro e w5 ⟨rfl, hb⟩; refine ⟨_, rfl, ?_⟩; have n0_ := Aside0.mk (below_step (by repeat (first | (with_reducible first | exact HB.out | apply below_alloc | apply pw_below_drewN | apply below_drew1) | exact HB.out)) hb); clear HB; have HB := n0_; clear n0_; (try clear hb); (try clear hb2); (try clear hk); (try clear hi)))
    go_ret
    exact ⟨by first | rfl | (simp [errW_none, errW_some] <;> rfl) | (simp [*, errW_none, errW_some] <;> rfl), by repeat (first | (with_reducible first | exact HB.out | apply below_alloc | apply pw_below_drewN | apply below_drew1) | exact HB.out)⟩
  · rw [if_neg c3] at H
    have c3b0 : decide (12 < (l1.length : Int)) = false := decide_eq_false c3
    have c3b1 : decide (12 < l1.length) = false := decide_eq_false (by omega)
    clear c3
    have H' := Aside0.mk H
    clear H
    go_enter Tryd.func8, Tryd.ntmps8
    go_wp2
    go_loopg [6, 7] k (fun kq v6 v7 w' => ∃ (x6_1 : List (S26)) (x7_1 : Int), v7 = .int .i64 x7_1 ∧ Aside0 (l02BitmapOrders.l0 kq l1 (wrap64 (Int.tmod a0 1200)) x6_1 x7_1 = some r) ∧ Aside0 (kq ≤ k) ∧ Aside0 (Kd.R k26 26 w' w.heap.size (fun _ => True) v6 x6_1) ∧ Aside0 (Below w.heap.size w w'))
    case atStart => exact ⟨(([] : List (S26))), (wrap64 ((l1.length : Int) - 1)), (by first | rfl | (simp; done) | (simp [*]; done)), H', ⟨Nat.le_refl _⟩, ⟨by first | exact Kd.R_nil _ _ _ _ _ | exact Kd.N_nil _ _ _ _ _ | exact Kd.V_nil _ _ _ _ _ | exact Kd.Q_nil _ _ _ _ _ | exact Kd.S_nil _ _ _ _ _⟩, ⟨by repeat (first | (with_reducible first | exact HB.out | apply below_alloc | apply pw_below_drewN | apply below_drew1) | exact HB.out)⟩⟩
    case round =>
      clear H'
      try clear c1
      try clear p2
      try clear c3
      try clear c3b0
      try clear c3b1
      obtain ⟨x6_1, x7_1, rfl, HA, HK1, HO_6, HB⟩ := hrel
      cases gk with
      | zero => exact absurd HA.out (by simp [l02BitmapOrders.l0])
      | succ k1 =>
        have H := HA.out
        clear HA
        simp only [l02BitmapOrders.l0] at H
        by_cases c6 : x7_1 ≥ 0
        · rw [if_pos c6] at H
          have c6b0 : decide (0 ≤ x7_1) = true := decide_eq_true c6
          clear c6
          by_cases c7 : 0 ≤ x7_1
          · rw [if_pos c7] at H
            have c7b0 : decide (0 ≤ x7_1) = true := decide_eq_true c7
            clear c7
            by_cases c8 : x7_1 < (l1.length : Int)
            · rw [if_pos c8] at H
              have c8b0 : decide (x7_1 < (l1.length : Int)) = true := decide_eq_true c8
              clear c8
              by_cases c9 : x6_1.length < 8796093022208
              · rw [if_pos c9] at H
                have LMc9 := Aside0.mk c9
                clear c9
                obtain ⟨y418, hy418⟩ : ∃ y_ : List (S26), y_ = (x6_1 ++ [(⟨(rd_T26 l1 x7_1).f0, (rd_T26 l1 x7_1).f1⟩ : S26)]) := ⟨_, rfl⟩
                replace H : (l02BitmapOrders.l0 k1 l1 (wrap64 (Int.tmod a0 1200)) y418 (wrap64 (x7_1 - 1))) = some r := by first | (rw [hy418]; with_reducible exact H) | (have H2_ := (Option.bind_some _ _).symm.trans H; rw [hy418]; with_reducible exact H2_) | (have H2_ := (Option.bind_some _ _).symm.trans H; with_reducible exact H2_) | with_reducible exact H | (rw [hy418]; exact H) | exact H
                have Ny418 := Aside0.mk hy418
                clear hy418
                have H' := Aside0.mk H
                clear H
                have p417 : 0 ≤ (x7_1 : Int) := of_decide_eq_true (by first | (with_reducible assumption) | assumption)
                have q417 : x7_1 < (l1.length : Int) := of_decide_eq_true (by first | (with_reducible assumption) | assumption)
                obtain ⟨ad417, e417, hx417_0, hx417_1⟩ := at_T26 HR1.out x7_1 p417 q417
                cases e417
                replace hx417_0 := (HB.out.cell (World.block_lt_of_cell? w _ hx417_0)).trans hx417_0
                replace hx417_1 := (HB.out.cell (World.block_lt_of_cell? w _ hx417_1)).trans hx417_1
                replace p417 := eq_true p417
                replace q417 := eq_true q417
                go_wp2_with (first | ((with_reducible refine gate_builtin (b := .append) (xs := #[.tmp 30, .tmp 35]) rfl ?_); (try (refine gate_guard (by rfl) ?_; dsimp only)); at_builtin; refine Kd.R_append k26 (w0 := w) w.heap.size rfl (.tmp 30) (.tmp 35) 44 26 (.agg #[(.int .i64 0), (.int .i64 0)]) 16 rfl Tryd.underlying44 info26 rfl (by decide) (by omega) u6 x6_1 (⟨(rd_T26 l1 x7_1).f0, (rd_T26 l1 x7_1).f1⟩ : S26) [.int .i64 ((rd_T26 l1 x7_1).f0), .int .i64 ((rd_T26 l1 x7_1).f1)] (fun _ => True) (fun _ => False) rfl rfl ?aP (fun _ hk => hk.elim) ?aF ?aO ?aB ?aS ?aL ?_; (case aP => exact k26_mkM _ _ _ (⟨(rd_T26 l1 x7_1).f0, (rd_T26 l1 x7_1).f1⟩ : S26)); (case aB => exact (by repeat (first | (with_reducible first | exact HB.out | apply below_alloc | apply pw_below_drewN | apply below_drew1) | exact HB.out))); (case aF => exact (fun _ _ => trivial)); (case aO => exact (by (with_reducible repeat (first | apply Kd.R_alloc | apply Kd.R_drewN | apply Kd.R_drew)); exact HO_6.out)); (case aS => exact (below_size (by repeat (first | (with_reducible first | exact HB.out | apply below_alloc | apply pw_below_drewN | apply below_drew1) | exact HB.out)))); (case aL => have := LMc9.out; omega); intro v419 w10 ho hb hg hat; rw [← Ny418.out] at ho; have n0_ := Aside0.mk (hb); have n1_ := Aside0.mk (ho); clear HB; clear HO_6; have HB := n0_; have HO420 := n1_; clear n0_ n1_; clear ho hb hg hat))
                go_roundg k1
                case measure => have := HK1.out; omega
                case rel => exact ⟨(y418), (wrap64 (x7_1 - 1)), (by first | rfl | (simp; done) | (simp [*]; done)), H', ⟨by have := HK1.out; omega⟩, ⟨by (with_reducible repeat (first | apply Kd.R_alloc | apply Kd.R_drewN | apply Kd.R_drew)); exact HO420.out⟩, ⟨by repeat (first | (with_reducible first | exact HB.out | apply below_alloc | apply pw_below_drewN | apply below_drew1) | exact HB.out)⟩⟩
              · rw [if_neg c9] at H
                exact absurd H (by simp)
            · rw [if_neg c8] at H
              exact absurd H (by simp)
          · rw [if_neg c7] at H
            exact absurd H (by simp)
        · rw [if_neg c6] at H
          have c6b0 : decide (0 ≤ x7_1) = false := decide_eq_false c6
          clear c6
          replace H := Option.bind_eq_some_iff.mp H
          obtain ⟨⟨t421, t422, t425⟩, A110, H⟩ := H
          replace H : ((bFromExtents.f k1 (wrap64 (Int.tmod a0 1200)) x6_1).bind fun bt427 => (if t425 = bt427.2.2 then ((r02Same.f k1 t421 t422 bt427.1 bt427.2.1).bind fun t433 => (if t433 = true then (if t425 = 0 then (l02BitmapOrders.j1 k1 l1 (wrap64 (Int.tmod a0 1200)) t425 bt427.2.2 ((l1.length : Int) == 0) t421 t422 bt427.1 bt427.2.1) else (l02BitmapOrders.j1 k1 l1 (wrap64 (Int.tmod a0 1200)) t425 bt427.2.2 true t421 t422 bt427.1 bt427.2.1)) else (l02BitmapOrders.j1 k1 l1 (wrap64 (Int.tmod a0 1200)) t425 bt427.2.2 true t421 t422 bt427.1 bt427.2.1))) else (l02BitmapOrders.j1 k1 l1 (wrap64 (Int.tmod a0 1200)) t425 bt427.2.2 true t421 t422 bt427.1 bt427.2.1))) = some r := H
          have A11 := Aside0.mk A110
          clear A110
          replace H := Option.bind_eq_some_iff.mp H
          obtain ⟨⟨t427, t428, t431⟩, A120, H⟩ := H
          replace H : (if t425 = t431 then ((r02Same.f k1 t421 t422 t427 t428).bind fun t433 => (if t433 = true then (if t425 = 0 then (l02BitmapOrders.j1 k1 l1 (wrap64 (Int.tmod a0 1200)) t425 t431 ((l1.length : Int) == 0) t421 t422 t427 t428) else (l02BitmapOrders.j1 k1 l1 (wrap64 (Int.tmod a0 1200)) t425 t431 true t421 t422 t427 t428)) else (l02BitmapOrders.j1 k1 l1 (wrap64 (Int.tmod a0 1200)) t425 t431 true t421 t422 t427 t428))) else (l02BitmapOrders.j1 k1 l1 (wrap64 (Int.tmod a0 1200)) t425 t431 true t421 t422 t427 t428)) = some r := H
          have A12 := Aside0.mk A120
          clear A120
          have HC13 := Aside0.mk H
          clear H
          go_upto_region 11 with (first | ((with_reducible refine gate_callee (f := 28) rfl ?_); refine goesL_ (some 40) rfl rfl Tryd.func28 (by kernel_rfl) rfl #[.int .i64 (wrap64 (Int.tmod a0 1200)), .slice A1 l1.length c1] rfl (by (try simp only [List.map_toArray, List.map_cons, List.map_nil]); first | done | rfl | (simp only [List.length_drop, List.length_take]; rfl)) ?_; (with_reducible refine (bFromExtents.calls k1 (wrap64 (Int.tmod a0 1200)) _ _ l1 t421 t422 t425 _ ?side1 ?side2 A11.out).mono ?_); (case side1 => repeat (first | exact (Kd.C_below HR1.out HB.out) | (with_reducible refine Kd.C_alloc ?_ _) | (with_reducible refine Kd.C_drewN ?_ _) | (with_reducible refine Kd.C_drew ?_))); (case side2 => exact HC1.out); rintro e w14 ⟨v423, rfl, ho0, hb⟩; refine ⟨_, rfl, ?_⟩; have n0_ := Aside0.mk (Kd.R_below (by (with_reducible repeat (first | apply Kd.R_alloc | apply Kd.R_drewN | apply Kd.R_drew)); exact HO_6.out) hb); have n1_ := Aside0.mk (Kd.R_lower ho0 (below_size (by repeat (first | (with_reducible first | exact HB.out | apply below_alloc | apply pw_below_drewN | apply below_drew1) | exact HB.out)))); have n2_ := Aside0.mk (below_step (by repeat (first | (with_reducible first | exact HB.out | apply below_alloc | apply pw_below_drewN | apply below_drew1) | exact HB.out)) hb); clear HO_6; clear HB; have HO_6 := n0_; have HO424 := n1_; have HB := n2_; clear n0_ n1_ n2_; (try clear hb); (try clear hb2); (try clear hk); (try clear hi); (try clear ho0)) | ((with_reducible refine gate_dst (N := 8) rfl ?_); (try (refine gate_guard (by rfl) ?_; dsimp only)); refine box_event ?hg (N := 8) ?hd (cs := #[.int .i64 0, .slice none 0 0]) (t := 24) ?hr ?_; (case hd => rfl); (case hg => rfl); (case hr => first | (go_simp; done) | (go_simp; rfl)); intro gb426 hg w15 hbox hb; have n0_ := Aside0.mk (Kd.R_below (by (with_reducible repeat (first | apply Kd.R_alloc | apply Kd.R_drewN | apply Kd.R_drew)); exact HO_6.out) hb); have n1_ := Aside0.mk (Kd.R_below (by (with_reducible repeat (first | apply Kd.R_alloc | apply Kd.R_drewN | apply Kd.R_drew)); exact HO424.out) hb); have n2_ := Aside0.mk (below_step (by repeat (first | (with_reducible first | exact HB.out | apply below_alloc | apply pw_below_drewN | apply below_drew1) | exact HB.out)) hb); have n3_ := Aside0.mk (hbox); have n4_ := Aside0.mk ((by rw [hg]; exact (below_size (by repeat (first | (with_reducible first | exact HB.out | apply below_alloc | apply pw_below_drewN | apply below_drew1) | exact HB.out))) : w.heap.size ≤ gb426)); have n5_ := Aside0.mk ((by rw [hg]; exact (below_size (by repeat (first | (with_reducible first | exact HB.out | apply below_alloc | apply pw_below_drewN | apply below_drew1) | exact HB.out))) : w.heap.size ≤ gb426)); clear HO_6; clear HO424; clear HB; have HO_6 := n0_; have HO424 := n1_; have HB := n2_; have BK426 := n3_; have GW426 := n4_; have GE426 := n5_; clear n0_ n1_ n2_ n3_ n4_ n5_; clear hb hbox hg; have hcz16_0 : w15.cell? ⟨gb426, 0, none⟩ = some (.int .i64 0) := (blk_cell BK426.out 0).trans rfl; have hcz16_1 : w15.cell? ⟨gb426, 1, none⟩ = some (.slice none 0 0) := (blk_cell BK426.out 1).trans rfl; have hfz16_0 := blk_frozen BK426.out 0; have hfz16_1 := blk_frozen BK426.out 1; obtain ⟨Ao17, co17, eo17⟩ := Kd.R_slice HO424.out; subst eo17; obtain ⟨Ao18, co18, eo18⟩ := Kd.R_slice HO_6.out; subst eo18) | ((with_reducible refine gate_callee (f := 28) rfl ?_); refine goesL_ (some 46) rfl rfl Tryd.func28 (by kernel_rfl) rfl #[.int .i64 (wrap64 (Int.tmod a0 1200)), .slice Ao18 x6_1.length co18] rfl (by (try simp only [List.map_toArray, List.map_cons, List.map_nil]); first | done | rfl | (simp only [List.length_drop, List.length_take]; rfl)) ?_; (with_reducible refine (bFromExtents.calls k1 (wrap64 (Int.tmod a0 1200)) _ _ x6_1 t427 t428 t431 _ ?side1 ?side2 A12.out).mono ?_); (case side1 => refine (Kd.R_reads' (e := 26) (base := w.heap.size) (ok := fun k_ => True) (n := x6_1.length) (c := co18) ?_).2.2; exact (by (with_reducible repeat (first | apply Kd.R_alloc | apply Kd.R_drewN | apply Kd.R_drew)); exact (Kd.R_mono (Kd.R_far (p := ⟨gb426, 1, none⟩) (Kd.R_far (p := ⟨gb426, 0, none⟩) (Kd.R_types HO_6.out BK426.out (by decide)) (fun _ hk => hk.2) (.int .i64 t421)) (fun _ hk => hk.2) (.slice Ao17 t422.length co17)) (fun _ h_ => h_.1)))); (case side2 => exact (Kd.R_reads' HO_6.out).2.1); rintro e w19 ⟨v429, rfl, ho0, hb⟩; refine ⟨_, rfl, ?_⟩; have n0_ := Aside0.mk (Kd.R_below (by (with_reducible repeat (first | apply Kd.R_alloc | apply Kd.R_drewN | apply Kd.R_drew)); exact (Kd.R_mono (Kd.R_far (p := ⟨gb426, 1, none⟩) (Kd.R_far (p := ⟨gb426, 0, none⟩) (Kd.R_types HO_6.out BK426.out (by decide)) (fun _ hk => hk.2) (.int .i64 t421)) (fun _ hk => hk.2) (.slice Ao17 t422.length co17)) (fun _ h_ => h_.1))) hb); have n1_ := Aside0.mk (Kd.R_elder' (by (with_reducible repeat (first | apply Kd.R_alloc | apply Kd.R_drewN | apply Kd.R_drew)); exact (Kd.R_mono (Kd.R_far (p := ⟨gb426, 1, none⟩) (Kd.R_far (p := ⟨gb426, 0, none⟩) (Kd.R_types HO424.out BK426.out (by decide)) (fun _ hk => hk.2) (.int .i64 t421)) (fun _ hk => hk.2) (.slice Ao17 t422.length co17)) (fun _ h_ => h_.1))) (Kd.R_base ho0) hb); have n2_ := Aside0.mk (Kd.R_lower (Kd.R_new' ho0 (Kd.R_lt (by (with_reducible repeat (first | apply Kd.R_alloc | apply Kd.R_drewN | apply Kd.R_drew)); exact (Kd.R_mono (Kd.R_far (p := ⟨gb426, 1, none⟩) (Kd.R_far (p := ⟨gb426, 0, none⟩) (Kd.R_types HO424.out BK426.out (by decide)) (fun _ hk => hk.2) (.int .i64 t421)) (fun _ hk => hk.2) (.slice Ao17 t422.length co17)) (fun _ h_ => h_.1))))) (below_size (by repeat (first | (with_reducible first | exact HB.out | apply below_alloc | apply pw_below_drewN | apply below_drew1 | refine below_set ?_ GE426.out) | exact HB.out)))); have n3_ := Aside0.mk (blk_below (g := gb426) (o := .cells #[.int .i64 t421, .slice Ao17 t422.length co17] 24 (0, 0)) (by (with_reducible repeat (first | refine blk_drewN ?_ _ | refine blk_drew ?_ | refine blk_alloc ?_ _)); refine blk_put (cs := #[.int .i64 t421, .slice none 0 0]) ?_ 1 _ rfl; (with_reducible repeat (first | refine blk_drewN ?_ _ | refine blk_drew ?_ | refine blk_alloc ?_ _)); refine blk_put (cs := #[.int .i64 0, .slice none 0 0]) ?_ 0 _ rfl; (with_reducible repeat (first | refine blk_drewN ?_ _ | refine blk_drew ?_ | refine blk_alloc ?_ _)); exact BK426.out) hb); have n4_ := Aside0.mk (below_step (by repeat (first | (with_reducible first | exact HB.out | apply below_alloc | apply pw_below_drewN | apply below_drew1 | refine below_set ?_ GE426.out) | exact HB.out)) hb); clear HO_6; clear HO424; clear BK426; clear HB; have HO_6 := n0_; have HO424 := n1_; have HO430 := n2_; have BK426 := n3_; have HB := n4_; clear n0_ n1_ n2_ n3_ n4_; (try clear hb); (try clear hb2); (try clear hk); (try clear hi); (try clear ho0)) | ((with_reducible refine gate_dst (N := 10) rfl ?_); (try (refine gate_guard (by rfl) ?_; dsimp only)); refine box_event ?hg (N := 10) ?hd (cs := #[.int .i64 0, .slice none 0 0]) (t := 24) ?hr ?_; (case hd => rfl); (case hg => rfl); (case hr => first | (go_simp; done) | (go_simp; rfl)); intro gb432 hg w20 hbox hb; have n0_ := Aside0.mk (Kd.R_below (by (with_reducible repeat (first | apply Kd.R_alloc | apply Kd.R_drewN | apply Kd.R_drew)); exact HO_6.out) hb); have n1_ := Aside0.mk (Kd.R_below (by (with_reducible repeat (first | apply Kd.R_alloc | apply Kd.R_drewN | apply Kd.R_drew)); exact HO424.out) hb); have n2_ := Aside0.mk (Kd.R_below (by (with_reducible repeat (first | apply Kd.R_alloc | apply Kd.R_drewN | apply Kd.R_drew)); exact HO430.out) hb); have n3_ := Aside0.mk (blk_below (g := gb426) (o := .cells #[.int .i64 t421, .slice Ao17 t422.length co17] 24 (0, 0)) (by (with_reducible repeat (first | refine blk_drewN ?_ _ | refine blk_drew ?_ | refine blk_alloc ?_ _)); exact BK426.out) hb); have n4_ := Aside0.mk (below_step (by repeat (first | (with_reducible first | exact HB.out | apply below_alloc | apply pw_below_drewN | apply below_drew1 | refine below_set ?_ GE426.out) | exact HB.out)) hb); have n5_ := Aside0.mk (hbox); have n6_ := Aside0.mk ((by rw [hg]; exact (below_size (by repeat (first | (with_reducible first | exact HB.out | apply below_alloc | apply pw_below_drewN | apply below_drew1 | refine below_set ?_ GE426.out) | exact HB.out))) : w.heap.size ≤ gb432)); have n7_ := Aside0.mk ((by rw [hg]; exact (below_size (by repeat (first | (with_reducible first | exact HB.out | apply below_alloc | apply pw_below_drewN | apply below_drew1 | refine below_set ?_ GE426.out) | exact HB.out))) : w.heap.size ≤ gb432)); have n8_ := Aside0.mk ((by rw [hg]; exact Nat.ne_of_lt (blk_lt (g := gb426) (o := .cells #[.int .i64 t421, .slice Ao17 t422.length co17] 24 (0, 0)) (by (with_reducible repeat (first | refine blk_drewN ?_ _ | refine blk_drew ?_ | refine blk_alloc ?_ _)); exact BK426.out)) : gb426 ≠ gb432)); have n9_ := Aside0.mk ((by rw [hg]; exact Nat.ne_of_gt (blk_lt (g := gb426) (o := .cells #[.int .i64 t421, .slice Ao17 t422.length co17] 24 (0, 0)) (by (with_reducible repeat (first | refine blk_drewN ?_ _ | refine blk_drew ?_ | refine blk_alloc ?_ _)); exact BK426.out)) : gb432 ≠ gb426)); clear HO_6; clear HO424; clear HO430; clear BK426; clear HB; have HO_6 := n0_; have HO424 := n1_; have HO430 := n2_; have BK426 := n3_; have HB := n4_; have BK432 := n5_; have GW432 := n6_; have GE432 := n7_; have NB426_432 := n8_; have NB432_426 := n9_; clear n0_ n1_ n2_ n3_ n4_ n5_ n6_ n7_ n8_ n9_; clear hb hbox hg; have hnb21 := NB432_426.out; have hnc21 := NB426_432.out; have hcz22_0 : w20.cell? ⟨gb432, 0, none⟩ = some (.int .i64 0) := (blk_cell BK432.out 0).trans rfl; have hcz22_1 : w20.cell? ⟨gb432, 1, none⟩ = some (.slice none 0 0) := (blk_cell BK432.out 1).trans rfl; have hfz22_0 := blk_frozen BK432.out 0; have hfz22_1 := blk_frozen BK432.out 1; obtain ⟨Ao23, co23, eo23⟩ := Kd.R_slice HO430.out; subst eo23))
          (try simp only [Act.put, List.setIfInBounds_toArray, List.set_cons_zero, List.set_cons_succ])
          go_cut [66] (fun v66 wc => ∃ (kq : Nat) (x66_12 : Bool), v66 = .bool x66_12 ∧ Aside0 (l02BitmapOrders.j1 kq l1 (wrap64 (Int.tmod a0 1200)) t425 t431 x66_12 t421 t422 t427 t428 = some r) ∧ Aside0 (kq ≤ k1) ∧ Aside0 (Kd.R (Kd.int .u64) 55 wc w.heap.size (fun k_ => some k_ ≠ ((.slice Ao23 t428.length co23) : Value).ownBlock) (.slice Ao17 t422.length co17) t422) ∧ Aside0 (Kd.R (Kd.int .u64) 55 wc w.heap.size (fun k_ => some k_ ≠ ((.slice Ao17 t422.length co17) : Value).ownBlock) (.slice Ao23 t428.length co23) t428) ∧ Aside0 (wc.heap[gb426]? = some (.cells #[.int .i64 t421, (.slice Ao17 t422.length co17)] 24 (0, 0))) ∧ Aside0 (wc.heap[gb432]? = some (.cells #[.int .i64 t427, (.slice Ao23 t428.length co23)] 24 (0, 0))) ∧ Aside0 (Below w.heap.size w wc))
          case first =>
            have H := HC13.out
            clear HC13
            by_cases c24 : t425 = t431
            · rw [if_pos c24] at H
              have c24b0 : (t425 == t431) = true := beq_iff_eq.mpr c24
              have c24b1 : (t425 != t431) = false := bne_eq_false_iff_eq.mpr c24
              clear c24
              (first | rw [c24b0] | (simp only [i64_w, i32_w]; rw [c24b0]) | skip)
              replace H := Option.bind_eq_some_iff.mp H
              obtain ⟨t433, A250, H⟩ := H
              replace H : (if t433 = true then (if t425 = 0 then (l02BitmapOrders.j1 k1 l1 (wrap64 (Int.tmod a0 1200)) t425 t431 ((l1.length : Int) == 0) t421 t422 t427 t428) else (l02BitmapOrders.j1 k1 l1 (wrap64 (Int.tmod a0 1200)) t425 t431 true t421 t422 t427 t428)) else (l02BitmapOrders.j1 k1 l1 (wrap64 (Int.tmod a0 1200)) t425 t431 true t421 t422 t427 t428)) = some r := H
              have A25 := Aside0.mk A250
              clear A250
              by_cases c26 : t433 = true
              · subst c26
                have H1 : (if t425 = 0 then (l02BitmapOrders.j1 k1 l1 (wrap64 (Int.tmod a0 1200)) t425 t431 ((l1.length : Int) == 0) t421 t422 t427 t428) else (l02BitmapOrders.j1 k1 l1 (wrap64 (Int.tmod a0 1200)) t425 t431 true t421 t422 t427 t428)) = some r := by rw [if_pos rfl] at H; exact H
                clear H
                have H := H1
                clear H1
                by_cases c27 : t425 = 0
                · rw [if_pos c27] at H
                  have c27b0 : (t425 == 0) = true := beq_iff_eq.mpr c27
                  have c27b1 : (t425 != 0) = false := bne_eq_false_iff_eq.mpr c27
                  clear c27
                  have H' := Aside0.mk H
                  clear H
                  have hnb28 := NB426_432.out
                  have hnc28 := NB432_426.out
                  have hcz29_0 : w20.cell? ⟨gb426, 0, none⟩ = some (.int .i64 t421) := (blk_cell BK426.out 0).trans rfl
                  have hcz29_1 : w20.cell? ⟨gb426, 1, none⟩ = some (.slice Ao17 t422.length co17) := (blk_cell BK426.out 1).trans rfl
                  have hfz29_0 := blk_frozen BK426.out 0
                  have hfz29_1 := blk_frozen BK426.out 1
                  have hcz30_0 : w20.cell? ⟨gb432, 0, none⟩ = some (.int .i64 0) := (blk_cell BK432.out 0).trans rfl
                  have hcz30_1 : w20.cell? ⟨gb432, 1, none⟩ = some (.slice none 0 0) := (blk_cell BK432.out 1).trans rfl
                  have hfz30_0 := blk_frozen BK432.out 0
                  have hfz30_1 := blk_frozen BK432.out 1
                  go_wp2_with (first | (go_at_call 17; (with_reducible refine (r02Same.calls k1 t421 _ _ t422 t427 _ _ t428 true _ ?side1 ?side2 ?side3 ?side4 A25.out).mono ?_); (case side1 => refine (Kd.R_reads' (e := 55) (base := w.heap.size) (ok := fun k_ => (True ∧ some k_ ≠ (.slice Ao23 t428.length co23 : Value).ownBlock)) (n := t422.length) (c := co17) ?_).2.2; exact (by (with_reducible repeat (first | apply Kd.R_alloc | apply Kd.R_drewN | apply Kd.R_drew)); exact (Kd.R_mono (Kd.R_far (p := ⟨gb432, 1, none⟩) (Kd.R_far (p := ⟨gb432, 0, none⟩) (Kd.R_types HO424.out BK432.out (by decide)) (fun _ hk => hk.2) (.int .i64 t427)) (fun _ hk => hk.2) (.slice Ao23 t428.length co23)) (fun _ h_ => h_.1)))); (case side2 => exact (Kd.R_reads' HO424.out).2.1); (case side3 => refine (Kd.R_reads' (e := 55) (base := w.heap.size) (ok := fun k_ => (True ∧ some k_ ≠ (.slice Ao17 t422.length co17 : Value).ownBlock)) (n := t428.length) (c := co23) ?_).2.2; exact (by (with_reducible repeat (first | apply Kd.R_alloc | apply Kd.R_drewN | apply Kd.R_drew)); exact (Kd.R_mono (Kd.R_far (p := ⟨gb432, 1, none⟩) (Kd.R_far (p := ⟨gb432, 0, none⟩) (Kd.R_types HO430.out BK432.out (by decide)) (fun _ hk => hk.2) (.int .i64 t427)) (fun _ hk => hk.2) (.slice Ao23 t428.length co23)) (fun _ h_ => h_.1)))); (case side4 => exact (Kd.R_reads' HO430.out).2.1); rintro e w31 ⟨rfl, hb⟩; have n0_ := Aside0.mk (Kd.R_below (by (with_reducible repeat (first | apply Kd.R_alloc | apply Kd.R_drewN | apply Kd.R_drew)); exact (Kd.R_mono (Kd.R_far (p := ⟨gb432, 1, none⟩) (Kd.R_far (p := ⟨gb432, 0, none⟩) (Kd.R_types HO_6.out BK432.out (by decide)) (fun _ hk => hk.2) (.int .i64 t427)) (fun _ hk => hk.2) (.slice Ao23 t428.length co23)) (fun _ h_ => h_.1))) hb); have n1_ := Aside0.mk (Kd.R_below (by (with_reducible repeat (first | apply Kd.R_alloc | apply Kd.R_drewN | apply Kd.R_drew)); exact (Kd.R_mono (Kd.R_far (p := ⟨gb432, 1, none⟩) (Kd.R_far (p := ⟨gb432, 0, none⟩) (Kd.R_types HO424.out BK432.out (by decide)) (fun _ hk => hk.2) (.int .i64 t427)) (fun _ hk => hk.2) (.slice Ao23 t428.length co23)) (fun _ h_ => h_.1))) hb); have n2_ := Aside0.mk (Kd.R_below (by (with_reducible repeat (first | apply Kd.R_alloc | apply Kd.R_drewN | apply Kd.R_drew)); exact (Kd.R_mono (Kd.R_far (p := ⟨gb432, 1, none⟩) (Kd.R_far (p := ⟨gb432, 0, none⟩) (Kd.R_types HO430.out BK432.out (by decide)) (fun _ hk => hk.2) (.int .i64 t427)) (fun _ hk => hk.2) (.slice Ao23 t428.length co23)) (fun _ h_ => h_.1))) hb); have n3_ := Aside0.mk (blk_below (g := gb426) (o := .cells #[.int .i64 t421, .slice Ao17 t422.length co17] 24 (0, 0)) (by (with_reducible repeat (first | refine blk_drewN ?_ _ | refine blk_drew ?_ | refine blk_alloc ?_ _)); refine blk_far ?_ NB426_432.out _; (with_reducible repeat (first | refine blk_drewN ?_ _ | refine blk_drew ?_ | refine blk_alloc ?_ _)); refine blk_far ?_ NB426_432.out _; (with_reducible repeat (first | refine blk_drewN ?_ _ | refine blk_drew ?_ | refine blk_alloc ?_ _)); exact BK426.out) hb); have n4_ := Aside0.mk (blk_below (g := gb432) (o := .cells #[.int .i64 t427, .slice Ao23 t428.length co23] 24 (0, 0)) (by (with_reducible repeat (first | refine blk_drewN ?_ _ | refine blk_drew ?_ | refine blk_alloc ?_ _)); refine blk_put (cs := #[.int .i64 t427, .slice none 0 0]) ?_ 1 _ rfl; (with_reducible repeat (first | refine blk_drewN ?_ _ | refine blk_drew ?_ | refine blk_alloc ?_ _)); refine blk_put (cs := #[.int .i64 0, .slice none 0 0]) ?_ 0 _ rfl; (with_reducible repeat (first | refine blk_drewN ?_ _ | refine blk_drew ?_ | refine blk_alloc ?_ _)); exact BK432.out) hb); have n5_ := Aside0.mk (below_step (by repeat (first | (with_reducible first | exact HB.out | apply below_alloc | apply pw_below_drewN | apply below_drew1 | refine below_set ?_ GE426.out | refine below_set ?_ GE432.out) | exact HB.out)) hb); clear HO_6; clear HO424; clear HO430; clear BK426; clear BK432; clear HB; have HO_6 := n0_; have HO424 := n1_; have HO430 := n2_; have BK426 := n3_; have BK432 := n4_; have HB := n5_; clear n0_ n1_ n2_ n3_ n4_ n5_; (try clear hb); (try clear hb2); (try clear hk); (try clear hi)))
                  go_meet
                  case rel => exact ⟨_, (((l1.length : Int) == 0)), (by first | rfl | (simp; done) | (simp [*]; done)), H', ⟨by have := HK1.out; first | omega | exact Nat.le_refl _⟩, ⟨by (with_reducible repeat (first | apply Kd.R_alloc | apply Kd.R_drewN | apply Kd.R_drew)); exact Kd.R_mono HO424.out (fun _ hk => hk.2)⟩, ⟨by (with_reducible repeat (first | apply Kd.R_alloc | apply Kd.R_drewN | apply Kd.R_drew)); exact Kd.R_mono HO430.out (fun _ hk => hk.2)⟩, ⟨by (with_reducible repeat (first | refine blk_drewN ?_ _ | refine blk_drew ?_ | refine blk_alloc ?_ _)); exact BK426.out⟩, ⟨by (with_reducible repeat (first | refine blk_drewN ?_ _ | refine blk_drew ?_ | refine blk_alloc ?_ _)); exact BK432.out⟩, ⟨by repeat (first | (with_reducible first | exact HB.out | apply below_alloc | apply pw_below_drewN | apply below_drew1 | refine below_set ?_ GE426.out | refine below_set ?_ GE432.out) | exact HB.out)⟩⟩
                · rw [if_neg c27] at H
                  have c27b0 : (t425 == 0) = false := beq_eq_false_iff_ne.mpr c27
                  have c27b1 : (t425 != 0) = true := bne_iff_ne.mpr c27
                  have H' := Aside0.mk H
                  clear H
                  have hnb32 := NB426_432.out
                  have hnc32 := NB432_426.out
                  have hcz33_0 : w20.cell? ⟨gb426, 0, none⟩ = some (.int .i64 t421) := (blk_cell BK426.out 0).trans rfl
                  have hcz33_1 : w20.cell? ⟨gb426, 1, none⟩ = some (.slice Ao17 t422.length co17) := (blk_cell BK426.out 1).trans rfl
                  have hfz33_0 := blk_frozen BK426.out 0
                  have hfz33_1 := blk_frozen BK426.out 1
                  have hcz34_0 : w20.cell? ⟨gb432, 0, none⟩ = some (.int .i64 0) := (blk_cell BK432.out 0).trans rfl
                  have hcz34_1 : w20.cell? ⟨gb432, 1, none⟩ = some (.slice none 0 0) := (blk_cell BK432.out 1).trans rfl
                  have hfz34_0 := blk_frozen BK432.out 0
                  have hfz34_1 := blk_frozen BK432.out 1
                  go_wp2_with (first | (go_at_call 17; (with_reducible refine (r02Same.calls k1 t421 _ _ t422 t427 _ _ t428 true _ ?side1 ?side2 ?side3 ?side4 A25.out).mono ?_); (case side1 => refine (Kd.R_reads' (e := 55) (base := w.heap.size) (ok := fun k_ => (True ∧ some k_ ≠ (.slice Ao23 t428.length co23 : Value).ownBlock)) (n := t422.length) (c := co17) ?_).2.2; exact (by (with_reducible repeat (first | apply Kd.R_alloc | apply Kd.R_drewN | apply Kd.R_drew)); exact (Kd.R_mono (Kd.R_far (p := ⟨gb432, 1, none⟩) (Kd.R_far (p := ⟨gb432, 0, none⟩) (Kd.R_types HO424.out BK432.out (by decide)) (fun _ hk => hk.2) (.int .i64 t427)) (fun _ hk => hk.2) (.slice Ao23 t428.length co23)) (fun _ h_ => h_.1)))); (case side2 => exact (Kd.R_reads' HO424.out).2.1); (case side3 => refine (Kd.R_reads' (e := 55) (base := w.heap.size) (ok := fun k_ => (True ∧ some k_ ≠ (.slice Ao17 t422.length co17 : Value).ownBlock)) (n := t428.length) (c := co23) ?_).2.2; exact (by (with_reducible repeat (first | apply Kd.R_alloc | apply Kd.R_drewN | apply Kd.R_drew)); exact (Kd.R_mono (Kd.R_far (p := ⟨gb432, 1, none⟩) (Kd.R_far (p := ⟨gb432, 0, none⟩) (Kd.R_types HO430.out BK432.out (by decide)) (fun _ hk => hk.2) (.int .i64 t427)) (fun _ hk => hk.2) (.slice Ao23 t428.length co23)) (fun _ h_ => h_.1)))); (case side4 => exact (Kd.R_reads' HO430.out).2.1); rintro e w35 ⟨rfl, hb⟩; have n0_ := Aside0.mk (Kd.R_below (by (with_reducible repeat (first | apply Kd.R_alloc | apply Kd.R_drewN | apply Kd.R_drew)); exact (Kd.R_mono (Kd.R_far (p := ⟨gb432, 1, none⟩) (Kd.R_far (p := ⟨gb432, 0, none⟩) (Kd.R_types HO_6.out BK432.out (by decide)) (fun _ hk => hk.2) (.int .i64 t427)) (fun _ hk => hk.2) (.slice Ao23 t428.length co23)) (fun _ h_ => h_.1))) hb); have n1_ := Aside0.mk (Kd.R_below (by (with_reducible repeat (first | apply Kd.R_alloc | apply Kd.R_drewN | apply Kd.R_drew)); exact (Kd.R_mono (Kd.R_far (p := ⟨gb432, 1, none⟩) (Kd.R_far (p := ⟨gb432, 0, none⟩) (Kd.R_types HO424.out BK432.out (by decide)) (fun _ hk => hk.2) (.int .i64 t427)) (fun _ hk => hk.2) (.slice Ao23 t428.length co23)) (fun _ h_ => h_.1))) hb); have n2_ := Aside0.mk (Kd.R_below (by (with_reducible repeat (first | apply Kd.R_alloc | apply Kd.R_drewN | apply Kd.R_drew)); exact (Kd.R_mono (Kd.R_far (p := ⟨gb432, 1, none⟩) (Kd.R_far (p := ⟨gb432, 0, none⟩) (Kd.R_types HO430.out BK432.out (by decide)) (fun _ hk => hk.2) (.int .i64 t427)) (fun _ hk => hk.2) (.slice Ao23 t428.length co23)) (fun _ h_ => h_.1))) hb); have n3_ := Aside0.mk (blk_below (g := gb426) (o := .cells #[.int .i64 t421, .slice Ao17 t422.length co17] 24 (0, 0)) (by (with_reducible repeat (first | refine blk_drewN ?_ _ | refine blk_drew ?_ | refine blk_alloc ?_ _)); refine blk_far ?_ NB426_432.out _; (with_reducible repeat (first | refine blk_drewN ?_ _ | refine blk_drew ?_ | refine blk_alloc ?_ _)); refine blk_far ?_ NB426_432.out _; (with_reducible repeat (first | refine blk_drewN ?_ _ | refine blk_drew ?_ | refine blk_alloc ?_ _)); exact BK426.out) hb); have n4_ := Aside0.mk (blk_below (g := gb432) (o := .cells #[.int .i64 t427, .slice Ao23 t428.length co23] 24 (0, 0)) (by (with_reducible repeat (first | refine blk_drewN ?_ _ | refine blk_drew ?_ | refine blk_alloc ?_ _)); refine blk_put (cs := #[.int .i64 t427, .slice none 0 0]) ?_ 1 _ rfl; (with_reducible repeat (first | refine blk_drewN ?_ _ | refine blk_drew ?_ | refine blk_alloc ?_ _)); refine blk_put (cs := #[.int .i64 0, .slice none 0 0]) ?_ 0 _ rfl; (with_reducible repeat (first | refine blk_drewN ?_ _ | refine blk_drew ?_ | refine blk_alloc ?_ _)); exact BK432.out) hb); have n5_ := Aside0.mk (below_step (by repeat (first | (with_reducible first | exact HB.out | apply below_alloc | apply pw_below_drewN | apply below_drew1 | refine below_set ?_ GE426.out | refine below_set ?_ GE432.out) | exact HB.out)) hb); clear HO_6; clear HO424; clear HO430; clear BK426; clear BK432; clear HB; have HO_6 := n0_; have HO424 := n1_; have HO430 := n2_; have BK426 := n3_; have BK432 := n4_; have HB := n5_; clear n0_ n1_ n2_ n3_ n4_ n5_; (try clear hb); (try clear hb2); (try clear hk); (try clear hi)))
                  go_meet
                  case rel => exact ⟨_, (true), (by first | rfl | (simp; done) | (simp [*]; done)), H', ⟨by have := HK1.out; first | omega | exact Nat.le_refl _⟩, ⟨by (with_reducible repeat (first | apply Kd.R_alloc | apply Kd.R_drewN | apply Kd.R_drew)); exact Kd.R_mono HO424.out (fun _ hk => hk.2)⟩, ⟨by (with_reducible repeat (first | apply Kd.R_alloc | apply Kd.R_drewN | apply Kd.R_drew)); exact Kd.R_mono HO430.out (fun _ hk => hk.2)⟩, ⟨by (with_reducible repeat (first | refine blk_drewN ?_ _ | refine blk_drew ?_ | refine blk_alloc ?_ _)); exact BK426.out⟩, ⟨by (with_reducible repeat (first | refine blk_drewN ?_ _ | refine blk_drew ?_ | refine blk_alloc ?_ _)); exact BK432.out⟩, ⟨by repeat (first | (with_reducible first | exact HB.out | apply below_alloc | apply pw_below_drewN | apply below_drew1 | refine below_set ?_ GE426.out | refine below_set ?_ GE432.out) | exact HB.out)⟩⟩
              · replace c26 := Bool.eq_false_iff.mpr c26
                subst c26
                have H1 : (l02BitmapOrders.j1 k1 l1 (wrap64 (Int.tmod a0 1200)) t425 t431 true t421 t422 t427 t428) = some r := by rw [if_neg (show ¬ (false = true) by decide)] at H; exact H
                clear H
                have H := H1
                clear H1
                have H' := Aside0.mk H
                clear H
                have hnb36 := NB426_432.out
                have hnc36 := NB432_426.out
                have hcz37_0 : w20.cell? ⟨gb426, 0, none⟩ = some (.int .i64 t421) := (blk_cell BK426.out 0).trans rfl
                have hcz37_1 : w20.cell? ⟨gb426, 1, none⟩ = some (.slice Ao17 t422.length co17) := (blk_cell BK426.out 1).trans rfl
                have hfz37_0 := blk_frozen BK426.out 0
                have hfz37_1 := blk_frozen BK426.out 1
                have hcz38_0 : w20.cell? ⟨gb432, 0, none⟩ = some (.int .i64 0) := (blk_cell BK432.out 0).trans rfl
                have hcz38_1 : w20.cell? ⟨gb432, 1, none⟩ = some (.slice none 0 0) := (blk_cell BK432.out 1).trans rfl
                have hfz38_0 := blk_frozen BK432.out 0
                have hfz38_1 := blk_frozen BK432.out 1
                go_wp2_with (first | (go_at_call 17; (with_reducible refine (r02Same.calls k1 t421 _ _ t422 t427 _ _ t428 false _ ?side1 ?side2 ?side3 ?side4 A25.out).mono ?_); (case side1 => refine (Kd.R_reads' (e := 55) (base := w.heap.size) (ok := fun k_ => (True ∧ some k_ ≠ (.slice Ao23 t428.length co23 : Value).ownBlock)) (n := t422.length) (c := co17) ?_).2.2; exact (by (with_reducible repeat (first | apply Kd.R_alloc | apply Kd.R_drewN | apply Kd.R_drew)); exact (Kd.R_mono (Kd.R_far (p := ⟨gb432, 1, none⟩) (Kd.R_far (p := ⟨gb432, 0, none⟩) (Kd.R_types HO424.out BK432.out (by decide)) (fun _ hk => hk.2) (.int .i64 t427)) (fun _ hk => hk.2) (.slice Ao23 t428.length co23)) (fun _ h_ => h_.1)))); (case side2 => exact (Kd.R_reads' HO424.out).2.1); (case side3 => refine (Kd.R_reads' (e := 55) (base := w.heap.size) (ok := fun k_ => (True ∧ some k_ ≠ (.slice Ao17 t422.length co17 : Value).ownBlock)) (n := t428.length) (c := co23) ?_).2.2; exact (by (with_reducible repeat (first | apply Kd.R_alloc | apply Kd.R_drewN | apply Kd.R_drew)); exact (Kd.R_mono (Kd.R_far (p := ⟨gb432, 1, none⟩) (Kd.R_far (p := ⟨gb432, 0, none⟩) (Kd.R_types HO430.out BK432.out (by decide)) (fun _ hk => hk.2) (.int .i64 t427)) (fun _ hk => hk.2) (.slice Ao23 t428.length co23)) (fun _ h_ => h_.1)))); (case side4 => exact (Kd.R_reads' HO430.out).2.1); rintro e w39 ⟨rfl, hb⟩; have n0_ := Aside0.mk (Kd.R_below (by (with_reducible repeat (first | apply Kd.R_alloc | apply Kd.R_drewN | apply Kd.R_drew)); exact (Kd.R_mono (Kd.R_far (p := ⟨gb432, 1, none⟩) (Kd.R_far (p := ⟨gb432, 0, none⟩) (Kd.R_types HO_6.out BK432.out (by decide)) (fun _ hk => hk.2) (.int .i64 t427)) (fun _ hk => hk.2) (.slice Ao23 t428.length co23)) (fun _ h_ => h_.1))) hb); have n1_ := Aside0.mk (Kd.R_below (by (with_reducible repeat (first | apply Kd.R_alloc | apply Kd.R_drewN | apply Kd.R_drew)); exact (Kd.R_mono (Kd.R_far (p := ⟨gb432, 1, none⟩) (Kd.R_far (p := ⟨gb432, 0, none⟩) (Kd.R_types HO424.out BK432.out (by decide)) (fun _ hk => hk.2) (.int .i64 t427)) (fun _ hk => hk.2) (.slice Ao23 t428.length co23)) (fun _ h_ => h_.1))) hb); have n2_ := Aside0.mk (Kd.R_below (by (with_reducible repeat (first | apply Kd.R_alloc | apply Kd.R_drewN | apply Kd.R_drew)); exact (Kd.R_mono (Kd.R_far (p := ⟨gb432, 1, none⟩) (Kd.R_far (p := ⟨gb432, 0, none⟩) (Kd.R_types HO430.out BK432.out (by decide)) (fun _ hk => hk.2) (.int .i64 t427)) (fun _ hk => hk.2) (.slice Ao23 t428.length co23)) (fun _ h_ => h_.1))) hb); have n3_ := Aside0.mk (blk_below (g := gb426) (o := .cells #[.int .i64 t421, .slice Ao17 t422.length co17] 24 (0, 0)) (by (with_reducible repeat (first | refine blk_drewN ?_ _ | refine blk_drew ?_ | refine blk_alloc ?_ _)); refine blk_far ?_ NB426_432.out _; (with_reducible repeat (first | refine blk_drewN ?_ _ | refine blk_drew ?_ | refine blk_alloc ?_ _)); refine blk_far ?_ NB426_432.out _; (with_reducible repeat (first | refine blk_drewN ?_ _ | refine blk_drew ?_ | refine blk_alloc ?_ _)); exact BK426.out) hb); have n4_ := Aside0.mk (blk_below (g := gb432) (o := .cells #[.int .i64 t427, .slice Ao23 t428.length co23] 24 (0, 0)) (by (with_reducible repeat (first | refine blk_drewN ?_ _ | refine blk_drew ?_ | refine blk_alloc ?_ _)); refine blk_put (cs := #[.int .i64 t427, .slice none 0 0]) ?_ 1 _ rfl; (with_reducible repeat (first | refine blk_drewN ?_ _ | refine blk_drew ?_ | refine blk_alloc ?_ _)); refine blk_put (cs := #[.int .i64 0, .slice none 0 0]) ?_ 0 _ rfl; (with_reducible repeat (first | refine blk_drewN ?_ _ | refine blk_drew ?_ | refine blk_alloc ?_ _)); exact BK432.out) hb); have n5_ := Aside0.mk (below_step (by repeat (first | (with_reducible first | exact HB.out | apply below_alloc | apply pw_below_drewN | apply below_drew1 | refine below_set ?_ GE426.out | refine below_set ?_ GE432.out) | exact HB.out)) hb); clear HO_6; clear HO424; clear HO430; clear BK426; clear BK432; clear HB; have HO_6 := n0_; have HO424 := n1_; have HO430 := n2_; have BK426 := n3_; have BK432 := n4_; have HB := n5_; clear n0_ n1_ n2_ n3_ n4_ n5_; (try clear hb); (try clear hb2); (try clear hk); (try clear hi)))
                go_meet
                case rel => exact ⟨_, (true), (by first | rfl | (simp; done) | (simp [*]; done)), H', ⟨by have := HK1.out; first | omega | exact Nat.le_refl _⟩, ⟨by (with_reducible repeat (first | apply Kd.R_alloc | apply Kd.R_drewN | apply Kd.R_drew)); exact Kd.R_mono HO424.out (fun _ hk => hk.2)⟩, ⟨by (with_reducible repeat (first | apply Kd.R_alloc | apply Kd.R_drewN | apply Kd.R_drew)); exact Kd.R_mono HO430.out (fun _ hk => hk.2)⟩, ⟨by (with_reducible repeat (first | refine blk_drewN ?_ _ | refine blk_drew ?_ | refine blk_alloc ?_ _)); exact BK426.out⟩, ⟨by (with_reducible repeat (first | refine blk_drewN ?_ _ | refine blk_drew ?_ | refine blk_alloc ?_ _)); exact BK432.out⟩, ⟨by repeat (first | (with_reducible first | exact HB.out | apply below_alloc | apply pw_below_drewN | apply below_drew1 | refine below_set ?_ GE426.out | refine below_set ?_ GE432.out) | exact HB.out)⟩⟩
            · rw [if_neg c24] at H
              have c24b0 : (t425 == t431) = false := beq_eq_false_iff_ne.mpr c24
              have c24b1 : (t425 != t431) = true := bne_iff_ne.mpr c24
              (first | rw [c24b0] | (simp only [i64_w, i32_w]; rw [c24b0]) | skip)
              have H' := Aside0.mk H
              clear H
              go_wp2
              go_meet
              case rel => exact ⟨_, (true), (by first | rfl | (simp; done) | (simp [*]; done)), H', ⟨by have := HK1.out; first | omega | exact Nat.le_refl _⟩, ⟨by (with_reducible repeat (first | apply Kd.R_alloc | apply Kd.R_drewN | apply Kd.R_drew)); exact Kd.R_mono (Kd.R_far (p := ⟨gb432, 1, none⟩) (Kd.R_far (p := ⟨gb432, 0, none⟩) (Kd.R_types HO424.out BK432.out (by decide)) (fun _ hk => hk.2) (.int .i64 t427)) (fun _ hk => hk.2) (.slice Ao23 t428.length co23)) (fun _ hk => hk.1.2)⟩, ⟨by (with_reducible repeat (first | apply Kd.R_alloc | apply Kd.R_drewN | apply Kd.R_drew)); exact Kd.R_mono (Kd.R_far (p := ⟨gb432, 1, none⟩) (Kd.R_far (p := ⟨gb432, 0, none⟩) (Kd.R_types HO430.out BK432.out (by decide)) (fun _ hk => hk.2) (.int .i64 t427)) (fun _ hk => hk.2) (.slice Ao23 t428.length co23)) (fun _ hk => hk.1.2)⟩, ⟨by (with_reducible repeat (first | refine blk_drewN ?_ _ | refine blk_drew ?_ | refine blk_alloc ?_ _)); refine blk_far ?_ NB426_432.out _; (with_reducible repeat (first | refine blk_drewN ?_ _ | refine blk_drew ?_ | refine blk_alloc ?_ _)); refine blk_far ?_ NB426_432.out _; (with_reducible repeat (first | refine blk_drewN ?_ _ | refine blk_drew ?_ | refine blk_alloc ?_ _)); exact BK426.out⟩, ⟨by (with_reducible repeat (first | refine blk_drewN ?_ _ | refine blk_drew ?_ | refine blk_alloc ?_ _)); refine blk_put (cs := #[.int .i64 t427, .slice none 0 0]) ?_ 1 _ rfl; (with_reducible repeat (first | refine blk_drewN ?_ _ | refine blk_drew ?_ | refine blk_alloc ?_ _)); refine blk_put (cs := #[.int .i64 0, .slice none 0 0]) ?_ 0 _ rfl; (with_reducible repeat (first | refine blk_drewN ?_ _ | refine blk_drew ?_ | refine blk_alloc ?_ _)); exact BK432.out⟩, ⟨by repeat (first | (with_reducible first | exact HB.out | apply below_alloc | apply pw_below_drewN | apply below_drew1 | refine below_set ?_ GE426.out | refine below_set ?_ GE432.out) | exact HB.out)⟩⟩
          case rest =>
            clear HC13
            try clear c1
            try clear c2
            try clear p2
            try clear c3
            try clear c3b0
            try clear c3b1
            try clear p4
            try clear q4
            try clear hx4
            try clear c6
            try clear c6b0
            try clear p6
            try clear c7
            try clear c7b0
            try clear c8
            try clear c8b0
            try clear c9
            try clear c12
            try clear c21
            try clear c24
            try clear c24b0
            try clear c24b1
            try clear c26
            try clear c27
            try clear c27b0
            try clear c27b1
            try clear c28
            try clear c32
            try clear c36
            try clear hcz16_0
            try clear hcz16_1
            try clear hcz22_0
            try clear hcz22_1
            try clear hcz29_0
            try clear hcz29_1
            try clear hcz30_0
            try clear hcz30_1
            try clear hcz33_0
            try clear hcz33_1
            try clear hcz34_0
            try clear hcz34_1
            try clear hcz37_0
            try clear hcz37_1
            try clear hcz38_0
            try clear hcz38_1
            try clear hfz16_0
            try clear hfz16_1
            try clear hfz22_0
            try clear hfz22_1
            try clear hfz29_0
            try clear hfz29_1
            try clear hfz30_0
            try clear hfz30_1
            try clear hfz33_0
            try clear hfz33_1
            try clear hfz34_0
            try clear hfz34_1
            try clear hfz37_0
            try clear hfz37_1
            try clear hfz38_0
            try clear hfz38_1
            try clear hx417_0
            try clear hx417_1
            try clear p2
            try clear p417
            try clear q417
            obtain ⟨kq, x66_12, rfl, HA, HJ12, HO_427001, HO_433001, BK426, BK432, HB⟩ := hcut
            cases kq with
            | zero => exact absurd HA.out (by simp [l02BitmapOrders.j1])
            | succ kj12 =>
              have H := HA.out
              clear HA
              simp only [l02BitmapOrders.j1] at H
              by_cases c40 : x66_12 = true
              · subst c40
                have H1 : ((l02awake.f kj12).bind fun t434 => (if t434 = true then (if t425 = t431 then ((r02Same.f kj12 t421 t422 t427 t428).bind fun t435 => (some t435)) else (some false)) else (some false))) = some r := by rw [if_pos rfl] at H; exact H
                clear H
                have H := H1
                clear H1
                replace H := Option.bind_eq_some_iff.mp H
                obtain ⟨t434, A410, H⟩ := H
                replace H : (if t434 = true then (if t425 = t431 then ((r02Same.f kj12 t421 t422 t427 t428).bind fun t435 => (some t435)) else (some false)) else (some false)) = some r := H
                have A41 := Aside0.mk A410
                clear A410
                by_cases c42 : t434 = true
                · subst c42
                  have H1 : (if t425 = t431 then ((r02Same.f kj12 t421 t422 t427 t428).bind fun t435 => (some t435)) else (some false)) = some r := by rw [if_pos rfl] at H; exact H
                  clear H
                  have H := H1
                  clear H1
                  by_cases c43 : t425 = t431
                  · rw [if_pos c43] at H
                    have c43b0 : (t425 == t431) = true := beq_iff_eq.mpr c43
                    have c43b1 : (t425 != t431) = false := bne_eq_false_iff_eq.mpr c43
                    clear c43
                    replace H := Option.bind_eq_some_iff.mp H
                    obtain ⟨t435, A440, H⟩ := H
                    replace H : (some t435) = some r := H
                    have A44 := Aside0.mk A440
                    clear A440
                    obtain rfl := Option.some.inj H
                    go_wp2_with (first | ((with_reducible refine gate_callee (f := 12) rfl ?_); refine goesL_ (some 67) rfl rfl Tryd.func12 (by kernel_rfl) rfl #[] rfl (by (try simp only [List.map_toArray, List.map_cons, List.map_nil]); first | done | rfl | (simp only [List.length_drop, List.length_take]; rfl)) ?_; (with_reducible refine (l02awake.calls kj12  true _ ?side1 A41.out).mono ?_); (case side1 => exact TabOK.below hG (by repeat (first | (with_reducible first | exact HB.out | apply below_alloc | apply pw_below_drewN | apply below_drew1 | refine below_set ?_ GE426.out | refine below_set ?_ GE432.out) | exact HB.out))); rintro e w45 ⟨rfl, hb⟩; refine ⟨_, rfl, ?_⟩; have n0_ := Aside0.mk (Kd.R_below (by (with_reducible repeat (first | apply Kd.R_alloc | apply Kd.R_drewN | apply Kd.R_drew)); exact HO_427001.out) hb); have n1_ := Aside0.mk (Kd.R_below (by (with_reducible repeat (first | apply Kd.R_alloc | apply Kd.R_drewN | apply Kd.R_drew)); exact HO_433001.out) hb); have n2_ := Aside0.mk (blk_below (g := gb426) (o := .cells #[.int .i64 t421, .slice Ao17 t422.length co17] 24 (0, 0)) (by (with_reducible repeat (first | refine blk_drewN ?_ _ | refine blk_drew ?_ | refine blk_alloc ?_ _)); exact BK426.out) hb); have n3_ := Aside0.mk (blk_below (g := gb432) (o := .cells #[.int .i64 t427, .slice Ao23 t428.length co23] 24 (0, 0)) (by (with_reducible repeat (first | refine blk_drewN ?_ _ | refine blk_drew ?_ | refine blk_alloc ?_ _)); exact BK432.out) hb); have n4_ := Aside0.mk (below_step (by repeat (first | (with_reducible first | exact HB.out | apply below_alloc | apply pw_below_drewN | apply below_drew1 | refine below_set ?_ GE426.out | refine below_set ?_ GE432.out) | exact HB.out)) hb); clear HO_427001; clear HO_433001; clear BK426; clear BK432; clear HB; have HO_427001 := n0_; have HO_433001 := n1_; have BK426 := n2_; have BK432 := n3_; have HB := n4_; clear n0_ n1_ n2_ n3_ n4_; (try clear hb); (try clear hb2); (try clear hk); (try clear hi); have hnb46 := NB426_432.out; have hnc46 := NB432_426.out; have hcz47_0 : w45.cell? ⟨gb426, 0, none⟩ = some (.int .i64 t421) := (blk_cell BK426.out 0).trans rfl; have hcz47_1 : w45.cell? ⟨gb426, 1, none⟩ = some (.slice Ao17 t422.length co17) := (blk_cell BK426.out 1).trans rfl; have hfz47_0 := blk_frozen BK426.out 0; have hfz47_1 := blk_frozen BK426.out 1; have hcz48_0 : w45.cell? ⟨gb432, 0, none⟩ = some (.int .i64 t427) := (blk_cell BK432.out 0).trans rfl; have hcz48_1 : w45.cell? ⟨gb432, 1, none⟩ = some (.slice Ao23 t428.length co23) := (blk_cell BK432.out 1).trans rfl; have hfz48_0 := blk_frozen BK432.out 0; have hfz48_1 := blk_frozen BK432.out 1) | (go_at_call 17; (with_reducible refine (r02Same.calls kj12 t421 _ _ t422 t427 _ _ t428 t435 _ ?side1 ?side2 ?side3 ?side4 A44.out).mono ?_); (case side1 => repeat (first | exact (Kd.R_reads' HO_427001.out).2.2 | (with_reducible refine Kd.C_alloc ?_ _) | (with_reducible refine Kd.C_drewN ?_ _) | (with_reducible refine Kd.C_drew ?_))); (case side2 => exact (Kd.R_reads' HO_427001.out).2.1); (case side3 => repeat (first | exact (Kd.R_reads' HO_433001.out).2.2 | (with_reducible refine Kd.C_alloc ?_ _) | (with_reducible refine Kd.C_drewN ?_ _) | (with_reducible refine Kd.C_drew ?_))); (case side4 => exact (Kd.R_reads' HO_433001.out).2.1); rintro e w49 ⟨rfl, hb⟩; have n0_ := Aside0.mk (Kd.R_below (by (with_reducible repeat (first | apply Kd.R_alloc | apply Kd.R_drewN | apply Kd.R_drew)); exact HO_427001.out) hb); have n1_ := Aside0.mk (Kd.R_below (by (with_reducible repeat (first | apply Kd.R_alloc | apply Kd.R_drewN | apply Kd.R_drew)); exact HO_433001.out) hb); have n2_ := Aside0.mk (blk_below (g := gb426) (o := .cells #[.int .i64 t421, .slice Ao17 t422.length co17] 24 (0, 0)) (by (with_reducible repeat (first | refine blk_drewN ?_ _ | refine blk_drew ?_ | refine blk_alloc ?_ _)); exact BK426.out) hb); have n3_ := Aside0.mk (blk_below (g := gb432) (o := .cells #[.int .i64 t427, .slice Ao23 t428.length co23] 24 (0, 0)) (by (with_reducible repeat (first | refine blk_drewN ?_ _ | refine blk_drew ?_ | refine blk_alloc ?_ _)); exact BK432.out) hb); have n4_ := Aside0.mk (below_step (by repeat (first | (with_reducible first | exact HB.out | apply below_alloc | apply pw_below_drewN | apply below_drew1 | refine below_set ?_ GE426.out | refine below_set ?_ GE432.out) | exact HB.out)) hb); clear HO_427001; clear HO_433001; clear BK426; clear BK432; clear HB; have HO_427001 := n0_; have HO_433001 := n1_; have BK426 := n2_; have BK432 := n3_; have HB := n4_; clear n0_ n1_ n2_ n3_ n4_; (try clear hb); (try clear hb2); (try clear hk); (try clear hi)))
                    go_ret
                    exact ⟨by first | rfl | (simp [errW_none, errW_some] <;> rfl) | (simp [*, errW_none, errW_some] <;> rfl), by repeat (first | (with_reducible first | exact HB.out | apply below_alloc | apply pw_below_drewN | apply below_drew1 | refine below_set ?_ GE426.out | refine below_set ?_ GE432.out) | exact HB.out)⟩
                  · rw [if_neg c43] at H
                    have c43b0 : (t425 == t431) = false := beq_eq_false_iff_ne.mpr c43
                    have c43b1 : (t425 != t431) = true := bne_iff_ne.mpr c43
                    exact absurd ((Option.some.inj H).trans hT.out) (by decide)
                · replace c42 := Bool.eq_false_iff.mpr c42
                  subst c42
                  have H1 : (some false) = some r := by rw [if_neg (show ¬ (false = true) by decide)] at H; exact H
                  clear H
                  have H := H1
                  clear H1
                  exact absurd ((Option.some.inj H).trans hT.out) (by decide)
              · replace c40 := Bool.eq_false_iff.mpr c40
                subst c40
                have H1 : (if 0 < (l1.length : Int) then ((bClear.f t421 t422 ((rd_T26 l1 0).f0) ((rd_T26 l1 0).f1)).bind fun bt437 => (if bt437.2.2 = 0 then (l02BitmapOrders.l1 kj12 l1 (wrap64 (Int.tmod a0 1200)) 0 t421 t422 bt437.1 bt437.2.1) else (some false))) else (none)) = some r := by rw [if_neg (show ¬ (false = true) by decide)] at H; exact H
                clear H
                have H := H1
                clear H1
                by_cases c50 : 0 < (l1.length : Int)
                · rw [if_pos c50] at H
                  have c50b0 : decide (0 < (l1.length : Int)) = true := decide_eq_true c50
                  have c50b1 : decide (0 < l1.length) = true := decide_eq_true (by omega)
                  clear c50
                  replace H := Option.bind_eq_some_iff.mp H
                  obtain ⟨⟨t437, t438, t441⟩, A510, H⟩ := H
                  replace H : (if t441 = 0 then (l02BitmapOrders.l1 kj12 l1 (wrap64 (Int.tmod a0 1200)) 0 t421 t422 t437 t438) else (some false)) = some r := H
                  have A51 := Aside0.mk A510
                  clear A510
                  by_cases c52 : t441 = 0
                  · rw [if_pos c52] at H
                    have c52b0 : (t441 == 0) = true := beq_iff_eq.mpr c52
                    have c52b1 : (t441 != 0) = false := bne_eq_false_iff_eq.mpr c52
                    clear c52
                    have H' := Aside0.mk H
                    clear H
                    try go_wp2
                    have n0_ := Aside0.mk (Kd.R_drew HO_427001.out)
                    have n1_ := Aside0.mk (Kd.R_drew HO_433001.out)
                    have n2_ := Aside0.mk (blk_drew BK426.out)
                    have n3_ := Aside0.mk (blk_drew BK432.out)
                    have n4_ := Aside0.mk (below_drew1 HB.out)
                    clear HO_427001
                    clear HO_433001
                    clear BK426
                    clear BK432
                    clear HB
                    have HO_427001 := n0_
                    have HO_433001 := n1_
                    have BK426 := n2_
                    have BK432 := n3_
                    have HB := n4_
                    clear n0_ n1_ n2_ n3_ n4_
                    have p436 : 0 ≤ (0 : Int) := (by omega)
                    have q436 : 0 < (l1.length : Int) := of_decide_eq_true (by first | (with_reducible assumption) | assumption)
                    obtain ⟨ad436, e436, hx436_0, hx436_1⟩ := at_T26 HR1.out 0 p436 q436
                    have hw436_1 := hx436_1
                    (try rw [show ((0 : Int)).toNat = 0 from rfl] at hw436_1)
                    (try rw [show 0 * 2 = 0 from rfl] at hw436_1)
                    (try rw [Addr.add_zero'] at hw436_1)
                    have hw436_0 := hx436_0
                    (try rw [show ((0 : Int)).toNat = 0 from rfl] at hw436_0)
                    (try rw [show 0 * 2 = 0 from rfl] at hw436_0)
                    (try rw [Addr.add_zero'] at hw436_0)
                    cases e436
                    have qi436 : (0 < l1.length) = True := eq_true (by omega)
                    (try rw [show ((0 : Int)).toNat = 0 from rfl] at hx436_0)
                    (try rw [show 0 * 2 = 0 from rfl] at hx436_0)
                    (try rw [Addr.add_zero'] at hx436_0)
                    (try rw [show ((0 : Int)).toNat = 0 from rfl] at hx436_1)
                    (try rw [show 0 * 2 = 0 from rfl] at hx436_1)
                    (try rw [Addr.add_zero'] at hx436_1)
                    replace hx436_0 := (HB.out.cell (World.block_lt_of_cell? w _ hx436_0)).trans hx436_0
                    replace hx436_1 := (HB.out.cell (World.block_lt_of_cell? w _ hx436_1)).trans hx436_1
                    replace p436 := eq_true p436
                    replace q436 := eq_true q436
                    refine start_ (n := 11) (S := fun w' => w'.cell? ⟨gb426, 0, none⟩ = some (.int .i64 t421) ∧ w'.cell? ⟨gb426, 1, none⟩ = some (.slice Ao17 t422.length co17) ∧ w'.cell? ad436 = some (.int .i64 ((rd_T26 l1 0).f0)) ∧ w'.cell? ⟨ad436.block, ad436.off + 1, none⟩ = some (.int .i64 ((rd_T26 l1 0).f1))) (ds := []) #[false, false, false, false, false, false, false, false, false, false, false] (by kernel_rfl) rfl rfl ⟨(blk_cell BK426.out 0).trans rfl, (blk_cell BK426.out 1).trans rfl, ((HB.out.cell (World.block_lt_of_cell? w _ hw436_0)).trans hw436_0), ((HB.out.cell (World.block_lt_of_cell? w _ hw436_1)).trans hw436_1)⟩ (fun hHeld => ?_); refine with_tabW l02BitmapOrders.tab13 l02BitmapOrders.bits13 (fun HT_ HW_ => ?_)
                    generalize wc.drew = w53 at HO_427001 HO_433001 BK426 BK432 HB hx436_0 hx436_1 hHeld ⊢
                    refine pure_ (i := 1) (N := some 80) (v := ?_) (a' := ?_) #[false, true, false, false, false, false, false, false, false, false, false] rfl rfl (any_of HT_.out (by kernel_rfl)) (fun _ _ _ h => h) (Or.inl ⟨by rfl, ?_⟩) ?_ ?_
                    rotate_left
                    · intro w'
                      go_simp
                      with_reducible rfl
                    rotate_left
                    · simp only [Act.put, List.setIfInBounds_toArray, List.set_cons_zero, List.set_cons_succ, i64_w, i32_w]
                      rfl
                    refine pure_ (i := 2) (N := some 81) (v := ?_) (a' := ?_) #[false, true, true, false, false, false, false, false, false, false, false] rfl rfl (any_of HT_.out (by kernel_rfl)) (fun _ _ _ h => h) (Or.inl ⟨by rfl, ?_⟩) ?_ ?_
                    rotate_left
                    · intro w'
                      go_simp
                      with_reducible rfl
                    rotate_left
                    · simp only [Act.put, List.setIfInBounds_toArray, List.set_cons_zero, List.set_cons_succ, i64_w, i32_w]
                      rfl
                    refine take_ (i := 0) (N := some 79) (v := ?_) (a' := ?_) #[true, true, true, false, false, false, false, false, false, false, false] rfl rfl (take_ofW HT_.out HW_.out (by kernel_rfl)) (fun _ _ _ h => h) (Or.inl ⟨by rfl, ?_⟩) hHeld ?_ ?_
                    rotate_left
                    · rintro w' ⟨s0, s1, s2, s3⟩
                      go_simp
                      with_reducible rfl
                    rotate_left
                    · simp only [Act.put, List.setIfInBounds_toArray, List.set_cons_zero, List.set_cons_succ, i64_w, i32_w]
                      rfl
                    refine take_ (i := 3) (N := some 82) (v := ?_) (a' := ?_) #[true, true, true, true, false, false, false, false, false, false, false] rfl rfl (take_ofW HT_.out HW_.out (by kernel_rfl)) (fun _ _ _ h => h) (Or.inl ⟨by rfl, ?_⟩) hHeld ?_ ?_
                    rotate_left
                    · rintro w' ⟨s0, s1, s2, s3⟩
                      go_simp
                      with_reducible rfl
                    rotate_left
                    · simp only [Act.put, List.setIfInBounds_toArray, List.set_cons_zero, List.set_cons_succ, i64_w, i32_w]
                      rfl
                    refine join_ (σ := Value × Nat) 2 #[true, true, true, true, true, true, true, true, true, false, false] (fun s_ => [(83, .tuple #[.agg #[.int .i64 t437, s_.1], .int .i64 t441]), (12, .pointer (some ⟨s_.2, 0, none⟩)), (78, .tuple #[.agg #[.int .i64 t437, s_.1], .int .i64 t441]), (84, .agg #[.int .i64 t437, s_.1]), (85, .int .i64 t441)]) (fun s_ w' => (w'.cell? ⟨gb426, 0, none⟩ = some (.int .i64 t421) ∧ w'.cell? ⟨gb426, 1, none⟩ = some (.slice Ao17 t422.length co17) ∧ w'.cell? ad436 = some (.int .i64 ((rd_T26 l1 0).f0)) ∧ w'.cell? ⟨ad436.block, ad436.off + 1, none⟩ = some (.int .i64 ((rd_T26 l1 0).f1))) ∧ (Kd.R (Kd.int .u64) 55 w' w.heap.size (fun k_ => some k_ ≠ (.slice Ao17 t422.length co17 : Value).ownBlock ∧ some k_ ≠ (.slice Ao23 t428.length co23 : Value).ownBlock) s_.1 t438) ∧ (Kd.R (Kd.int .u64) 55 w' w.heap.size (fun k_ => some k_ ≠ (s_.1 : Value).ownBlock ∧ some k_ ≠ (.slice Ao23 t428.length co23 : Value).ownBlock) (.slice Ao17 t422.length co17) t422) ∧ (Kd.R (Kd.int .u64) 55 w' w.heap.size (fun k_ => some k_ ≠ (s_.1 : Value).ownBlock ∧ some k_ ≠ (.slice Ao17 t422.length co17 : Value).ownBlock) (.slice Ao23 t428.length co23) t428) ∧ (w'.heap[gb426]? = some (.cells #[.int .i64 t421, .slice Ao17 t422.length co17] 24 (0, 0))) ∧ (w'.heap[gb432]? = some (.cells #[.int .i64 t427, .slice Ao23 t428.length co23] 24 (0, 0))) ∧ (w'.heap[s_.2]? = some (.cells #[.int .i64 0, .slice none 0 0] 24 (0, 0))) ∧ (w.heap.size ≤ s_.2) ∧ (w.heap.size ≤ s_.2) ∧ (gb426 ≠ s_.2) ∧ (s_.2 ≠ gb426) ∧ (gb432 ≠ s_.2) ∧ (s_.2 ≠ gb432) ∧ (Below w.heap.size w w')) ?_ ?_
                    rotate_left
                    · intro hCont
                      refine two_ (i := 4) (j := 8) (Ni := some 83) (Nj := some 12) #[true, true, true, true, true, false, false, false, false, false, false] #[true, true, true, true, false, false, false, false, true, false, false] rfl rfl rfl rfl (two_of HT_.out (by kernel_rfl)) (by decide) (by decide) (fun K hK => ?_) (fun K hK => ?_)
                      · skip
                        refine goes_ Tryd.func15 (by kernel_rfl) rfl #[.agg #[.int .i64 t421, .slice Ao17 t422.length co17], .agg #[.int .i64 ((rd_T26 l1 0).f0), .int .i64 ((rd_T26 l1 0).f1)]] (by rfl) rfl rfl (by (try simp only [List.map_toArray, List.map_cons, List.map_nil]); first | done | rfl | (simp only [List.length_drop, List.length_take]; rfl)) ?_
                        with_reducible refine (bClear.calls t421 _ _ t422 ((rd_T26 l1 0).f0) ((rd_T26 l1 0).f1) t437 t438 t441 _ ?side1 ?side2 A51.out).mono ?_
                        (case side1 => repeat (first | exact (Kd.R_reads' HO_427001.out).2.2 | (with_reducible refine Kd.C_alloc ?_ _) | (with_reducible refine Kd.C_drewN ?_ _) | (with_reducible refine Kd.C_drew ?_)))
                        (case side2 => exact (Kd.R_reads' HO_427001.out).2.1)
                        rintro e w54 ⟨v439, rfl, ho0, hb⟩
                        refine ⟨_, rfl, ?_⟩
                        have n0_ := Aside0.mk (Kd.R_elder' (by (with_reducible repeat (first | apply Kd.R_alloc | apply Kd.R_drewN | apply Kd.R_drew)); exact HO_427001.out) (Kd.R_base ho0) hb)
                        have n1_ := Aside0.mk (Kd.R_elder' (by (with_reducible repeat (first | apply Kd.R_alloc | apply Kd.R_drewN | apply Kd.R_drew)); exact HO_433001.out) (Kd.R_base ho0) hb)
                        have n2_ := Aside0.mk (Kd.R_lower (Kd.R_new' (Kd.R_new' ho0 (Kd.R_lt (by (with_reducible repeat (first | apply Kd.R_alloc | apply Kd.R_drewN | apply Kd.R_drew)); exact HO_427001.out))) (Kd.R_lt (by (with_reducible repeat (first | apply Kd.R_alloc | apply Kd.R_drewN | apply Kd.R_drew)); exact HO_433001.out))) (below_size (by repeat (first | (with_reducible first | exact HB.out | apply below_alloc | apply pw_below_drewN | apply below_drew1 | refine below_set ?_ GE426.out | refine below_set ?_ GE432.out) | exact HB.out))))
                        have n3_ := Aside0.mk (blk_below (g := gb426) (o := .cells #[.int .i64 t421, .slice Ao17 t422.length co17] 24 (0, 0)) (by (with_reducible repeat (first | refine blk_drewN ?_ _ | refine blk_drew ?_ | refine blk_alloc ?_ _)); exact BK426.out) hb)
                        have n4_ := Aside0.mk (blk_below (g := gb432) (o := .cells #[.int .i64 t427, .slice Ao23 t428.length co23] 24 (0, 0)) (by (with_reducible repeat (first | refine blk_drewN ?_ _ | refine blk_drew ?_ | refine blk_alloc ?_ _)); exact BK432.out) hb)
                        have n5_ := Aside0.mk (below_step (by repeat (first | (with_reducible first | exact HB.out | apply below_alloc | apply pw_below_drewN | apply below_drew1 | refine below_set ?_ GE426.out | refine below_set ?_ GE432.out) | exact HB.out)) hb)
                        clear HO_427001
                        clear HO_433001
                        clear BK426
                        clear BK432
                        clear HB
                        have HO_427001 := n0_
                        have HO_433001 := n1_
                        have HO440 := n2_
                        have BK426 := n3_
                        have BK432 := n4_
                        have HB := n5_
                        clear n0_ n1_ n2_ n3_ n4_ n5_
                        (try clear hb)
                        (try clear hb2)
                        (try clear hk)
                        (try clear hi)
                        (try clear ho0)
                        refine hK.out _ _ ⟨(blk_cell BK426.out 0).trans rfl, (blk_cell BK426.out 1).trans rfl, ((HB.out.cell (World.block_lt_of_cell? w _ hw436_0)).trans hw436_0), ((HB.out.cell (World.block_lt_of_cell? w _ hw436_1)).trans hw436_1)⟩ (fun hHeld => ?_)
                        clear hK K
                        refine norm_ (a' := ?_) ?_ ?_
                        rotate_left
                        · show Act.put _ (some 83) _ = _
                          simp only [Act.put, List.setIfInBounds_toArray, List.set_cons_zero, List.set_cons_succ, i64_w, i32_w]
                          rfl
                        refine pure_ (i := 5) (N := some 78) (v := ?_) (a' := ?_) #[true, true, true, true, true, true, false, false, false, false, false] rfl rfl (any_of HT_.out (by kernel_rfl)) (fun _ _ _ h => h) (Or.inl ⟨by rfl, ?_⟩) ?_ ?_
                        rotate_left
                        · intro w'
                          go_simp
                          with_reducible rfl
                        rotate_left
                        · simp only [Act.put, List.setIfInBounds_toArray, List.set_cons_zero, List.set_cons_succ, i64_w, i32_w]
                          rfl
                        refine pure_ (i := 6) (N := some 84) (v := ?_) (a' := ?_) #[true, true, true, true, true, true, true, false, false, false, false] rfl rfl (any_of HT_.out (by kernel_rfl)) (fun _ _ _ h => h) (Or.inl ⟨by rfl, ?_⟩) ?_ ?_
                        rotate_left
                        · intro w'
                          go_simp
                          with_reducible rfl
                        rotate_left
                        · simp only [Act.put, List.setIfInBounds_toArray, List.set_cons_zero, List.set_cons_succ, i64_w, i32_w]
                          rfl
                        refine pure_ (i := 7) (N := some 85) (v := ?_) (a' := ?_) #[true, true, true, true, true, true, true, true, false, false, false] rfl rfl (any_of HT_.out (by kernel_rfl)) (fun _ _ _ h => h) (Or.inl ⟨by rfl, ?_⟩) ?_ ?_
                        rotate_left
                        · intro w'
                          go_simp
                          with_reducible rfl
                        rotate_left
                        · simp only [Act.put, List.setIfInBounds_toArray, List.set_cons_zero, List.set_cons_succ, i64_w, i32_w]
                          rfl
                        refine one_ (i := 8) (N := some 12) #[true, true, true, true, true, true, true, true, true, false, false] rfl rfl (one_of HT_.out (by kernel_rfl)) (by decide) (fun K hK => ?_)
                        refine box_step ?hg (N := 12) ?hd (cs := #[.int .i64 0, .slice none 0 0]) (t := 24) ?hr ?_; (case hd => rfl); (case hg => rfl); (case hr => first | (go_simp; done) | (go_simp; rfl))
                        intro gb442 hg w55 hbox hb
                        have n0_ := Aside0.mk (Kd.R_below (by (with_reducible repeat (first | apply Kd.R_alloc | apply Kd.R_drewN | apply Kd.R_drew)); exact HO_427001.out) hb)
                        have n1_ := Aside0.mk (Kd.R_below (by (with_reducible repeat (first | apply Kd.R_alloc | apply Kd.R_drewN | apply Kd.R_drew)); exact HO_433001.out) hb)
                        have n2_ := Aside0.mk (Kd.R_below (by (with_reducible repeat (first | apply Kd.R_alloc | apply Kd.R_drewN | apply Kd.R_drew)); exact HO440.out) hb)
                        have n3_ := Aside0.mk (blk_below (g := gb426) (o := .cells #[.int .i64 t421, .slice Ao17 t422.length co17] 24 (0, 0)) (by (with_reducible repeat (first | refine blk_drewN ?_ _ | refine blk_drew ?_ | refine blk_alloc ?_ _)); exact BK426.out) hb)
                        have n4_ := Aside0.mk (blk_below (g := gb432) (o := .cells #[.int .i64 t427, .slice Ao23 t428.length co23] 24 (0, 0)) (by (with_reducible repeat (first | refine blk_drewN ?_ _ | refine blk_drew ?_ | refine blk_alloc ?_ _)); exact BK432.out) hb)
                        have n5_ := Aside0.mk (below_step (by repeat (first | (with_reducible first | exact HB.out | apply below_alloc | apply pw_below_drewN | apply below_drew1 | refine below_set ?_ GE426.out | refine below_set ?_ GE432.out) | exact HB.out)) hb)
                        have n6_ := Aside0.mk (hbox)
                        have n7_ := Aside0.mk ((by rw [hg]; exact (below_size (by repeat (first | (with_reducible first | exact HB.out | apply below_alloc | apply pw_below_drewN | apply below_drew1 | refine below_set ?_ GE426.out | refine below_set ?_ GE432.out) | exact HB.out))) : w.heap.size ≤ gb442))
                        have n8_ := Aside0.mk ((by rw [hg]; exact (below_size (by repeat (first | (with_reducible first | exact HB.out | apply below_alloc | apply pw_below_drewN | apply below_drew1 | refine below_set ?_ GE426.out | refine below_set ?_ GE432.out) | exact HB.out))) : w.heap.size ≤ gb442))
                        have n9_ := Aside0.mk ((by rw [hg]; exact Nat.ne_of_lt (blk_lt (g := gb426) (o := .cells #[.int .i64 t421, .slice Ao17 t422.length co17] 24 (0, 0)) (by (with_reducible repeat (first | refine blk_drewN ?_ _ | refine blk_drew ?_ | refine blk_alloc ?_ _)); exact BK426.out)) : gb426 ≠ gb442))
                        have n10_ := Aside0.mk ((by rw [hg]; exact Nat.ne_of_gt (blk_lt (g := gb426) (o := .cells #[.int .i64 t421, .slice Ao17 t422.length co17] 24 (0, 0)) (by (with_reducible repeat (first | refine blk_drewN ?_ _ | refine blk_drew ?_ | refine blk_alloc ?_ _)); exact BK426.out)) : gb442 ≠ gb426))
                        have n11_ := Aside0.mk ((by rw [hg]; exact Nat.ne_of_lt (blk_lt (g := gb432) (o := .cells #[.int .i64 t427, .slice Ao23 t428.length co23] 24 (0, 0)) (by (with_reducible repeat (first | refine blk_drewN ?_ _ | refine blk_drew ?_ | refine blk_alloc ?_ _)); exact BK432.out)) : gb432 ≠ gb442))
                        have n12_ := Aside0.mk ((by rw [hg]; exact Nat.ne_of_gt (blk_lt (g := gb432) (o := .cells #[.int .i64 t427, .slice Ao23 t428.length co23] 24 (0, 0)) (by (with_reducible repeat (first | refine blk_drewN ?_ _ | refine blk_drew ?_ | refine blk_alloc ?_ _)); exact BK432.out)) : gb442 ≠ gb432))
                        clear HO_427001
                        clear HO_433001
                        clear HO440
                        clear BK426
                        clear BK432
                        clear HB
                        have HO_427001 := n0_
                        have HO_433001 := n1_
                        have HO440 := n2_
                        have BK426 := n3_
                        have BK432 := n4_
                        have HB := n5_
                        have BK442 := n6_
                        have GW442 := n7_
                        have GE442 := n8_
                        have NB426_442 := n9_
                        have NB442_426 := n10_
                        have NB432_442 := n11_
                        have NB442_432 := n12_
                        clear n0_ n1_ n2_ n3_ n4_ n5_ n6_ n7_ n8_ n9_ n10_ n11_ n12_
                        clear hb hbox hg
                        refine hK.out _ _ ⟨(blk_cell BK426.out 0).trans rfl, (blk_cell BK426.out 1).trans rfl, ((HB.out.cell (World.block_lt_of_cell? w _ hw436_0)).trans hw436_0), ((HB.out.cell (World.block_lt_of_cell? w _ hw436_1)).trans hw436_1)⟩ (fun hHeld => ?_)
                        clear hK K
                        refine norm_ (a' := ?_) ?_ ?_
                        rotate_left
                        · show Act.put _ (some 12) _ = _
                          simp only [Act.put, List.setIfInBounds_toArray, List.set_cons_zero, List.set_cons_succ, i64_w, i32_w]
                          rfl
                        exact norm_ (by simp only [putAll, Act.put, List.setIfInBounds_toArray, List.set_cons_zero, List.set_cons_succ]) (hCont (v439, gb442) _ ⟨hHeld, (by (with_reducible repeat (first | apply Kd.R_alloc | apply Kd.R_drewN | apply Kd.R_drew)); exact Kd.R_mono HO440.out (fun _ hk => by first | exact ⟨hk.1.2, hk.2⟩ | (revert hk; simp only [and_imp]; intros; (repeat' (first | assumption | apply And.intro)); done))), (by (with_reducible repeat (first | apply Kd.R_alloc | apply Kd.R_drewN | apply Kd.R_drew)); exact Kd.R_mono HO_427001.out (fun _ hk => by first | exact ⟨hk.2, hk.1⟩ | (revert hk; simp only [and_imp]; intros; (repeat' (first | assumption | apply And.intro)); done))), (by (with_reducible repeat (first | apply Kd.R_alloc | apply Kd.R_drewN | apply Kd.R_drew)); exact Kd.R_mono HO_433001.out (fun _ hk => by first | exact ⟨hk.2, hk.1⟩ | (revert hk; simp only [and_imp]; intros; (repeat' (first | assumption | apply And.intro)); done))), (by (with_reducible repeat (first | refine blk_drewN ?_ _ | refine blk_drew ?_ | refine blk_alloc ?_ _)); exact BK426.out), (by (with_reducible repeat (first | refine blk_drewN ?_ _ | refine blk_drew ?_ | refine blk_alloc ?_ _)); exact BK432.out), (by (with_reducible repeat (first | refine blk_drewN ?_ _ | refine blk_drew ?_ | refine blk_alloc ?_ _)); exact BK442.out), GW442.out, GE442.out, NB426_442.out, NB442_426.out, NB432_442.out, NB442_432.out, (by repeat (first | (with_reducible first | exact HB.out | apply below_alloc | apply pw_below_drewN | apply below_drew1 | refine below_set ?_ GE426.out | refine below_set ?_ GE432.out | refine below_set ?_ GE442.out) | exact HB.out))⟩)
                      · skip
                        refine box_step ?hg (N := 12) ?hd (cs := #[.int .i64 0, .slice none 0 0]) (t := 24) ?hr ?_; (case hd => rfl); (case hg => rfl); (case hr => first | (go_simp; done) | (go_simp; rfl))
                        intro gb442 hg w54 hbox hb
                        have n0_ := Aside0.mk (Kd.R_below (by (with_reducible repeat (first | apply Kd.R_alloc | apply Kd.R_drewN | apply Kd.R_drew)); exact HO_427001.out) hb)
                        have n1_ := Aside0.mk (Kd.R_below (by (with_reducible repeat (first | apply Kd.R_alloc | apply Kd.R_drewN | apply Kd.R_drew)); exact HO_433001.out) hb)
                        have n2_ := Aside0.mk (blk_below (g := gb426) (o := .cells #[.int .i64 t421, .slice Ao17 t422.length co17] 24 (0, 0)) (by (with_reducible repeat (first | refine blk_drewN ?_ _ | refine blk_drew ?_ | refine blk_alloc ?_ _)); exact BK426.out) hb)
                        have n3_ := Aside0.mk (blk_below (g := gb432) (o := .cells #[.int .i64 t427, .slice Ao23 t428.length co23] 24 (0, 0)) (by (with_reducible repeat (first | refine blk_drewN ?_ _ | refine blk_drew ?_ | refine blk_alloc ?_ _)); exact BK432.out) hb)
                        have n4_ := Aside0.mk (below_step (by repeat (first | (with_reducible first | exact HB.out | apply below_alloc | apply pw_below_drewN | apply below_drew1 | refine below_set ?_ GE426.out | refine below_set ?_ GE432.out) | exact HB.out)) hb)
                        have n5_ := Aside0.mk (hbox)
                        have n6_ := Aside0.mk ((by rw [hg]; exact (below_size (by repeat (first | (with_reducible first | exact HB.out | apply below_alloc | apply pw_below_drewN | apply below_drew1 | refine below_set ?_ GE426.out | refine below_set ?_ GE432.out) | exact HB.out))) : w.heap.size ≤ gb442))
                        have n7_ := Aside0.mk ((by rw [hg]; exact (below_size (by repeat (first | (with_reducible first | exact HB.out | apply below_alloc | apply pw_below_drewN | apply below_drew1 | refine below_set ?_ GE426.out | refine below_set ?_ GE432.out) | exact HB.out))) : w.heap.size ≤ gb442))
                        have n8_ := Aside0.mk ((by rw [hg]; exact Nat.ne_of_lt (blk_lt (g := gb426) (o := .cells #[.int .i64 t421, .slice Ao17 t422.length co17] 24 (0, 0)) (by (with_reducible repeat (first | refine blk_drewN ?_ _ | refine blk_drew ?_ | refine blk_alloc ?_ _)); exact BK426.out)) : gb426 ≠ gb442))
                        have n9_ := Aside0.mk ((by rw [hg]; exact Nat.ne_of_gt (blk_lt (g := gb426) (o := .cells #[.int .i64 t421, .slice Ao17 t422.length co17] 24 (0, 0)) (by (with_reducible repeat (first | refine blk_drewN ?_ _ | refine blk_drew ?_ | refine blk_alloc ?_ _)); exact BK426.out)) : gb442 ≠ gb426))
                        have n10_ := Aside0.mk ((by rw [hg]; exact Nat.ne_of_lt (blk_lt (g := gb432) (o := .cells #[.int .i64 t427, .slice Ao23 t428.length co23] 24 (0, 0)) (by (with_reducible repeat (first | refine blk_drewN ?_ _ | refine blk_drew ?_ | refine blk_alloc ?_ _)); exact BK432.out)) : gb432 ≠ gb442))
                        have n11_ := Aside0.mk ((by rw [hg]; exact Nat.ne_of_gt (blk_lt (g := gb432) (o := .cells #[.int .i64 t427, .slice Ao23 t428.length co23] 24 (0, 0)) (by (with_reducible repeat (first | refine blk_drewN ?_ _ | refine blk_drew ?_ | refine blk_alloc ?_ _)); exact BK432.out)) : gb442 ≠ gb432))
                        clear HO_427001
                        clear HO_433001
                        clear BK426
                        clear BK432
                        clear HB
                        have HO_427001 := n0_
                        have HO_433001 := n1_
                        have BK426 := n2_
                        have BK432 := n3_
                        have HB := n4_
                        have BK442 := n5_
                        have GW442 := n6_
                        have GE442 := n7_
                        have NB426_442 := n8_
                        have NB442_426 := n9_
                        have NB432_442 := n10_
                        have NB442_432 := n11_
                        clear n0_ n1_ n2_ n3_ n4_ n5_ n6_ n7_ n8_ n9_ n10_ n11_
                        clear hb hbox hg
                        refine hK.out _ _ ⟨(blk_cell BK426.out 0).trans rfl, (blk_cell BK426.out 1).trans rfl, ((HB.out.cell (World.block_lt_of_cell? w _ hw436_0)).trans hw436_0), ((HB.out.cell (World.block_lt_of_cell? w _ hw436_1)).trans hw436_1)⟩ (fun hHeld => ?_)
                        clear hK K
                        refine norm_ (a' := ?_) ?_ ?_
                        rotate_left
                        · show Act.put _ (some 12) _ = _
                          simp only [Act.put, List.setIfInBounds_toArray, List.set_cons_zero, List.set_cons_succ, i64_w, i32_w]
                          rfl
                        refine one_ (i := 4) (N := some 83) #[true, true, true, true, true, false, false, false, true, false, false] rfl rfl (one_of HT_.out (by kernel_rfl)) (by decide) (fun K hK => ?_)
                        refine goes_ Tryd.func15 (by kernel_rfl) rfl #[.agg #[.int .i64 t421, .slice Ao17 t422.length co17], .agg #[.int .i64 ((rd_T26 l1 0).f0), .int .i64 ((rd_T26 l1 0).f1)]] (by rfl) rfl rfl (by (try simp only [List.map_toArray, List.map_cons, List.map_nil]); first | done | rfl | (simp only [List.length_drop, List.length_take]; rfl)) ?_
                        with_reducible refine (bClear.calls t421 _ _ t422 ((rd_T26 l1 0).f0) ((rd_T26 l1 0).f1) t437 t438 t441 _ ?side1 ?side2 A51.out).mono ?_
                        (case side1 => repeat (first | exact (Kd.R_reads' HO_427001.out).2.2 | (with_reducible refine Kd.C_alloc ?_ _) | (with_reducible refine Kd.C_drewN ?_ _) | (with_reducible refine Kd.C_drew ?_)))
                        (case side2 => exact (Kd.R_reads' HO_427001.out).2.1)
                        rintro e w55 ⟨v439, rfl, ho0, hb⟩
                        refine ⟨_, rfl, ?_⟩
                        have n0_ := Aside0.mk (Kd.R_elder' (by (with_reducible repeat (first | apply Kd.R_alloc | apply Kd.R_drewN | apply Kd.R_drew)); exact HO_427001.out) (Kd.R_base ho0) hb)
                        have n1_ := Aside0.mk (Kd.R_elder' (by (with_reducible repeat (first | apply Kd.R_alloc | apply Kd.R_drewN | apply Kd.R_drew)); exact HO_433001.out) (Kd.R_base ho0) hb)
                        have n2_ := Aside0.mk (Kd.R_lower (Kd.R_new' (Kd.R_new' ho0 (Kd.R_lt (by (with_reducible repeat (first | apply Kd.R_alloc | apply Kd.R_drewN | apply Kd.R_drew)); exact HO_427001.out))) (Kd.R_lt (by (with_reducible repeat (first | apply Kd.R_alloc | apply Kd.R_drewN | apply Kd.R_drew)); exact HO_433001.out))) (below_size (by repeat (first | (with_reducible first | exact HB.out | apply below_alloc | apply pw_below_drewN | apply below_drew1 | refine below_set ?_ GE426.out | refine below_set ?_ GE432.out | refine below_set ?_ GE442.out) | exact HB.out))))
                        have n3_ := Aside0.mk (blk_below (g := gb426) (o := .cells #[.int .i64 t421, .slice Ao17 t422.length co17] 24 (0, 0)) (by (with_reducible repeat (first | refine blk_drewN ?_ _ | refine blk_drew ?_ | refine blk_alloc ?_ _)); exact BK426.out) hb)
                        have n4_ := Aside0.mk (blk_below (g := gb432) (o := .cells #[.int .i64 t427, .slice Ao23 t428.length co23] 24 (0, 0)) (by (with_reducible repeat (first | refine blk_drewN ?_ _ | refine blk_drew ?_ | refine blk_alloc ?_ _)); exact BK432.out) hb)
                        have n5_ := Aside0.mk (blk_below (g := gb442) (o := .cells #[.int .i64 0, .slice none 0 0] 24 (0, 0)) (by (with_reducible repeat (first | refine blk_drewN ?_ _ | refine blk_drew ?_ | refine blk_alloc ?_ _)); exact BK442.out) hb)
                        have n6_ := Aside0.mk (below_step (by repeat (first | (with_reducible first | exact HB.out | apply below_alloc | apply pw_below_drewN | apply below_drew1 | refine below_set ?_ GE426.out | refine below_set ?_ GE432.out | refine below_set ?_ GE442.out) | exact HB.out)) hb)
                        clear HO_427001
                        clear HO_433001
                        clear BK426
                        clear BK432
                        clear BK442
                        clear HB
                        have HO_427001 := n0_
                        have HO_433001 := n1_
                        have HO440 := n2_
                        have BK426 := n3_
                        have BK432 := n4_
                        have BK442 := n5_
                        have HB := n6_
                        clear n0_ n1_ n2_ n3_ n4_ n5_ n6_
                        (try clear hb)
                        (try clear hb2)
                        (try clear hk)
                        (try clear hi)
                        (try clear ho0)
                        refine hK.out _ _ ⟨(blk_cell BK426.out 0).trans rfl, (blk_cell BK426.out 1).trans rfl, ((HB.out.cell (World.block_lt_of_cell? w _ hw436_0)).trans hw436_0), ((HB.out.cell (World.block_lt_of_cell? w _ hw436_1)).trans hw436_1)⟩ (fun hHeld => ?_)
                        clear hK K
                        refine norm_ (a' := ?_) ?_ ?_
                        rotate_left
                        · show Act.put _ (some 83) _ = _
                          simp only [Act.put, List.setIfInBounds_toArray, List.set_cons_zero, List.set_cons_succ, i64_w, i32_w]
                          rfl
                        refine pure_ (i := 5) (N := some 78) (v := ?_) (a' := ?_) #[true, true, true, true, true, true, false, false, true, false, false] rfl rfl (any_of HT_.out (by kernel_rfl)) (fun _ _ _ h => h) (Or.inl ⟨by rfl, ?_⟩) ?_ ?_
                        rotate_left
                        · intro w'
                          go_simp
                          with_reducible rfl
                        rotate_left
                        · simp only [Act.put, List.setIfInBounds_toArray, List.set_cons_zero, List.set_cons_succ, i64_w, i32_w]
                          rfl
                        refine pure_ (i := 6) (N := some 84) (v := ?_) (a' := ?_) #[true, true, true, true, true, true, true, false, true, false, false] rfl rfl (any_of HT_.out (by kernel_rfl)) (fun _ _ _ h => h) (Or.inl ⟨by rfl, ?_⟩) ?_ ?_
                        rotate_left
                        · intro w'
                          go_simp
                          with_reducible rfl
                        rotate_left
                        · simp only [Act.put, List.setIfInBounds_toArray, List.set_cons_zero, List.set_cons_succ, i64_w, i32_w]
                          rfl
                        refine pure_ (i := 7) (N := some 85) (v := ?_) (a' := ?_) #[true, true, true, true, true, true, true, true, true, false, false] rfl rfl (any_of HT_.out (by kernel_rfl)) (fun _ _ _ h => h) (Or.inl ⟨by rfl, ?_⟩) ?_ ?_
                        rotate_left
                        · intro w'
                          go_simp
                          with_reducible rfl
                        rotate_left
                        · simp only [Act.put, List.setIfInBounds_toArray, List.set_cons_zero, List.set_cons_succ, i64_w, i32_w]
                          rfl
                        exact norm_ (by simp only [putAll, Act.put, List.setIfInBounds_toArray, List.set_cons_zero, List.set_cons_succ]) (hCont (v439, gb442) _ ⟨hHeld, (by (with_reducible repeat (first | apply Kd.R_alloc | apply Kd.R_drewN | apply Kd.R_drew)); exact Kd.R_mono HO440.out (fun _ hk => by first | exact ⟨hk.1.2, hk.2⟩ | (revert hk; simp only [and_imp]; intros; (repeat' (first | assumption | apply And.intro)); done))), (by (with_reducible repeat (first | apply Kd.R_alloc | apply Kd.R_drewN | apply Kd.R_drew)); exact Kd.R_mono HO_427001.out (fun _ hk => by first | exact ⟨hk.2, hk.1⟩ | (revert hk; simp only [and_imp]; intros; (repeat' (first | assumption | apply And.intro)); done))), (by (with_reducible repeat (first | apply Kd.R_alloc | apply Kd.R_drewN | apply Kd.R_drew)); exact Kd.R_mono HO_433001.out (fun _ hk => by first | exact ⟨hk.2, hk.1⟩ | (revert hk; simp only [and_imp]; intros; (repeat' (first | assumption | apply And.intro)); done))), (by (with_reducible repeat (first | refine blk_drewN ?_ _ | refine blk_drew ?_ | refine blk_alloc ?_ _)); exact BK426.out), (by (with_reducible repeat (first | refine blk_drewN ?_ _ | refine blk_drew ?_ | refine blk_alloc ?_ _)); exact BK432.out), (by (with_reducible repeat (first | refine blk_drewN ?_ _ | refine blk_drew ?_ | refine blk_alloc ?_ _)); exact BK442.out), GW442.out, GE442.out, NB426_442.out, NB442_426.out, NB432_442.out, NB442_432.out, (by repeat (first | (with_reducible first | exact HB.out | apply below_alloc | apply pw_below_drewN | apply below_drew1 | refine below_set ?_ GE426.out | refine below_set ?_ GE432.out | refine below_set ?_ GE442.out) | exact HB.out))⟩)
                    rintro ⟨v439, gb442⟩ w56 ⟨hS_, h0_, h1_, h2_, h3_, h4_, h5_, h6_, h7_, h8_, h9_, h10_, h11_, h12_⟩
                    have n0_ : Aside0 (Kd.R (Kd.int .u64) 55 w56 w.heap.size (fun k_ => some k_ ≠ (.slice Ao17 t422.length co17 : Value).ownBlock ∧ some k_ ≠ (.slice Ao23 t428.length co23 : Value).ownBlock) v439 t438) := ⟨h0_⟩
                    have n1_ : Aside0 (Kd.R (Kd.int .u64) 55 w56 w.heap.size (fun k_ => some k_ ≠ (v439 : Value).ownBlock ∧ some k_ ≠ (.slice Ao23 t428.length co23 : Value).ownBlock) (.slice Ao17 t422.length co17) t422) := ⟨h1_⟩
                    have n2_ : Aside0 (Kd.R (Kd.int .u64) 55 w56 w.heap.size (fun k_ => some k_ ≠ (v439 : Value).ownBlock ∧ some k_ ≠ (.slice Ao17 t422.length co17 : Value).ownBlock) (.slice Ao23 t428.length co23) t428) := ⟨h2_⟩
                    have n3_ : Aside0 (w56.heap[gb426]? = some (.cells #[.int .i64 t421, .slice Ao17 t422.length co17] 24 (0, 0))) := ⟨h3_⟩
                    have n4_ : Aside0 (w56.heap[gb432]? = some (.cells #[.int .i64 t427, .slice Ao23 t428.length co23] 24 (0, 0))) := ⟨h4_⟩
                    have n5_ : Aside0 (w56.heap[gb442]? = some (.cells #[.int .i64 0, .slice none 0 0] 24 (0, 0))) := ⟨h5_⟩
                    have n6_ : Aside0 (w.heap.size ≤ gb442) := ⟨h6_⟩
                    have n7_ : Aside0 (w.heap.size ≤ gb442) := ⟨h7_⟩
                    have n8_ : Aside0 (gb426 ≠ gb442) := ⟨h8_⟩
                    have n9_ : Aside0 (gb442 ≠ gb426) := ⟨h9_⟩
                    have n10_ : Aside0 (gb432 ≠ gb442) := ⟨h10_⟩
                    have n11_ : Aside0 (gb442 ≠ gb432) := ⟨h11_⟩
                    have n12_ : Aside0 (Below w.heap.size w w56) := ⟨h12_⟩
                    clear HO_427001
                    clear HO_433001
                    clear BK426
                    clear BK432
                    clear HB
                    clear h0_ h1_ h2_ h3_ h4_ h5_ h6_ h7_ h8_ h9_ h10_ h11_ h12_
                    have HO440 := n0_
                    have HO_427001 := n1_
                    have HO_433001 := n2_
                    have BK426 := n3_
                    have BK432 := n4_
                    have BK442 := n5_
                    have GW442 := n6_
                    have GE442 := n7_
                    have NB426_442 := n8_
                    have NB442_426 := n9_
                    have NB432_442 := n10_
                    have NB442_432 := n11_
                    have HB := n12_
                    clear n0_ n1_ n2_ n3_ n4_ n5_ n6_ n7_ n8_ n9_ n10_ n11_ n12_
                    have hHeld : w56.cell? ⟨gb426, 0, none⟩ = some (.int .i64 t421) ∧ w56.cell? ⟨gb426, 1, none⟩ = some (.slice Ao17 t422.length co17) ∧ w56.cell? ad436 = some (.int .i64 ((rd_T26 l1 0).f0)) ∧ w56.cell? ⟨ad436.block, ad436.off + 1, none⟩ = some (.int .i64 ((rd_T26 l1 0).f1)) := hS_
                    obtain ⟨Ao58, co58, eo58⟩ := Kd.R_slice HO440.out
                    (first | subst eo58 | (injection eo58 with f1_ f2_ f3_; have f4_ := f1_.symm; have f5_ := f3_.symm; clear f1_ f2_ f3_; subst f4_; subst f5_))
                    refine norm_ (a' := ?_) ?_ ?_
                    rotate_left
                    · simp only [putAll, Act.put, List.setIfInBounds_toArray, List.set_cons_zero, List.set_cons_succ]
                      rfl
                    refine one_ (i := 9) (N := none) #[true, true, true, true, true, true, true, true, true, true, false] rfl rfl (one_of HT_.out (by kernel_rfl)) (by decide) (fun K hK => ?_)
                    have hs57 : w56.cell? ⟨gb442, 0, none⟩ = some (.int .i64 0) := (blk_cell BK442.out 0).trans rfl
                    have hfs57 := blk_frozen BK442.out 0
                    have hns57_0 := NB426_442.out
                    have hns57_1 := NB432_442.out
                    have hms57_0 := NB442_426.out
                    have hms57_1 := NB442_432.out
                    have hs59 : w56.cell? ⟨gb442, 1, none⟩ = some (.slice none 0 0) := (blk_cell BK442.out 1).trans rfl
                    have hfs59 := blk_frozen BK442.out 1
                    have hns59_0 := NB426_442.out
                    have hns59_1 := NB432_442.out
                    have hms59_0 := NB442_426.out
                    have hms59_1 := NB442_432.out
                    refine skip_ (w1 := ?_) (by rfl) rfl ?_ ?_
                    rotate_left
                    · go_simp
                      rfl
                    refine hK.out _ _ ⟨((cell_far (p := ⟨gb442, _, none⟩) NB426_442.out _).trans (((cell_far (p := ⟨gb442, _, none⟩) NB426_442.out _).trans (hHeld.1)))), ((cell_far (p := ⟨gb442, _, none⟩) NB426_442.out _).trans (((cell_far (p := ⟨gb442, _, none⟩) NB426_442.out _).trans (hHeld.2.1)))), ((cell_far (p := ⟨gb442, _, none⟩) (by first | exact Nat.ne_of_lt (Nat.lt_of_lt_of_le (by have := World.block_lt_of_cell? _ _ hw436_0; first | rwa [add_block] at this | exact this) GW442.out) | (rw [add_block]; exact Nat.ne_of_lt (Nat.lt_of_lt_of_le (by have := World.block_lt_of_cell? _ _ hw436_0; first | rwa [add_block] at this | exact this) GW442.out)) | (show (Addr.add _ _).block ≠ _; rw [add_block]; exact Nat.ne_of_lt (Nat.lt_of_lt_of_le (by have := World.block_lt_of_cell? _ _ hw436_0; first | rwa [add_block] at this | exact this) GW442.out)) | (dsimp only; exact Nat.ne_of_lt (Nat.lt_of_lt_of_le (by have := World.block_lt_of_cell? _ _ hw436_0; first | rwa [add_block] at this | exact this) GW442.out))) _).trans (((cell_far (p := ⟨gb442, _, none⟩) (by first | exact Nat.ne_of_lt (Nat.lt_of_lt_of_le (by have := World.block_lt_of_cell? _ _ hw436_0; first | rwa [add_block] at this | exact this) GW442.out) | (rw [add_block]; exact Nat.ne_of_lt (Nat.lt_of_lt_of_le (by have := World.block_lt_of_cell? _ _ hw436_0; first | rwa [add_block] at this | exact this) GW442.out)) | (show (Addr.add _ _).block ≠ _; rw [add_block]; exact Nat.ne_of_lt (Nat.lt_of_lt_of_le (by have := World.block_lt_of_cell? _ _ hw436_0; first | rwa [add_block] at this | exact this) GW442.out)) | (dsimp only; exact Nat.ne_of_lt (Nat.lt_of_lt_of_le (by have := World.block_lt_of_cell? _ _ hw436_0; first | rwa [add_block] at this | exact this) GW442.out))) _).trans (hHeld.2.2.1)))), ((cell_far (p := ⟨gb442, _, none⟩) (by first | exact Nat.ne_of_lt (Nat.lt_of_lt_of_le (by have := World.block_lt_of_cell? _ _ hw436_1; first | rwa [add_block] at this | exact this) GW442.out) | (rw [add_block]; exact Nat.ne_of_lt (Nat.lt_of_lt_of_le (by have := World.block_lt_of_cell? _ _ hw436_1; first | rwa [add_block] at this | exact this) GW442.out)) | (show (Addr.add _ _).block ≠ _; rw [add_block]; exact Nat.ne_of_lt (Nat.lt_of_lt_of_le (by have := World.block_lt_of_cell? _ _ hw436_1; first | rwa [add_block] at this | exact this) GW442.out)) | (dsimp only; exact Nat.ne_of_lt (Nat.lt_of_lt_of_le (by have := World.block_lt_of_cell? _ _ hw436_1; first | rwa [add_block] at this | exact this) GW442.out))) _).trans (((cell_far (p := ⟨gb442, _, none⟩) (by first | exact Nat.ne_of_lt (Nat.lt_of_lt_of_le (by have := World.block_lt_of_cell? _ _ hw436_1; first | rwa [add_block] at this | exact this) GW442.out) | (rw [add_block]; exact Nat.ne_of_lt (Nat.lt_of_lt_of_le (by have := World.block_lt_of_cell? _ _ hw436_1; first | rwa [add_block] at this | exact this) GW442.out)) | (show (Addr.add _ _).block ≠ _; rw [add_block]; exact Nat.ne_of_lt (Nat.lt_of_lt_of_le (by have := World.block_lt_of_cell? _ _ hw436_1; first | rwa [add_block] at this | exact this) GW442.out)) | (dsimp only; exact Nat.ne_of_lt (Nat.lt_of_lt_of_le (by have := World.block_lt_of_cell? _ _ hw436_1; first | rwa [add_block] at this | exact this) GW442.out))) _).trans (hHeld.2.2.2))))⟩ (fun hHeld => ?_)
                    clear hK K
                    refine pure_ (i := 10) (N := some 13) (v := ?_) (a' := ?_) #[true, true, true, true, true, true, true, true, true, true, true] rfl rfl (any_of HT_.out (by kernel_rfl)) (fun _ _ _ h => h) (Or.inl ⟨by rfl, ?_⟩) ?_ ?_
                    rotate_left
                    · intro w'
                      go_simp
                      with_reducible rfl
                    rotate_left
                    · simp only [Act.put, List.setIfInBounds_toArray, List.set_cons_zero, List.set_cons_succ, i64_w, i32_w]
                      rfl
                    refine done_ (done_of HT_.out (by kernel_rfl)) ?_
                    try go_wp2
                    go_loopg [14] kj12 (fun kq v14 w' => ∃ (x14_3 : Int), v14 = .int .i64 x14_3 ∧ Aside0 (l02BitmapOrders.l1 kq l1 (wrap64 (Int.tmod a0 1200)) x14_3 t421 t422 t437 t438 = some r) ∧ Aside0 (kq ≤ kj12) ∧ Aside0 (Kd.R (Kd.int .u64) 55 w' w.heap.size (fun k_ => some k_ ≠ ((.slice Ao23 t428.length co23) : Value).ownBlock ∧ some k_ ≠ ((.slice Ao58 t438.length co58) : Value).ownBlock) (.slice Ao17 t422.length co17) t422) ∧ Aside0 (Kd.R (Kd.int .u64) 55 w' w.heap.size (fun k_ => some k_ ≠ ((.slice Ao17 t422.length co17) : Value).ownBlock ∧ some k_ ≠ ((.slice Ao58 t438.length co58) : Value).ownBlock) (.slice Ao23 t428.length co23) t428) ∧ Aside0 (Kd.R (Kd.int .u64) 55 w' w.heap.size (fun k_ => some k_ ≠ ((.slice Ao17 t422.length co17) : Value).ownBlock ∧ some k_ ≠ ((.slice Ao23 t428.length co23) : Value).ownBlock) (.slice Ao58 t438.length co58) t438) ∧ Aside0 (w'.heap[gb426]? = some (.cells #[.int .i64 t421, (.slice Ao17 t422.length co17)] 24 (0, 0))) ∧ Aside0 (w'.heap[gb432]? = some (.cells #[.int .i64 t427, (.slice Ao23 t428.length co23)] 24 (0, 0))) ∧ Aside0 (w'.heap[gb442]? = some (.cells #[.int .i64 t437, (.slice Ao58 t438.length co58)] 24 (0, 0))) ∧ Aside0 (Below w.heap.size w w'))
                    case atStart => exact ⟨(0), (by first | rfl | (simp; done) | (simp [*]; done)), H', ⟨Nat.le_refl _⟩, ⟨by (with_reducible repeat (first | apply Kd.R_alloc | apply Kd.R_drewN | apply Kd.R_drew)); exact Kd.R_mono (Kd.R_far (p := ⟨gb442, 1, none⟩) (Kd.R_far (p := ⟨gb442, 0, none⟩) (Kd.R_types HO_427001.out BK442.out (by decide)) (fun _ hk => hk.2) (.int .i64 t437)) (fun _ hk => hk.2) (.slice Ao58 t438.length co58)) (fun _ hk => by first | exact ⟨hk.1.2, hk.1.1⟩ | (revert hk; simp only [and_imp]; intros; (repeat' (first | assumption | apply And.intro)); done))⟩, ⟨by (with_reducible repeat (first | apply Kd.R_alloc | apply Kd.R_drewN | apply Kd.R_drew)); exact Kd.R_mono (Kd.R_far (p := ⟨gb442, 1, none⟩) (Kd.R_far (p := ⟨gb442, 0, none⟩) (Kd.R_types HO_433001.out BK442.out (by decide)) (fun _ hk => hk.2) (.int .i64 t437)) (fun _ hk => hk.2) (.slice Ao58 t438.length co58)) (fun _ hk => by first | exact ⟨hk.1.2, hk.1.1⟩ | (revert hk; simp only [and_imp]; intros; (repeat' (first | assumption | apply And.intro)); done))⟩, ⟨by (with_reducible repeat (first | apply Kd.R_alloc | apply Kd.R_drewN | apply Kd.R_drew)); exact Kd.R_mono (Kd.R_far (p := ⟨gb442, 1, none⟩) (Kd.R_far (p := ⟨gb442, 0, none⟩) (Kd.R_types HO440.out BK442.out (by decide)) (fun _ hk => hk.2) (.int .i64 t437)) (fun _ hk => hk.2) (.slice Ao58 t438.length co58)) (fun _ hk => by first | exact ⟨hk.1.1, hk.1.2⟩ | (revert hk; simp only [and_imp]; intros; (repeat' (first | assumption | apply And.intro)); done))⟩, ⟨by (with_reducible repeat (first | refine blk_drewN ?_ _ | refine blk_drew ?_ | refine blk_alloc ?_ _)); refine blk_far ?_ NB426_442.out _; (with_reducible repeat (first | refine blk_drewN ?_ _ | refine blk_drew ?_ | refine blk_alloc ?_ _)); refine blk_far ?_ NB426_442.out _; (with_reducible repeat (first | refine blk_drewN ?_ _ | refine blk_drew ?_ | refine blk_alloc ?_ _)); exact BK426.out⟩, ⟨by (with_reducible repeat (first | refine blk_drewN ?_ _ | refine blk_drew ?_ | refine blk_alloc ?_ _)); refine blk_far ?_ NB432_442.out _; (with_reducible repeat (first | refine blk_drewN ?_ _ | refine blk_drew ?_ | refine blk_alloc ?_ _)); refine blk_far ?_ NB432_442.out _; (with_reducible repeat (first | refine blk_drewN ?_ _ | refine blk_drew ?_ | refine blk_alloc ?_ _)); exact BK432.out⟩, ⟨by (with_reducible repeat (first | refine blk_drewN ?_ _ | refine blk_drew ?_ | refine blk_alloc ?_ _)); refine blk_put (cs := #[.int .i64 t437, .slice none 0 0]) ?_ 1 _ rfl; (with_reducible repeat (first | refine blk_drewN ?_ _ | refine blk_drew ?_ | refine blk_alloc ?_ _)); refine blk_put (cs := #[.int .i64 0, .slice none 0 0]) ?_ 0 _ rfl; (with_reducible repeat (first | refine blk_drewN ?_ _ | refine blk_drew ?_ | refine blk_alloc ?_ _)); exact BK442.out⟩, ⟨by repeat (first | (with_reducible first | exact HB.out | apply below_alloc | apply pw_below_drewN | apply below_drew1 | refine below_set ?_ GE426.out | refine below_set ?_ GE432.out | refine below_set ?_ GE442.out) | exact HB.out)⟩⟩
                    case round =>
                      clear H'
                      try clear c1
                      try clear c2
                      try clear p2
                      try clear c3
                      try clear c3b0
                      try clear c3b1
                      try clear c4
                      try clear p4
                      try clear q4
                      try clear hx4
                      try clear qi4
                      try clear c5
                      try clear c6
                      try clear c6b0
                      try clear p6
                      try clear c7
                      try clear c7b0
                      try clear c8
                      try clear c8b0
                      try clear c9
                      try clear c12
                      try clear c15
                      try clear c21
                      try clear c24
                      try clear c24b0
                      try clear c24b1
                      try clear c26
                      try clear c27
                      try clear c27b0
                      try clear c27b1
                      try clear c28
                      try clear c32
                      try clear c36
                      try clear c40
                      try clear p41
                      try clear q41
                      try clear hx41
                      try clear c42
                      try clear c43
                      try clear c43b0
                      try clear c43b1
                      try clear p43
                      try clear q43
                      try clear hx43
                      try clear qi43
                      try clear c46
                      try clear c50
                      try clear c50b0
                      try clear c50b1
                      try clear c52
                      try clear c52b0
                      try clear c52b1
                      try clear hcz16_0
                      try clear hcz16_1
                      try clear hcz22_0
                      try clear hcz22_1
                      try clear hcz29_0
                      try clear hcz29_1
                      try clear hcz30_0
                      try clear hcz30_1
                      try clear hcz33_0
                      try clear hcz33_1
                      try clear hcz34_0
                      try clear hcz34_1
                      try clear hcz37_0
                      try clear hcz37_1
                      try clear hcz38_0
                      try clear hcz38_1
                      try clear hcz47_0
                      try clear hcz47_1
                      try clear hcz48_0
                      try clear hcz48_1
                      try clear hfz16_0
                      try clear hfz16_1
                      try clear hfz22_0
                      try clear hfz22_1
                      try clear hfz29_0
                      try clear hfz29_1
                      try clear hfz30_0
                      try clear hfz30_1
                      try clear hfz33_0
                      try clear hfz33_1
                      try clear hfz34_0
                      try clear hfz34_1
                      try clear hfz37_0
                      try clear hfz37_1
                      try clear hfz38_0
                      try clear hfz38_1
                      try clear hfz47_0
                      try clear hfz47_1
                      try clear hfz48_0
                      try clear hfz48_1
                      try clear hx417_0
                      try clear hx417_1
                      try clear hx436_0
                      try clear hx436_1
                      try clear p2
                      try clear p4
                      try clear p417
                      try clear p436
                      try clear p6
                      try clear q4
                      try clear q417
                      try clear q436
                      obtain ⟨x14_3, rfl, HA, HK3, HO_427001, HO_433001, HO_443001, BK426, BK432, BK442, HB⟩ := hrel
                      cases gk with
                      | zero => exact absurd HA.out (by simp [l02BitmapOrders.l1])
                      | succ k3 =>
                        have H := HA.out
                        clear HA
                        simp only [l02BitmapOrders.l1] at H
                        by_cases c60 : x14_3 < (wrap64 (Int.tmod a0 1200))
                        · rw [if_pos c60] at H
                          have c60b0 : decide (x14_3 < (wrap64 (Int.tmod a0 1200))) = true := decide_eq_true c60
                          clear c60
                          have HC61 := Aside0.mk H
                          clear H
                          go_upto_region 19 with (fail)
                          go_cut [15] (fun v15 wc => ∃ (kq : Nat) (x15_60 : Bool), v15 = .bool x15_60 ∧ Aside0 (l02BitmapOrders.j3 kq l1 (wrap64 (Int.tmod a0 1200)) x14_3 x15_60 t421 t422 t437 t438 = some r) ∧ Aside0 (kq ≤ k3) ∧ Aside0 (Kd.R (Kd.int .u64) 55 wc w.heap.size (fun k_ => some k_ ≠ ((.slice Ao23 t428.length co23) : Value).ownBlock ∧ some k_ ≠ ((.slice Ao58 t438.length co58) : Value).ownBlock) (.slice Ao17 t422.length co17) t422) ∧ Aside0 (Kd.R (Kd.int .u64) 55 wc w.heap.size (fun k_ => some k_ ≠ ((.slice Ao17 t422.length co17) : Value).ownBlock ∧ some k_ ≠ ((.slice Ao58 t438.length co58) : Value).ownBlock) (.slice Ao23 t428.length co23) t428) ∧ Aside0 (Kd.R (Kd.int .u64) 55 wc w.heap.size (fun k_ => some k_ ≠ ((.slice Ao17 t422.length co17) : Value).ownBlock ∧ some k_ ≠ ((.slice Ao23 t428.length co23) : Value).ownBlock) (.slice Ao58 t438.length co58) t438) ∧ Aside0 (wc.heap[gb426]? = some (.cells #[.int .i64 t421, (.slice Ao17 t422.length co17)] 24 (0, 0))) ∧ Aside0 (wc.heap[gb432]? = some (.cells #[.int .i64 t427, (.slice Ao23 t428.length co23)] 24 (0, 0))) ∧ Aside0 (wc.heap[gb442]? = some (.cells #[.int .i64 t437, (.slice Ao58 t438.length co58)] 24 (0, 0))) ∧ Aside0 (Below w.heap.size w wc))
                          case first =>
                            have H := HC61.out
                            clear HC61
                            by_cases c62 : 0 < (l1.length : Int)
                            · rw [if_pos c62] at H
                              have c62b0 : decide (0 < (l1.length : Int)) = true := decide_eq_true c62
                              have c62b1 : decide (0 < l1.length) = true := decide_eq_true (by omega)
                              clear c62
                              (first | rw [c62b0] | (simp only [i64_w, i32_w]; rw [c62b0]) | skip)
                              by_cases c63 : x14_3 ≥ ((rd_T26 l1 0).f0)
                              · rw [if_pos c63] at H
                                have c63b0 : decide (((rd_T26 l1 0).f0) ≤ x14_3) = true := decide_eq_true c63
                                clear c63
                                have H' := Aside0.mk H
                                clear H
                                try go_wp2
                                have n0_ := Aside0.mk (Kd.R_drew HO_427001.out)
                                have n1_ := Aside0.mk (Kd.R_drew HO_433001.out)
                                have n2_ := Aside0.mk (Kd.R_drew HO_443001.out)
                                have n3_ := Aside0.mk (blk_drew BK426.out)
                                have n4_ := Aside0.mk (blk_drew BK432.out)
                                have n5_ := Aside0.mk (blk_drew BK442.out)
                                have n6_ := Aside0.mk (below_drew1 HB.out)
                                clear HO_427001
                                clear HO_433001
                                clear HO_443001
                                clear BK426
                                clear BK432
                                clear BK442
                                clear HB
                                have HO_427001 := n0_
                                have HO_433001 := n1_
                                have HO_443001 := n2_
                                have BK426 := n3_
                                have BK432 := n4_
                                have BK442 := n5_
                                have HB := n6_
                                clear n0_ n1_ n2_ n3_ n4_ n5_ n6_
                                have p444 : 0 ≤ (0 : Int) := (by omega)
                                have q444 : 0 < (l1.length : Int) := of_decide_eq_true (by first | (with_reducible assumption) | assumption)
                                obtain ⟨ad444, e444, hx444_0, hx444_1⟩ := at_T26 HR1.out 0 p444 q444
                                have hw444_1 := hx444_1
                                (try rw [show ((0 : Int)).toNat = 0 from rfl] at hw444_1)
                                (try rw [show 0 * 2 = 0 from rfl] at hw444_1)
                                (try rw [Addr.add_zero'] at hw444_1)
                                have hw444_0 := hx444_0
                                (try rw [show ((0 : Int)).toNat = 0 from rfl] at hw444_0)
                                (try rw [show 0 * 2 = 0 from rfl] at hw444_0)
                                (try rw [Addr.add_zero'] at hw444_0)
                                obtain rfl : ad436 = ad444 := (by injection e444)
                                have qi444 : (0 < l1.length) = True := eq_true (by omega)
                                (try rw [show ((0 : Int)).toNat = 0 from rfl] at hx444_0)
                                (try rw [show 0 * 2 = 0 from rfl] at hx444_0)
                                (try rw [Addr.add_zero'] at hx444_0)
                                (try rw [show ((0 : Int)).toNat = 0 from rfl] at hx444_1)
                                (try rw [show 0 * 2 = 0 from rfl] at hx444_1)
                                (try rw [Addr.add_zero'] at hx444_1)
                                replace hx444_0 := (HB.out.cell (World.block_lt_of_cell? w _ hx444_0)).trans hx444_0
                                replace hx444_1 := (HB.out.cell (World.block_lt_of_cell? w _ hx444_1)).trans hx444_1
                                replace p444 := eq_true p444
                                replace q444 := eq_true q444
                                have p445 : 0 ≤ (0 : Int) := (by omega)
                                have q445 : 0 < (l1.length : Int) := of_decide_eq_true (by first | (with_reducible assumption) | assumption)
                                obtain ⟨ad445, e445, hx445_0, hx445_1⟩ := at_T26 HR1.out 0 p445 q445
                                have hw445_1 := hx445_1
                                (try rw [show ((0 : Int)).toNat = 0 from rfl] at hw445_1)
                                (try rw [show 0 * 2 = 0 from rfl] at hw445_1)
                                (try rw [Addr.add_zero'] at hw445_1)
                                have hw445_0 := hx445_0
                                (try rw [show ((0 : Int)).toNat = 0 from rfl] at hw445_0)
                                (try rw [show 0 * 2 = 0 from rfl] at hw445_0)
                                (try rw [Addr.add_zero'] at hw445_0)
                                obtain rfl : ad436 = ad445 := (by injection e445)
                                have qi445 : (0 < l1.length) = True := eq_true (by omega)
                                (try rw [show ((0 : Int)).toNat = 0 from rfl] at hx445_0)
                                (try rw [show 0 * 2 = 0 from rfl] at hx445_0)
                                (try rw [Addr.add_zero'] at hx445_0)
                                (try rw [show ((0 : Int)).toNat = 0 from rfl] at hx445_1)
                                (try rw [show 0 * 2 = 0 from rfl] at hx445_1)
                                (try rw [Addr.add_zero'] at hx445_1)
                                replace hx445_0 := (HB.out.cell (World.block_lt_of_cell? w _ hx445_0)).trans hx445_0
                                replace hx445_1 := (HB.out.cell (World.block_lt_of_cell? w _ hx445_1)).trans hx445_1
                                replace p445 := eq_true p445
                                replace q445 := eq_true q445
                                have p446 : 0 ≤ (0 : Int) := (by omega)
                                have q446 : 0 < (l1.length : Int) := of_decide_eq_true (by first | (with_reducible assumption) | assumption)
                                obtain ⟨ad446, e446, hx446_0, hx446_1⟩ := at_T26 HR1.out 0 p446 q446
                                have hw446_1 := hx446_1
                                (try rw [show ((0 : Int)).toNat = 0 from rfl] at hw446_1)
                                (try rw [show 0 * 2 = 0 from rfl] at hw446_1)
                                (try rw [Addr.add_zero'] at hw446_1)
                                have hw446_0 := hx446_0
                                (try rw [show ((0 : Int)).toNat = 0 from rfl] at hw446_0)
                                (try rw [show 0 * 2 = 0 from rfl] at hw446_0)
                                (try rw [Addr.add_zero'] at hw446_0)
                                obtain rfl : ad436 = ad446 := (by injection e446)
                                have qi446 : (0 < l1.length) = True := eq_true (by omega)
                                (try rw [show ((0 : Int)).toNat = 0 from rfl] at hx446_0)
                                (try rw [show 0 * 2 = 0 from rfl] at hx446_0)
                                (try rw [Addr.add_zero'] at hx446_0)
                                (try rw [show ((0 : Int)).toNat = 0 from rfl] at hx446_1)
                                (try rw [show 0 * 2 = 0 from rfl] at hx446_1)
                                (try rw [Addr.add_zero'] at hx446_1)
                                replace hx446_0 := (HB.out.cell (World.block_lt_of_cell? w _ hx446_0)).trans hx446_0
                                replace hx446_1 := (HB.out.cell (World.block_lt_of_cell? w _ hx446_1)).trans hx446_1
                                replace p446 := eq_true p446
                                replace q446 := eq_true q446
                                refine start_ (n := 20) (S := fun w' => w'.cell? ad436 = some (.int .i64 ((rd_T26 l1 0).f0)) ∧ w'.cell? ⟨ad436.block, ad436.off + 1, none⟩ = some (.int .i64 ((rd_T26 l1 0).f1)) ∧ w'.cell? ad436 = some (.int .i64 ((rd_T26 l1 0).f0)) ∧ w'.cell? ⟨ad436.block, ad436.off + 1, none⟩ = some (.int .i64 ((rd_T26 l1 0).f1)) ∧ w'.cell? ad436 = some (.int .i64 ((rd_T26 l1 0).f0)) ∧ w'.cell? ⟨ad436.block, ad436.off + 1, none⟩ = some (.int .i64 ((rd_T26 l1 0).f1))) (ds := []) #[false, false, false, false, false, false, false, false, false, false, false, false, false, false, false, false, false, false, false, false] (by kernel_rfl) rfl rfl ⟨((HB.out.cell (World.block_lt_of_cell? w _ hw444_0)).trans hw444_0), ((HB.out.cell (World.block_lt_of_cell? w _ hw444_1)).trans hw444_1), ((HB.out.cell (World.block_lt_of_cell? w _ hw445_0)).trans hw445_0), ((HB.out.cell (World.block_lt_of_cell? w _ hw445_1)).trans hw445_1), ((HB.out.cell (World.block_lt_of_cell? w _ hw446_0)).trans hw446_0), ((HB.out.cell (World.block_lt_of_cell? w _ hw446_1)).trans hw446_1)⟩ (fun hHeld => ?_); refine with_tabW l02BitmapOrders.tab19 l02BitmapOrders.bits19 (fun HT_ HW_ => ?_)
                                generalize wr.drew = w64 at HO_427001 HO_433001 HO_443001 BK426 BK432 BK442 HB hx444_0 hx444_1 hx445_0 hx445_1 hx446_0 hx446_1 hHeld ⊢
                                refine pure_ (i := 0) (N := some 93) (v := ?_) (a' := ?_) #[true, false, false, false, false, false, false, false, false, false, false, false, false, false, false, false, false, false, false, false] rfl rfl (any_of HT_.out (by kernel_rfl)) (fun _ _ _ h => h) (Or.inl ⟨by rfl, ?_⟩) ?_ ?_
                                rotate_left
                                · intro w'
                                  go_simp
                                  with_reducible rfl
                                rotate_left
                                · simp only [Act.put, List.setIfInBounds_toArray, List.set_cons_zero, List.set_cons_succ, i64_w, i32_w]
                                  rfl
                                refine pure_ (i := 1) (N := some 94) (v := ?_) (a' := ?_) #[true, true, false, false, false, false, false, false, false, false, false, false, false, false, false, false, false, false, false, false] rfl rfl (any_of HT_.out (by kernel_rfl)) (fun _ _ _ h => h) (Or.inl ⟨by rfl, ?_⟩) ?_ ?_
                                rotate_left
                                · intro w'
                                  go_simp
                                  with_reducible rfl
                                rotate_left
                                · simp only [Act.put, List.setIfInBounds_toArray, List.set_cons_zero, List.set_cons_succ, i64_w, i32_w]
                                  rfl
                                refine pure_ (i := 2) (N := some 95) (v := ?_) (a' := ?_) #[true, true, true, false, false, false, false, false, false, false, false, false, false, false, false, false, false, false, false, false] rfl rfl (any_of HT_.out (by kernel_rfl)) (fun _ _ _ h => h) (Or.inl ⟨by rfl, ?_⟩) ?_ ?_
                                rotate_left
                                · intro w'
                                  go_simp
                                  with_reducible rfl
                                rotate_left
                                · simp only [Act.put, List.setIfInBounds_toArray, List.set_cons_zero, List.set_cons_succ, i64_w, i32_w]
                                  rfl
                                refine pure_ (i := 3) (N := some 96) (v := ?_) (a' := ?_) #[true, true, true, true, false, false, false, false, false, false, false, false, false, false, false, false, false, false, false, false] rfl rfl (any_of HT_.out (by kernel_rfl)) (fun _ _ _ h => h) (Or.inl ⟨by rfl, ?_⟩) ?_ ?_
                                rotate_left
                                · intro w'
                                  go_simp
                                  with_reducible rfl
                                rotate_left
                                · simp only [Act.put, List.setIfInBounds_toArray, List.set_cons_zero, List.set_cons_succ, i64_w, i32_w]
                                  rfl
                                refine take_ (i := 4) (N := some 97) (v := ?_) (a' := ?_) #[true, true, true, true, true, false, false, false, false, false, false, false, false, false, false, false, false, false, false, false] rfl rfl (take_ofW HT_.out HW_.out (by kernel_rfl)) (fun _ _ _ h => h) (Or.inl ⟨by rfl, ?_⟩) hHeld ?_ ?_
                                rotate_left
                                · rintro w' ⟨s0, s1, s2, s3, s4, s5⟩
                                  go_simp
                                  with_reducible rfl
                                rotate_left
                                · simp only [Act.put, List.setIfInBounds_toArray, List.set_cons_zero, List.set_cons_succ, i64_w, i32_w]
                                  rfl
                                refine pure_ (i := 5) (N := some 98) (v := ?_) (a' := ?_) #[true, true, true, true, true, true, false, false, false, false, false, false, false, false, false, false, false, false, false, false] rfl rfl (any_of HT_.out (by kernel_rfl)) (fun _ _ _ h => h) (Or.inl ⟨by rfl, ?_⟩) ?_ ?_
                                rotate_left
                                · intro w'
                                  go_simp
                                  with_reducible rfl
                                rotate_left
                                · simp only [Act.put, List.setIfInBounds_toArray, List.set_cons_zero, List.set_cons_succ, i64_w, i32_w]
                                  rfl
                                refine pure_ (i := 6) (N := some 99) (v := ?_) (a' := ?_) #[true, true, true, true, true, true, true, false, false, false, false, false, false, false, false, false, false, false, false, false] rfl rfl (any_of HT_.out (by kernel_rfl)) (fun _ _ _ h => h) (Or.inl ⟨by rfl, ?_⟩) ?_ ?_
                                rotate_left
                                · intro w'
                                  go_simp
                                  with_reducible rfl
                                rotate_left
                                · simp only [Act.put, List.setIfInBounds_toArray, List.set_cons_zero, List.set_cons_succ, i64_w, i32_w]
                                  rfl
                                refine pure_ (i := 7) (N := some 100) (v := ?_) (a' := ?_) #[true, true, true, true, true, true, true, true, false, false, false, false, false, false, false, false, false, false, false, false] rfl rfl (any_of HT_.out (by kernel_rfl)) (fun _ _ _ h => h) (Or.inl ⟨by rfl, ?_⟩) ?_ ?_
                                rotate_left
                                · intro w'
                                  go_simp
                                  with_reducible rfl
                                rotate_left
                                · simp only [Act.put, List.setIfInBounds_toArray, List.set_cons_zero, List.set_cons_succ, i64_w, i32_w]
                                  rfl
                                refine pure_ (i := 8) (N := some 101) (v := ?_) (a' := ?_) #[true, true, true, true, true, true, true, true, true, false, false, false, false, false, false, false, false, false, false, false] rfl rfl (any_of HT_.out (by kernel_rfl)) (fun _ _ _ h => h) (Or.inl ⟨by rfl, ?_⟩) ?_ ?_
                                rotate_left
                                · intro w'
                                  go_simp
                                  with_reducible rfl
                                rotate_left
                                · simp only [Act.put, List.setIfInBounds_toArray, List.set_cons_zero, List.set_cons_succ, i64_w, i32_w]
                                  rfl
                                refine pure_ (i := 9) (N := some 102) (v := ?_) (a' := ?_) #[true, true, true, true, true, true, true, true, true, true, false, false, false, false, false, false, false, false, false, false] rfl rfl (any_of HT_.out (by kernel_rfl)) (fun _ _ _ h => h) (Or.inl ⟨by rfl, ?_⟩) ?_ ?_
                                rotate_left
                                · intro w'
                                  go_simp
                                  with_reducible rfl
                                rotate_left
                                · simp only [Act.put, List.setIfInBounds_toArray, List.set_cons_zero, List.set_cons_succ, i64_w, i32_w]
                                  rfl
                                refine pure_ (i := 10) (N := some 103) (v := ?_) (a' := ?_) #[true, true, true, true, true, true, true, true, true, true, true, false, false, false, false, false, false, false, false, false] rfl rfl (any_of HT_.out (by kernel_rfl)) (fun _ _ _ h => h) (Or.inl ⟨by rfl, ?_⟩) ?_ ?_
                                rotate_left
                                · intro w'
                                  go_simp
                                  with_reducible rfl
                                rotate_left
                                · simp only [Act.put, List.setIfInBounds_toArray, List.set_cons_zero, List.set_cons_succ, i64_w, i32_w]
                                  rfl
                                refine pure_ (i := 12) (N := some 105) (v := ?_) (a' := ?_) #[true, true, true, true, true, true, true, true, true, true, true, false, true, false, false, false, false, false, false, false] rfl rfl (any_of HT_.out (by kernel_rfl)) (fun _ _ _ h => h) (Or.inl ⟨by rfl, ?_⟩) ?_ ?_
                                rotate_left
                                · intro w'
                                  go_simp
                                  with_reducible rfl
                                rotate_left
                                · simp only [Act.put, List.setIfInBounds_toArray, List.set_cons_zero, List.set_cons_succ, i64_w, i32_w]
                                  rfl
                                refine pure_ (i := 13) (N := some 106) (v := ?_) (a' := ?_) #[true, true, true, true, true, true, true, true, true, true, true, false, true, true, false, false, false, false, false, false] rfl rfl (any_of HT_.out (by kernel_rfl)) (fun _ _ _ h => h) (Or.inl ⟨by rfl, ?_⟩) ?_ ?_
                                rotate_left
                                · intro w'
                                  go_simp
                                  with_reducible rfl
                                rotate_left
                                · simp only [Act.put, List.setIfInBounds_toArray, List.set_cons_zero, List.set_cons_succ, i64_w, i32_w]
                                  rfl
                                refine pure_ (i := 14) (N := some 107) (v := ?_) (a' := ?_) #[true, true, true, true, true, true, true, true, true, true, true, false, true, true, true, false, false, false, false, false] rfl rfl (any_of HT_.out (by kernel_rfl)) (fun _ _ _ h => h) (Or.inl ⟨by rfl, ?_⟩) ?_ ?_
                                rotate_left
                                · intro w'
                                  go_simp
                                  with_reducible rfl
                                rotate_left
                                · simp only [Act.put, List.setIfInBounds_toArray, List.set_cons_zero, List.set_cons_succ, i64_w, i32_w]
                                  rfl
                                refine take_ (i := 11) (N := some 104) (v := ?_) (a' := ?_) #[true, true, true, true, true, true, true, true, true, true, true, true, true, true, true, false, false, false, false, false] rfl rfl (take_ofW HT_.out HW_.out (by kernel_rfl)) (fun _ _ _ h => h) (Or.inl ⟨by rfl, ?_⟩) hHeld ?_ ?_
                                rotate_left
                                · rintro w' ⟨s0, s1, s2, s3, s4, s5⟩
                                  go_simp
                                  with_reducible rfl
                                rotate_left
                                · simp only [Act.put, List.setIfInBounds_toArray, List.set_cons_zero, List.set_cons_succ, i64_w, i32_w]
                                  rfl
                                refine take_ (i := 15) (N := some 108) (v := ?_) (a' := ?_) #[true, true, true, true, true, true, true, true, true, true, true, true, true, true, true, true, false, false, false, false] rfl rfl (take_ofW HT_.out HW_.out (by kernel_rfl)) (fun _ _ _ h => h) (Or.inl ⟨by rfl, ?_⟩) hHeld ?_ ?_
                                rotate_left
                                · rintro w' ⟨s0, s1, s2, s3, s4, s5⟩
                                  go_simp
                                  with_reducible rfl
                                rotate_left
                                · simp only [Act.put, List.setIfInBounds_toArray, List.set_cons_zero, List.set_cons_succ, i64_w, i32_w]
                                  rfl
                                refine pure_ (i := 16) (N := some 109) (v := ?_) (a' := ?_) #[true, true, true, true, true, true, true, true, true, true, true, true, true, true, true, true, true, false, false, false] rfl rfl (any_of HT_.out (by kernel_rfl)) (fun _ _ _ h => h) (Or.inl ⟨by rfl, ?_⟩) ?_ ?_
                                rotate_left
                                · intro w'
                                  go_simp
                                  with_reducible rfl
                                rotate_left
                                · simp only [Act.put, List.setIfInBounds_toArray, List.set_cons_zero, List.set_cons_succ, i64_w, i32_w]
                                  rfl
                                refine pure_ (i := 17) (N := some 110) (v := ?_) (a' := ?_) #[true, true, true, true, true, true, true, true, true, true, true, true, true, true, true, true, true, true, false, false] rfl rfl (any_of HT_.out (by kernel_rfl)) (fun _ _ _ h => h) (Or.inl ⟨by rfl, ?_⟩) ?_ ?_
                                rotate_left
                                · intro w'
                                  go_simp
                                  with_reducible rfl
                                rotate_left
                                · simp only [Act.put, List.setIfInBounds_toArray, List.set_cons_zero, List.set_cons_succ, i64_w, i32_w]
                                  rfl
                                refine pure_ (i := 18) (N := some 111) (v := ?_) (a' := ?_) #[true, true, true, true, true, true, true, true, true, true, true, true, true, true, true, true, true, true, true, false] rfl rfl (any_of HT_.out (by kernel_rfl)) (fun _ _ _ h => h) (Or.inl ⟨by rfl, ?_⟩) ?_ ?_
                                rotate_left
                                · intro w'
                                  go_simp
                                  with_reducible rfl
                                rotate_left
                                · simp only [Act.put, List.setIfInBounds_toArray, List.set_cons_zero, List.set_cons_succ, i64_w, i32_w]
                                  rfl
                                refine pure_ (i := 19) (N := some 15) (v := ?_) (a' := ?_) #[true, true, true, true, true, true, true, true, true, true, true, true, true, true, true, true, true, true, true, true] rfl rfl (any_of HT_.out (by kernel_rfl)) (fun _ _ _ h => h) (Or.inl ⟨by rfl, ?_⟩) ?_ ?_
                                rotate_left
                                · intro w'
                                  go_simp
                                  with_reducible rfl
                                rotate_left
                                · simp only [Act.put, List.setIfInBounds_toArray, List.set_cons_zero, List.set_cons_succ, i64_w, i32_w]
                                  rfl
                                refine done_ (done_of HT_.out (by kernel_rfl)) ?_
                                try go_wp2
                                go_meet
                                case rel => exact ⟨_, (decide (x14_3 < (wrap64 (((rd_T26 l1 0).f0) + ((rd_T26 l1 0).f1))))), (by first | rfl | (simp; done) | (simp [*]; done)), H', ⟨by have := HK1.out; have := HJ12.out; have := HK3.out; first | omega | exact Nat.le_refl _⟩, ⟨by (with_reducible repeat (first | apply Kd.R_alloc | apply Kd.R_drewN | apply Kd.R_drew)); exact HO_427001.out⟩, ⟨by (with_reducible repeat (first | apply Kd.R_alloc | apply Kd.R_drewN | apply Kd.R_drew)); exact HO_433001.out⟩, ⟨by (with_reducible repeat (first | apply Kd.R_alloc | apply Kd.R_drewN | apply Kd.R_drew)); exact HO_443001.out⟩, ⟨by (with_reducible repeat (first | refine blk_drewN ?_ _ | refine blk_drew ?_ | refine blk_alloc ?_ _)); exact BK426.out⟩, ⟨by (with_reducible repeat (first | refine blk_drewN ?_ _ | refine blk_drew ?_ | refine blk_alloc ?_ _)); exact BK432.out⟩, ⟨by (with_reducible repeat (first | refine blk_drewN ?_ _ | refine blk_drew ?_ | refine blk_alloc ?_ _)); exact BK442.out⟩, ⟨by repeat (first | (with_reducible first | exact HB.out | apply below_alloc | apply pw_below_drewN | apply below_drew1 | refine below_set ?_ GE426.out | refine below_set ?_ GE432.out | refine below_set ?_ GE442.out) | exact HB.out)⟩⟩
                              · rw [if_neg c63] at H
                                have c63b0 : decide (((rd_T26 l1 0).f0) ≤ x14_3) = false := decide_eq_false c63
                                clear c63
                                have H' := Aside0.mk H
                                clear H
                                try go_wp2
                                have n0_ := Aside0.mk (Kd.R_drew HO_427001.out)
                                have n1_ := Aside0.mk (Kd.R_drew HO_433001.out)
                                have n2_ := Aside0.mk (Kd.R_drew HO_443001.out)
                                have n3_ := Aside0.mk (blk_drew BK426.out)
                                have n4_ := Aside0.mk (blk_drew BK432.out)
                                have n5_ := Aside0.mk (blk_drew BK442.out)
                                have n6_ := Aside0.mk (below_drew1 HB.out)
                                clear HO_427001
                                clear HO_433001
                                clear HO_443001
                                clear BK426
                                clear BK432
                                clear BK442
                                clear HB
                                have HO_427001 := n0_
                                have HO_433001 := n1_
                                have HO_443001 := n2_
                                have BK426 := n3_
                                have BK432 := n4_
                                have BK442 := n5_
                                have HB := n6_
                                clear n0_ n1_ n2_ n3_ n4_ n5_ n6_
                                have p444 : 0 ≤ (0 : Int) := (by omega)
                                have q444 : 0 < (l1.length : Int) := of_decide_eq_true (by first | (with_reducible assumption) | assumption)
                                obtain ⟨ad444, e444, hx444_0, hx444_1⟩ := at_T26 HR1.out 0 p444 q444
                                have hw444_1 := hx444_1
                                (try rw [show ((0 : Int)).toNat = 0 from rfl] at hw444_1)
                                (try rw [show 0 * 2 = 0 from rfl] at hw444_1)
                                (try rw [Addr.add_zero'] at hw444_1)
                                have hw444_0 := hx444_0
                                (try rw [show ((0 : Int)).toNat = 0 from rfl] at hw444_0)
                                (try rw [show 0 * 2 = 0 from rfl] at hw444_0)
                                (try rw [Addr.add_zero'] at hw444_0)
                                obtain rfl : ad436 = ad444 := (by injection e444)
                                have qi444 : (0 < l1.length) = True := eq_true (by omega)
                                (try rw [show ((0 : Int)).toNat = 0 from rfl] at hx444_0)
                                (try rw [show 0 * 2 = 0 from rfl] at hx444_0)
                                (try rw [Addr.add_zero'] at hx444_0)
                                (try rw [show ((0 : Int)).toNat = 0 from rfl] at hx444_1)
                                (try rw [show 0 * 2 = 0 from rfl] at hx444_1)
                                (try rw [Addr.add_zero'] at hx444_1)
                                replace hx444_0 := (HB.out.cell (World.block_lt_of_cell? w _ hx444_0)).trans hx444_0
                                replace hx444_1 := (HB.out.cell (World.block_lt_of_cell? w _ hx444_1)).trans hx444_1
                                replace p444 := eq_true p444
                                replace q444 := eq_true q444
                                refine start_ (n := 20) (S := fun w' => w'.cell? ad436 = some (.int .i64 ((rd_T26 l1 0).f0)) ∧ w'.cell? ⟨ad436.block, ad436.off + 1, none⟩ = some (.int .i64 ((rd_T26 l1 0).f1))) (ds := []) #[false, false, false, false, false, false, false, false, false, false, false, false, false, false, false, false, false, false, false, false] (by kernel_rfl) rfl rfl ⟨((HB.out.cell (World.block_lt_of_cell? w _ hw444_0)).trans hw444_0), ((HB.out.cell (World.block_lt_of_cell? w _ hw444_1)).trans hw444_1)⟩ (fun hHeld => ?_); refine with_tabW l02BitmapOrders.tab19 l02BitmapOrders.bits19 (fun HT_ HW_ => ?_)
                                generalize wr.drew = w65 at HO_427001 HO_433001 HO_443001 BK426 BK432 BK442 HB hx444_0 hx444_1 hHeld ⊢
                                refine pure_ (i := 0) (N := some 93) (v := ?_) (a' := ?_) #[true, false, false, false, false, false, false, false, false, false, false, false, false, false, false, false, false, false, false, false] rfl rfl (any_of HT_.out (by kernel_rfl)) (fun _ _ _ h => h) (Or.inl ⟨by rfl, ?_⟩) ?_ ?_
                                rotate_left
                                · intro w'
                                  go_simp
                                  with_reducible rfl
                                rotate_left
                                · simp only [Act.put, List.setIfInBounds_toArray, List.set_cons_zero, List.set_cons_succ, i64_w, i32_w]
                                  rfl
                                refine pure_ (i := 1) (N := some 94) (v := ?_) (a' := ?_) #[true, true, false, false, false, false, false, false, false, false, false, false, false, false, false, false, false, false, false, false] rfl rfl (any_of HT_.out (by kernel_rfl)) (fun _ _ _ h => h) (Or.inl ⟨by rfl, ?_⟩) ?_ ?_
                                rotate_left
                                · intro w'
                                  go_simp
                                  with_reducible rfl
                                rotate_left
                                · simp only [Act.put, List.setIfInBounds_toArray, List.set_cons_zero, List.set_cons_succ, i64_w, i32_w]
                                  rfl
                                refine pure_ (i := 2) (N := some 95) (v := ?_) (a' := ?_) #[true, true, true, false, false, false, false, false, false, false, false, false, false, false, false, false, false, false, false, false] rfl rfl (any_of HT_.out (by kernel_rfl)) (fun _ _ _ h => h) (Or.inl ⟨by rfl, ?_⟩) ?_ ?_
                                rotate_left
                                · intro w'
                                  go_simp
                                  with_reducible rfl
                                rotate_left
                                · simp only [Act.put, List.setIfInBounds_toArray, List.set_cons_zero, List.set_cons_succ, i64_w, i32_w]
                                  rfl
                                refine pure_ (i := 3) (N := some 96) (v := ?_) (a' := ?_) #[true, true, true, true, false, false, false, false, false, false, false, false, false, false, false, false, false, false, false, false] rfl rfl (any_of HT_.out (by kernel_rfl)) (fun _ _ _ h => h) (Or.inl ⟨by rfl, ?_⟩) ?_ ?_
                                rotate_left
                                · intro w'
                                  go_simp
                                  with_reducible rfl
                                rotate_left
                                · simp only [Act.put, List.setIfInBounds_toArray, List.set_cons_zero, List.set_cons_succ, i64_w, i32_w]
                                  rfl
                                refine take_ (i := 4) (N := some 97) (v := ?_) (a' := ?_) #[true, true, true, true, true, false, false, false, false, false, false, false, false, false, false, false, false, false, false, false] rfl rfl (take_ofW HT_.out HW_.out (by kernel_rfl)) (fun _ _ _ h => h) (Or.inl ⟨by rfl, ?_⟩) hHeld ?_ ?_
                                rotate_left
                                · rintro w' ⟨s0, s1⟩
                                  go_simp
                                  with_reducible rfl
                                rotate_left
                                · simp only [Act.put, List.setIfInBounds_toArray, List.set_cons_zero, List.set_cons_succ, i64_w, i32_w]
                                  rfl
                                refine pure_ (i := 5) (N := some 98) (v := ?_) (a' := ?_) #[true, true, true, true, true, true, false, false, false, false, false, false, false, false, false, false, false, false, false, false] rfl rfl (any_of HT_.out (by kernel_rfl)) (fun _ _ _ h => h) (Or.inl ⟨by rfl, ?_⟩) ?_ ?_
                                rotate_left
                                · intro w'
                                  go_simp
                                  with_reducible rfl
                                rotate_left
                                · simp only [Act.put, List.setIfInBounds_toArray, List.set_cons_zero, List.set_cons_succ, i64_w, i32_w]
                                  rfl
                                refine pure_ (i := 6) (N := some 99) (v := ?_) (a' := ?_) #[true, true, true, true, true, true, true, false, false, false, false, false, false, false, false, false, false, false, false, false] rfl rfl (any_of HT_.out (by kernel_rfl)) (fun _ _ _ h => h) (Or.inl ⟨by rfl, ?_⟩) ?_ ?_
                                rotate_left
                                · intro w'
                                  go_simp
                                  with_reducible rfl
                                rotate_left
                                · simp only [Act.put, List.setIfInBounds_toArray, List.set_cons_zero, List.set_cons_succ, i64_w, i32_w]
                                  rfl
                                refine pure_ (i := 7) (N := some 100) (v := undef) (a' := ?_) #[true, true, true, true, true, true, true, true, false, false, false, false, false, false, false, false, false, false, false, false] rfl rfl (any_of HT_.out (by kernel_rfl)) (fun _ _ _ h => h) (Or.inr ⟨by rfl, rfl⟩) ?_ ?_
                                rotate_left
                                · simp only [Act.put, List.setIfInBounds_toArray, List.set_cons_zero, List.set_cons_succ, i64_w, i32_w]
                                  rfl
                                refine pure_ (i := 8) (N := some 101) (v := undef) (a' := ?_) #[true, true, true, true, true, true, true, true, true, false, false, false, false, false, false, false, false, false, false, false] rfl rfl (any_of HT_.out (by kernel_rfl)) (fun _ _ _ h => h) (Or.inr ⟨by rfl, rfl⟩) ?_ ?_
                                rotate_left
                                · simp only [Act.put, List.setIfInBounds_toArray, List.set_cons_zero, List.set_cons_succ, i64_w, i32_w]
                                  rfl
                                refine pure_ (i := 9) (N := some 102) (v := undef) (a' := ?_) #[true, true, true, true, true, true, true, true, true, true, false, false, false, false, false, false, false, false, false, false] rfl rfl (any_of HT_.out (by kernel_rfl)) (fun _ _ _ h => h) (Or.inr ⟨by rfl, rfl⟩) ?_ ?_
                                rotate_left
                                · simp only [Act.put, List.setIfInBounds_toArray, List.set_cons_zero, List.set_cons_succ, i64_w, i32_w]
                                  rfl
                                refine pure_ (i := 10) (N := some 103) (v := undef) (a' := ?_) #[true, true, true, true, true, true, true, true, true, true, true, false, false, false, false, false, false, false, false, false] rfl rfl (any_of HT_.out (by kernel_rfl)) (fun _ _ _ h => h) (Or.inr ⟨by rfl, rfl⟩) ?_ ?_
                                rotate_left
                                · simp only [Act.put, List.setIfInBounds_toArray, List.set_cons_zero, List.set_cons_succ, i64_w, i32_w]
                                  rfl
                                refine pure_ (i := 11) (N := some 104) (v := undef) (a' := ?_) #[true, true, true, true, true, true, true, true, true, true, true, true, false, false, false, false, false, false, false, false] rfl rfl (any_of HT_.out (by kernel_rfl)) (fun _ _ _ h => h) (Or.inr ⟨by rfl, rfl⟩) ?_ ?_
                                rotate_left
                                · simp only [Act.put, List.setIfInBounds_toArray, List.set_cons_zero, List.set_cons_succ, i64_w, i32_w]
                                  rfl
                                refine pure_ (i := 12) (N := some 105) (v := undef) (a' := ?_) #[true, true, true, true, true, true, true, true, true, true, true, true, true, false, false, false, false, false, false, false] rfl rfl (any_of HT_.out (by kernel_rfl)) (fun _ _ _ h => h) (Or.inr ⟨by rfl, rfl⟩) ?_ ?_
                                rotate_left
                                · simp only [Act.put, List.setIfInBounds_toArray, List.set_cons_zero, List.set_cons_succ, i64_w, i32_w]
                                  rfl
                                refine pure_ (i := 13) (N := some 106) (v := undef) (a' := ?_) #[true, true, true, true, true, true, true, true, true, true, true, true, true, true, false, false, false, false, false, false] rfl rfl (any_of HT_.out (by kernel_rfl)) (fun _ _ _ h => h) (Or.inr ⟨by rfl, rfl⟩) ?_ ?_
                                rotate_left
                                · simp only [Act.put, List.setIfInBounds_toArray, List.set_cons_zero, List.set_cons_succ, i64_w, i32_w]
                                  rfl
                                refine pure_ (i := 14) (N := some 107) (v := undef) (a' := ?_) #[true, true, true, true, true, true, true, true, true, true, true, true, true, true, true, false, false, false, false, false] rfl rfl (any_of HT_.out (by kernel_rfl)) (fun _ _ _ h => h) (Or.inr ⟨by rfl, rfl⟩) ?_ ?_
                                rotate_left
                                · simp only [Act.put, List.setIfInBounds_toArray, List.set_cons_zero, List.set_cons_succ, i64_w, i32_w]
                                  rfl
                                refine pure_ (i := 15) (N := some 108) (v := undef) (a' := ?_) #[true, true, true, true, true, true, true, true, true, true, true, true, true, true, true, true, false, false, false, false] rfl rfl (any_of HT_.out (by kernel_rfl)) (fun _ _ _ h => h) (Or.inr ⟨by rfl, rfl⟩) ?_ ?_
                                rotate_left
                                · simp only [Act.put, List.setIfInBounds_toArray, List.set_cons_zero, List.set_cons_succ, i64_w, i32_w]
                                  rfl
                                refine pure_ (i := 16) (N := some 109) (v := undef) (a' := ?_) #[true, true, true, true, true, true, true, true, true, true, true, true, true, true, true, true, true, false, false, false] rfl rfl (any_of HT_.out (by kernel_rfl)) (fun _ _ _ h => h) (Or.inr ⟨by rfl, rfl⟩) ?_ ?_
                                rotate_left
                                · simp only [Act.put, List.setIfInBounds_toArray, List.set_cons_zero, List.set_cons_succ, i64_w, i32_w]
                                  rfl
                                refine pure_ (i := 17) (N := some 110) (v := undef) (a' := ?_) #[true, true, true, true, true, true, true, true, true, true, true, true, true, true, true, true, true, true, false, false] rfl rfl (any_of HT_.out (by kernel_rfl)) (fun _ _ _ h => h) (Or.inr ⟨by rfl, rfl⟩) ?_ ?_
                                rotate_left
                                · simp only [Act.put, List.setIfInBounds_toArray, List.set_cons_zero, List.set_cons_succ, i64_w, i32_w]
                                  rfl
                                refine pure_ (i := 18) (N := some 111) (v := ?_) (a' := ?_) #[true, true, true, true, true, true, true, true, true, true, true, true, true, true, true, true, true, true, true, false] rfl rfl (any_of HT_.out (by kernel_rfl)) (fun _ _ _ h => h) (Or.inl ⟨by rfl, ?_⟩) ?_ ?_
                                rotate_left
                                · intro w'
                                  go_simp
                                  with_reducible rfl
                                rotate_left
                                · simp only [Act.put, List.setIfInBounds_toArray, List.set_cons_zero, List.set_cons_succ, i64_w, i32_w]
                                  rfl
                                refine pure_ (i := 19) (N := some 15) (v := ?_) (a' := ?_) #[true, true, true, true, true, true, true, true, true, true, true, true, true, true, true, true, true, true, true, true] rfl rfl (any_of HT_.out (by kernel_rfl)) (fun _ _ _ h => h) (Or.inl ⟨by rfl, ?_⟩) ?_ ?_
                                rotate_left
                                · intro w'
                                  go_simp
                                  with_reducible rfl
                                rotate_left
                                · simp only [Act.put, List.setIfInBounds_toArray, List.set_cons_zero, List.set_cons_succ, i64_w, i32_w]
                                  rfl
                                refine done_ (done_of HT_.out (by kernel_rfl)) ?_
                                try go_wp2
                                go_meet
                                case rel => exact ⟨_, (false), (by first | rfl | (simp; done) | (simp [*]; done)), H', ⟨by have := HK1.out; have := HJ12.out; have := HK3.out; first | omega | exact Nat.le_refl _⟩, ⟨by (with_reducible repeat (first | apply Kd.R_alloc | apply Kd.R_drewN | apply Kd.R_drew)); exact HO_427001.out⟩, ⟨by (with_reducible repeat (first | apply Kd.R_alloc | apply Kd.R_drewN | apply Kd.R_drew)); exact HO_433001.out⟩, ⟨by (with_reducible repeat (first | apply Kd.R_alloc | apply Kd.R_drewN | apply Kd.R_drew)); exact HO_443001.out⟩, ⟨by (with_reducible repeat (first | refine blk_drewN ?_ _ | refine blk_drew ?_ | refine blk_alloc ?_ _)); exact BK426.out⟩, ⟨by (with_reducible repeat (first | refine blk_drewN ?_ _ | refine blk_drew ?_ | refine blk_alloc ?_ _)); exact BK432.out⟩, ⟨by (with_reducible repeat (first | refine blk_drewN ?_ _ | refine blk_drew ?_ | refine blk_alloc ?_ _)); exact BK442.out⟩, ⟨by repeat (first | (with_reducible first | exact HB.out | apply below_alloc | apply pw_below_drewN | apply below_drew1 | refine below_set ?_ GE426.out | refine below_set ?_ GE432.out | refine below_set ?_ GE442.out) | exact HB.out)⟩⟩
                            · rw [if_neg c62] at H
                              exact absurd H (by simp)
                          case rest =>
                            clear HC61
                            try clear c1
                            try clear c2
                            try clear p2
                            try clear c3
                            try clear c3b0
                            try clear c3b1
                            try clear c4
                            try clear p4
                            try clear q4
                            try clear hx4
                            try clear qi4
                            try clear c5
                            try clear c6
                            try clear c6b0
                            try clear p6
                            try clear c7
                            try clear c7b0
                            try clear c8
                            try clear c8b0
                            try clear c9
                            try clear c12
                            try clear c15
                            try clear c21
                            try clear c24
                            try clear c24b0
                            try clear c24b1
                            try clear c26
                            try clear c27
                            try clear c27b0
                            try clear c27b1
                            try clear c28
                            try clear c32
                            try clear c36
                            try clear c40
                            try clear p41
                            try clear q41
                            try clear hx41
                            try clear c42
                            try clear c43
                            try clear c43b0
                            try clear c43b1
                            try clear p43
                            try clear q43
                            try clear hx43
                            try clear qi43
                            try clear p44
                            try clear q44
                            try clear hx44
                            try clear qi44
                            try clear c46
                            try clear c50
                            try clear c50b0
                            try clear c50b1
                            try clear c52
                            try clear c52b0
                            try clear c52b1
                            try clear c60
                            try clear c60b0
                            try clear c62
                            try clear c62b0
                            try clear c62b1
                            try clear c63
                            try clear c63b0
                            try clear p64
                            try clear hcz16_0
                            try clear hcz16_1
                            try clear hcz22_0
                            try clear hcz22_1
                            try clear hcz29_0
                            try clear hcz29_1
                            try clear hcz30_0
                            try clear hcz30_1
                            try clear hcz33_0
                            try clear hcz33_1
                            try clear hcz34_0
                            try clear hcz34_1
                            try clear hcz37_0
                            try clear hcz37_1
                            try clear hcz38_0
                            try clear hcz38_1
                            try clear hcz47_0
                            try clear hcz47_1
                            try clear hcz48_0
                            try clear hcz48_1
                            try clear hfz16_0
                            try clear hfz16_1
                            try clear hfz22_0
                            try clear hfz22_1
                            try clear hfz29_0
                            try clear hfz29_1
                            try clear hfz30_0
                            try clear hfz30_1
                            try clear hfz33_0
                            try clear hfz33_1
                            try clear hfz34_0
                            try clear hfz34_1
                            try clear hfz37_0
                            try clear hfz37_1
                            try clear hfz38_0
                            try clear hfz38_1
                            try clear hfz47_0
                            try clear hfz47_1
                            try clear hfz48_0
                            try clear hfz48_1
                            try clear hx417_0
                            try clear hx417_1
                            try clear hx436_0
                            try clear hx436_1
                            try clear hx444_0
                            try clear hx444_1
                            try clear hx445_0
                            try clear hx445_1
                            try clear hx446_0
                            try clear hx446_1
                            try clear p2
                            try clear p4
                            try clear p41
                            try clear p417
                            try clear p43
                            try clear p436
                            try clear p444
                            try clear p445
                            try clear p446
                            try clear p6
                            try clear q4
                            try clear q41
                            try clear q417
                            try clear q43
                            try clear q436
                            try clear q444
                            try clear q445
                            try clear q446
                            obtain ⟨kq, x15_60, rfl, HA, HJ60, HO_427001, HO_433001, HO_443001, BK426, BK432, BK442, HB⟩ := hcut
                            cases kq with
                            | zero => exact absurd HA.out (by simp [l02BitmapOrders.j3])
                            | succ kj60 =>
                              have H := HA.out
                              clear HA
                              simp only [l02BitmapOrders.j3] at H
                              replace H := Option.bind_eq_some_iff.mp H
                              obtain ⟨t447, A660, H⟩ := H
                              replace H : ((bGet.f kj60 t421 t422 x14_3).bind fun t448 => (if t448 = true then (if (t447 != (!x15_60)) = true then (some false) else (if x15_60 = true then ((bGet.f kj60 t421 t422 x14_3).bind fun t449 => (if t449 = true then (l02BitmapOrders.l1 kj60 l1 (wrap64 (Int.tmod a0 1200)) (wrap64 (x14_3 + 1)) t421 t422 t437 t438) else (some false))) else (l02BitmapOrders.l1 kj60 l1 (wrap64 (Int.tmod a0 1200)) (wrap64 (x14_3 + 1)) t421 t422 t437 t438))) else (if (t447 != false) = true then (some false) else (if x15_60 = true then ((bGet.f kj60 t421 t422 x14_3).bind fun t450 => (if t450 = true then (l02BitmapOrders.l1 kj60 l1 (wrap64 (Int.tmod a0 1200)) (wrap64 (x14_3 + 1)) t421 t422 t437 t438) else (some false))) else (l02BitmapOrders.l1 kj60 l1 (wrap64 (Int.tmod a0 1200)) (wrap64 (x14_3 + 1)) t421 t422 t437 t438))))) = some r := H
                              have A66 := Aside0.mk A660
                              clear A660
                              replace H := Option.bind_eq_some_iff.mp H
                              obtain ⟨t448, A670, H⟩ := H
                              replace H : (if t448 = true then (if (t447 != (!x15_60)) = true then (some false) else (if x15_60 = true then ((bGet.f kj60 t421 t422 x14_3).bind fun t449 => (if t449 = true then (l02BitmapOrders.l1 kj60 l1 (wrap64 (Int.tmod a0 1200)) (wrap64 (x14_3 + 1)) t421 t422 t437 t438) else (some false))) else (l02BitmapOrders.l1 kj60 l1 (wrap64 (Int.tmod a0 1200)) (wrap64 (x14_3 + 1)) t421 t422 t437 t438))) else (if (t447 != false) = true then (some false) else (if x15_60 = true then ((bGet.f kj60 t421 t422 x14_3).bind fun t450 => (if t450 = true then (l02BitmapOrders.l1 kj60 l1 (wrap64 (Int.tmod a0 1200)) (wrap64 (x14_3 + 1)) t421 t422 t437 t438) else (some false))) else (l02BitmapOrders.l1 kj60 l1 (wrap64 (Int.tmod a0 1200)) (wrap64 (x14_3 + 1)) t421 t422 t437 t438)))) = some r := H
                              have A67 := Aside0.mk A670
                              clear A670
                              by_cases c68 : t448 = true
                              · subst c68
                                have H1 : (if (t447 != (!x15_60)) = true then (some false) else (if x15_60 = true then ((bGet.f kj60 t421 t422 x14_3).bind fun t449 => (if t449 = true then (l02BitmapOrders.l1 kj60 l1 (wrap64 (Int.tmod a0 1200)) (wrap64 (x14_3 + 1)) t421 t422 t437 t438) else (some false))) else (l02BitmapOrders.l1 kj60 l1 (wrap64 (Int.tmod a0 1200)) (wrap64 (x14_3 + 1)) t421 t422 t437 t438))) = some r := by rw [if_pos rfl] at H; exact H
                                clear H
                                have H := H1
                                clear H1
                                by_cases c69 : (t447 != (!x15_60)) = true
                                · rw [if_pos c69] at H
                                  have c69b0 : (t447 != (!x15_60)) = true := c69
                                  (try (have c69b1 : decide (t447 = (!x15_60)) = false := by simpa using c69))
                                  (try (have c69b2 : (t447 == (!x15_60)) = false := by simpa using c69))
                                  (try (have c69b3 : ¬ (t447 = (!x15_60)) := by simpa using c69))
                                  clear c69
                                  exact absurd ((Option.some.inj H).trans hT.out) (by decide)
                                · rw [if_neg c69] at H
                                  have c69b0 : (t447 != (!x15_60)) = false := by simpa using c69
                                  (try (have c69b1 : decide (t447 = (!x15_60)) = true := by simpa using c69))
                                  (try (have c69b2 : (t447 == (!x15_60)) = true := by simpa using c69))
                                  clear c69
                                  by_cases c70 : x15_60 = true
                                  · subst c70
                                    (try have hz_ : t447 = false := by have q_ := c69b0; revert q_; cases t447 <;> simp)
                                    have H1 : ((bGet.f kj60 t421 t422 x14_3).bind fun t449 => (if t449 = true then (l02BitmapOrders.l1 kj60 l1 (wrap64 (Int.tmod a0 1200)) (wrap64 (x14_3 + 1)) t421 t422 t437 t438) else (some false))) = some r := by rw [if_pos rfl] at H; exact H
                                    clear H
                                    have H := H1
                                    clear H1
                                    replace H := Option.bind_eq_some_iff.mp H
                                    obtain ⟨t449, A710, H⟩ := H
                                    replace H : (if t449 = true then (l02BitmapOrders.l1 kj60 l1 (wrap64 (Int.tmod a0 1200)) (wrap64 (x14_3 + 1)) t421 t422 t437 t438) else (some false)) = some r := H
                                    have A71 := Aside0.mk A710
                                    clear A710
                                    by_cases c72 : t449 = true
                                    · subst c72
                                      have H1 : (l02BitmapOrders.l1 kj60 l1 (wrap64 (Int.tmod a0 1200)) (wrap64 (x14_3 + 1)) t421 t422 t437 t438) = some r := by rw [if_pos rfl] at H; exact H
                                      clear H
                                      have H := H1
                                      clear H1
                                      have H' := Aside0.mk H
                                      clear H
                                      try go_wp2
                                      have n0_ := Aside0.mk (Kd.R_drew HO_427001.out)
                                      have n1_ := Aside0.mk (Kd.R_drew HO_433001.out)
                                      have n2_ := Aside0.mk (Kd.R_drew HO_443001.out)
                                      have n3_ := Aside0.mk (blk_drew BK426.out)
                                      have n4_ := Aside0.mk (blk_drew BK432.out)
                                      have n5_ := Aside0.mk (blk_drew BK442.out)
                                      have n6_ := Aside0.mk (below_drew1 HB.out)
                                      clear HO_427001
                                      clear HO_433001
                                      clear HO_443001
                                      clear BK426
                                      clear BK432
                                      clear BK442
                                      clear HB
                                      have HO_427001 := n0_
                                      have HO_433001 := n1_
                                      have HO_443001 := n2_
                                      have BK426 := n3_
                                      have BK432 := n4_
                                      have BK442 := n5_
                                      have HB := n6_
                                      clear n0_ n1_ n2_ n3_ n4_ n5_ n6_
                                      refine start_ (n := 20) (S := fun w' => w'.cell? ⟨gb442, 0, none⟩ = some (.int .i64 t437) ∧ w'.cell? ⟨gb442, 1, none⟩ = some (.slice Ao58 t438.length co58) ∧ w'.cell? ⟨gb426, 0, none⟩ = some (.int .i64 t421) ∧ w'.cell? ⟨gb426, 1, none⟩ = some (.slice Ao17 t422.length co17)) (ds := []) #[false, false, false, false, false, false, false, false, false, false, false, false, false, false, false, false, false, false, false, false] (by kernel_rfl) rfl rfl ⟨(blk_cell BK442.out 0).trans rfl, (blk_cell BK442.out 1).trans rfl, (blk_cell BK426.out 0).trans rfl, (blk_cell BK426.out 1).trans rfl⟩ (fun hHeld => ?_); refine with_tabW l02BitmapOrders.tab20 l02BitmapOrders.bits20 (fun HT_ HW_ => ?_)
                                      generalize wc.drew = w73 at HO_427001 HO_433001 HO_443001 BK426 BK432 BK442 HB hHeld ⊢
                                      refine pure_ (i := 1) (N := some 113) (v := ?_) (a' := ?_) #[false, true, false, false, false, false, false, false, false, false, false, false, false, false, false, false, false, false, false, false] rfl rfl (any_of HT_.out (by kernel_rfl)) (fun _ _ _ h => h) (Or.inl ⟨by rfl, ?_⟩) ?_ ?_
                                      rotate_left
                                      · intro w'
                                        go_simp
                                        with_reducible rfl
                                      rotate_left
                                      · simp only [Act.put, List.setIfInBounds_toArray, List.set_cons_zero, List.set_cons_succ, i64_w, i32_w]
                                        rfl
                                      refine pure_ (i := 4) (N := some 116) (v := ?_) (a' := ?_) #[false, true, false, false, true, false, false, false, false, false, false, false, false, false, false, false, false, false, false, false] rfl rfl (any_of HT_.out (by kernel_rfl)) (fun _ _ _ h => h) (Or.inl ⟨by rfl, ?_⟩) ?_ ?_
                                      rotate_left
                                      · intro w'
                                        go_simp
                                        with_reducible rfl
                                      rotate_left
                                      · simp only [Act.put, List.setIfInBounds_toArray, List.set_cons_zero, List.set_cons_succ, i64_w, i32_w]
                                        rfl
                                      refine take_ (i := 0) (N := some 112) (v := ?_) (a' := ?_) #[true, true, false, false, true, false, false, false, false, false, false, false, false, false, false, false, false, false, false, false] rfl rfl (take_ofW HT_.out HW_.out (by kernel_rfl)) (fun _ _ _ h => h) (Or.inl ⟨by rfl, ?_⟩) hHeld ?_ ?_
                                      rotate_left
                                      · rintro w' ⟨s0, s1, s2, s3⟩
                                        go_simp
                                        with_reducible rfl
                                      rotate_left
                                      · simp only [Act.put, List.setIfInBounds_toArray, List.set_cons_zero, List.set_cons_succ, i64_w, i32_w]
                                        rfl
                                      refine take_ (i := 3) (N := some 115) (v := ?_) (a' := ?_) #[true, true, false, true, true, false, false, false, false, false, false, false, false, false, false, false, false, false, false, false] rfl rfl (take_ofW HT_.out HW_.out (by kernel_rfl)) (fun _ _ _ h => h) (Or.inl ⟨by rfl, ?_⟩) hHeld ?_ ?_
                                      rotate_left
                                      · rintro w' ⟨s0, s1, s2, s3⟩
                                        go_simp
                                        with_reducible rfl
                                      rotate_left
                                      · simp only [Act.put, List.setIfInBounds_toArray, List.set_cons_zero, List.set_cons_succ, i64_w, i32_w]
                                        rfl
                                      refine one_ (i := 2) (N := some 114) #[true, true, true, true, true, false, false, false, false, false, false, false, false, false, false, false, false, false, false, false] rfl rfl (one_of HT_.out (by kernel_rfl)) (by decide) (fun K hK => ?_)
                                      refine goes_ Tryd.func22 (by kernel_rfl) rfl #[.agg #[.int .i64 t437, .slice Ao58 t438.length co58], .int .i64 x14_3] (by rfl) rfl rfl (by (try simp only [List.map_toArray, List.map_cons, List.map_nil]); first | done | rfl | (simp only [List.length_drop, List.length_take]; rfl)) ?_
                                      with_reducible refine (bGet.calls kj60 t437 _ _ t438 x14_3 t447 _ ?side1 ?side2 A66.out).mono ?_
                                      (case side1 => repeat (first | exact (Kd.R_reads' HO_443001.out).2.2 | (with_reducible refine Kd.C_alloc ?_ _) | (with_reducible refine Kd.C_drewN ?_ _) | (with_reducible refine Kd.C_drew ?_)))
                                      (case side2 => exact (Kd.R_reads' HO_443001.out).2.1)
                                      rintro e w74 ⟨rfl, hb⟩
                                      refine ⟨_, rfl, ?_⟩
                                      have n0_ := Aside0.mk (Kd.R_below (by (with_reducible repeat (first | apply Kd.R_alloc | apply Kd.R_drewN | apply Kd.R_drew)); exact HO_427001.out) hb)
                                      have n1_ := Aside0.mk (Kd.R_below (by (with_reducible repeat (first | apply Kd.R_alloc | apply Kd.R_drewN | apply Kd.R_drew)); exact HO_433001.out) hb)
                                      have n2_ := Aside0.mk (Kd.R_below (by (with_reducible repeat (first | apply Kd.R_alloc | apply Kd.R_drewN | apply Kd.R_drew)); exact HO_443001.out) hb)
                                      have n3_ := Aside0.mk (blk_below (g := gb426) (o := .cells #[.int .i64 t421, .slice Ao17 t422.length co17] 24 (0, 0)) (by (with_reducible repeat (first | refine blk_drewN ?_ _ | refine blk_drew ?_ | refine blk_alloc ?_ _)); exact BK426.out) hb)
                                      have n4_ := Aside0.mk (blk_below (g := gb432) (o := .cells #[.int .i64 t427, .slice Ao23 t428.length co23] 24 (0, 0)) (by (with_reducible repeat (first | refine blk_drewN ?_ _ | refine blk_drew ?_ | refine blk_alloc ?_ _)); exact BK432.out) hb)
                                      have n5_ := Aside0.mk (blk_below (g := gb442) (o := .cells #[.int .i64 t437, .slice Ao58 t438.length co58] 24 (0, 0)) (by (with_reducible repeat (first | refine blk_drewN ?_ _ | refine blk_drew ?_ | refine blk_alloc ?_ _)); exact BK442.out) hb)
                                      have n6_ := Aside0.mk (below_step (by repeat (first | (with_reducible first | exact HB.out | apply below_alloc | apply pw_below_drewN | apply below_drew1 | refine below_set ?_ GE426.out | refine below_set ?_ GE432.out | refine below_set ?_ GE442.out) | exact HB.out)) hb)
                                      clear HO_427001
                                      clear HO_433001
                                      clear HO_443001
                                      clear BK426
                                      clear BK432
                                      clear BK442
                                      clear HB
                                      have HO_427001 := n0_
                                      have HO_433001 := n1_
                                      have HO_443001 := n2_
                                      have BK426 := n3_
                                      have BK432 := n4_
                                      have BK442 := n5_
                                      have HB := n6_
                                      clear n0_ n1_ n2_ n3_ n4_ n5_ n6_
                                      (try clear hb)
                                      (try clear hb2)
                                      (try clear hk)
                                      (try clear hi)
                                      refine hK.out _ _ ⟨(blk_cell BK442.out 0).trans rfl, (blk_cell BK442.out 1).trans rfl, (blk_cell BK426.out 0).trans rfl, (blk_cell BK426.out 1).trans rfl⟩ (fun hHeld => ?_)
                                      clear hK K
                                      refine norm_ (a' := ?_) ?_ ?_
                                      rotate_left
                                      · show Act.put _ (some 114) _ = _
                                        simp only [Act.put, List.setIfInBounds_toArray, List.set_cons_zero, List.set_cons_succ, i64_w, i32_w]
                                        rfl
                                      refine one_ (i := 5) (N := some 117) #[true, true, true, true, true, true, false, false, false, false, false, false, false, false, false, false, false, false, false, false] rfl rfl (one_of HT_.out (by kernel_rfl)) (by decide) (fun K hK => ?_)
                                      refine goes_ Tryd.func22 (by kernel_rfl) rfl #[.agg #[.int .i64 t421, .slice Ao17 t422.length co17], .int .i64 x14_3] (by rfl) rfl rfl (by (try simp only [List.map_toArray, List.map_cons, List.map_nil]); first | done | rfl | (simp only [List.length_drop, List.length_take]; rfl)) ?_
                                      with_reducible refine (bGet.calls kj60 t421 _ _ t422 x14_3 true _ ?side1 ?side2 A67.out).mono ?_
                                      (case side1 => repeat (first | exact (Kd.R_reads' HO_427001.out).2.2 | (with_reducible refine Kd.C_alloc ?_ _) | (with_reducible refine Kd.C_drewN ?_ _) | (with_reducible refine Kd.C_drew ?_)))
                                      (case side2 => exact (Kd.R_reads' HO_427001.out).2.1)
                                      rintro e w75 ⟨rfl, hb⟩
                                      refine ⟨_, rfl, ?_⟩
                                      have n0_ := Aside0.mk (Kd.R_below (by (with_reducible repeat (first | apply Kd.R_alloc | apply Kd.R_drewN | apply Kd.R_drew)); exact HO_427001.out) hb)
                                      have n1_ := Aside0.mk (Kd.R_below (by (with_reducible repeat (first | apply Kd.R_alloc | apply Kd.R_drewN | apply Kd.R_drew)); exact HO_433001.out) hb)
                                      have n2_ := Aside0.mk (Kd.R_below (by (with_reducible repeat (first | apply Kd.R_alloc | apply Kd.R_drewN | apply Kd.R_drew)); exact HO_443001.out) hb)
                                      have n3_ := Aside0.mk (blk_below (g := gb426) (o := .cells #[.int .i64 t421, .slice Ao17 t422.length co17] 24 (0, 0)) (by (with_reducible repeat (first | refine blk_drewN ?_ _ | refine blk_drew ?_ | refine blk_alloc ?_ _)); exact BK426.out) hb)
                                      have n4_ := Aside0.mk (blk_below (g := gb432) (o := .cells #[.int .i64 t427, .slice Ao23 t428.length co23] 24 (0, 0)) (by (with_reducible repeat (first | refine blk_drewN ?_ _ | refine blk_drew ?_ | refine blk_alloc ?_ _)); exact BK432.out) hb)
                                      have n5_ := Aside0.mk (blk_below (g := gb442) (o := .cells #[.int .i64 t437, .slice Ao58 t438.length co58] 24 (0, 0)) (by (with_reducible repeat (first | refine blk_drewN ?_ _ | refine blk_drew ?_ | refine blk_alloc ?_ _)); exact BK442.out) hb)
                                      have n6_ := Aside0.mk (below_step (by repeat (first | (with_reducible first | exact HB.out | apply below_alloc | apply pw_below_drewN | apply below_drew1 | refine below_set ?_ GE426.out | refine below_set ?_ GE432.out | refine below_set ?_ GE442.out) | exact HB.out)) hb)
                                      clear HO_427001
                                      clear HO_433001
                                      clear HO_443001
                                      clear BK426
                                      clear BK432
                                      clear BK442
                                      clear HB
                                      have HO_427001 := n0_
                                      have HO_433001 := n1_
                                      have HO_443001 := n2_
                                      have BK426 := n3_
                                      have BK432 := n4_
                                      have BK442 := n5_
                                      have HB := n6_
                                      clear n0_ n1_ n2_ n3_ n4_ n5_ n6_
                                      (try clear hb)
                                      (try clear hb2)
                                      (try clear hk)
                                      (try clear hi)
                                      refine hK.out _ _ ⟨(blk_cell BK442.out 0).trans rfl, (blk_cell BK442.out 1).trans rfl, (blk_cell BK426.out 0).trans rfl, (blk_cell BK426.out 1).trans rfl⟩ (fun hHeld => ?_)
                                      clear hK K
                                      refine norm_ (a' := ?_) ?_ ?_
                                      rotate_left
                                      · show Act.put _ (some 117) _ = _
                                        simp only [Act.put, List.setIfInBounds_toArray, List.set_cons_zero, List.set_cons_succ, i64_w, i32_w]
                                        rfl
                                      refine pure_ (i := 6) (N := some 118) (v := ?_) (a' := ?_) #[true, true, true, true, true, true, true, false, false, false, false, false, false, false, false, false, false, false, false, false] rfl rfl (any_of HT_.out (by kernel_rfl)) (fun _ _ _ h => h) (Or.inl ⟨by rfl, ?_⟩) ?_ ?_
                                      rotate_left
                                      · intro w'
                                        go_simp
                                        with_reducible rfl
                                      rotate_left
                                      · simp only [Act.put, List.setIfInBounds_toArray, List.set_cons_zero, List.set_cons_succ, i64_w, i32_w]
                                        rfl
                                      refine pure_ (i := 7) (N := some 119) (v := ?_) (a' := ?_) #[true, true, true, true, true, true, true, true, false, false, false, false, false, false, false, false, false, false, false, false] rfl rfl (any_of HT_.out (by kernel_rfl)) (fun _ _ _ h => h) (Or.inl ⟨by rfl, ?_⟩) ?_ ?_
                                      rotate_left
                                      · intro w'
                                        go_simp
                                        with_reducible rfl
                                      rotate_left
                                      · simp only [Act.put, List.setIfInBounds_toArray, List.set_cons_zero, List.set_cons_succ, i64_w, i32_w]
                                        rfl
                                      refine pure_ (i := 8) (N := some 120) (v := ?_) (a' := ?_) #[true, true, true, true, true, true, true, true, true, false, false, false, false, false, false, false, false, false, false, false] rfl rfl (any_of HT_.out (by kernel_rfl)) (fun _ _ _ h => h) (Or.inl ⟨by rfl, ?_⟩) ?_ ?_
                                      rotate_left
                                      · intro w'
                                        go_simp
                                        with_reducible rfl
                                      rotate_left
                                      · simp only [Act.put, List.setIfInBounds_toArray, List.set_cons_zero, List.set_cons_succ, i64_w, i32_w]
                                        rfl
                                      refine pure_ (i := 9) (N := some 121) (v := ?_) (a' := ?_) #[true, true, true, true, true, true, true, true, true, true, false, false, false, false, false, false, false, false, false, false] rfl rfl (any_of HT_.out (by kernel_rfl)) (fun _ _ _ h => h) (Or.inl ⟨by rfl, ?_⟩) ?_ ?_
                                      rotate_left
                                      · intro w'
                                        go_simp
                                        with_reducible rfl
                                      rotate_left
                                      · simp only [Act.put, List.setIfInBounds_toArray, List.set_cons_zero, List.set_cons_succ, i64_w, i32_w]
                                        rfl
                                      refine pure_ (i := 10) (N := some 122) (v := ?_) (a' := ?_) #[true, true, true, true, true, true, true, true, true, true, true, false, false, false, false, false, false, false, false, false] rfl rfl (any_of HT_.out (by kernel_rfl)) (fun _ _ _ h => h) (Or.inl ⟨by rfl, ?_⟩) ?_ ?_
                                      rotate_left
                                      · intro w'
                                        go_simp
                                        with_reducible rfl
                                      rotate_left
                                      · simp only [Act.put, List.setIfInBounds_toArray, List.set_cons_zero, List.set_cons_succ, i64_w, i32_w]
                                        rfl
                                      refine pure_ (i := 11) (N := some 123) (v := ?_) (a' := ?_) #[true, true, true, true, true, true, true, true, true, true, true, true, false, false, false, false, false, false, false, false] rfl rfl (any_of HT_.out (by kernel_rfl)) (fun _ _ _ h => h) (Or.inl ⟨by rfl, ?_⟩) ?_ ?_
                                      rotate_left
                                      · intro w'
                                        go_simp
                                        with_reducible rfl
                                      rotate_left
                                      · simp only [Act.put, List.setIfInBounds_toArray, List.set_cons_zero, List.set_cons_succ, i64_w, i32_w]
                                        rfl
                                      refine pure_ (i := 12) (N := some 124) (v := ?_) (a' := ?_) #[true, true, true, true, true, true, true, true, true, true, true, true, true, false, false, false, false, false, false, false] rfl rfl (any_of HT_.out (by kernel_rfl)) (fun _ _ _ h => h) (Or.inl ⟨by rfl, ?_⟩) ?_ ?_
                                      rotate_left
                                      · intro w'
                                        go_simp
                                        with_reducible rfl
                                      rotate_left
                                      · simp only [Act.put, List.setIfInBounds_toArray, List.set_cons_zero, List.set_cons_succ, i64_w, i32_w]
                                        rfl
                                      refine pure_ (i := 13) (N := some 125) (v := ?_) (a' := ?_) #[true, true, true, true, true, true, true, true, true, true, true, true, true, true, false, false, false, false, false, false] rfl rfl (any_of HT_.out (by kernel_rfl)) (fun _ _ _ h => h) (Or.inl ⟨by rfl, ?_⟩) ?_ ?_
                                      rotate_left
                                      · intro w'
                                        go_simp
                                        with_reducible rfl
                                      rotate_left
                                      · simp only [Act.put, List.setIfInBounds_toArray, List.set_cons_zero, List.set_cons_succ, i64_w, i32_w]
                                        rfl
                                      refine pure_ (i := 15) (N := some 127) (v := ?_) (a' := ?_) #[true, true, true, true, true, true, true, true, true, true, true, true, true, true, false, true, false, false, false, false] rfl rfl (any_of HT_.out (by kernel_rfl)) (fun _ _ _ h => h) (Or.inl ⟨by rfl, ?_⟩) ?_ ?_
                                      rotate_left
                                      · intro w'
                                        go_simp
                                        with_reducible rfl
                                      rotate_left
                                      · simp only [Act.put, List.setIfInBounds_toArray, List.set_cons_zero, List.set_cons_succ, i64_w, i32_w]
                                        rfl
                                      refine take_ (i := 14) (N := some 126) (v := ?_) (a' := ?_) #[true, true, true, true, true, true, true, true, true, true, true, true, true, true, true, true, false, false, false, false] rfl rfl (take_ofW HT_.out HW_.out (by kernel_rfl)) (fun _ _ _ h => h) (Or.inl ⟨by rfl, ?_⟩) hHeld ?_ ?_
                                      rotate_left
                                      · rintro w' ⟨s0, s1, s2, s3⟩
                                        go_simp
                                        with_reducible rfl
                                      rotate_left
                                      · simp only [Act.put, List.setIfInBounds_toArray, List.set_cons_zero, List.set_cons_succ, i64_w, i32_w]
                                        rfl
                                      refine one_ (i := 16) (N := some 128) #[true, true, true, true, true, true, true, true, true, true, true, true, true, true, true, true, true, false, false, false] rfl rfl (one_of HT_.out (by kernel_rfl)) (by decide) (fun K hK => ?_)
                                      refine goes_ Tryd.func22 (by kernel_rfl) rfl #[.agg #[.int .i64 t421, .slice Ao17 t422.length co17], .int .i64 x14_3] (by rfl) rfl rfl (by (try simp only [List.map_toArray, List.map_cons, List.map_nil]); first | done | rfl | (simp only [List.length_drop, List.length_take]; rfl)) ?_
                                      with_reducible refine (bGet.calls kj60 t421 _ _ t422 x14_3 true _ ?side1 ?side2 A71.out).mono ?_
                                      (case side1 => repeat (first | exact (Kd.R_reads' HO_427001.out).2.2 | (with_reducible refine Kd.C_alloc ?_ _) | (with_reducible refine Kd.C_drewN ?_ _) | (with_reducible refine Kd.C_drew ?_)))
                                      (case side2 => exact (Kd.R_reads' HO_427001.out).2.1)
                                      rintro e w76 ⟨rfl, hb⟩
                                      refine ⟨_, rfl, ?_⟩
                                      have n0_ := Aside0.mk (Kd.R_below (by (with_reducible repeat (first | apply Kd.R_alloc | apply Kd.R_drewN | apply Kd.R_drew)); exact HO_427001.out) hb)
                                      have n1_ := Aside0.mk (Kd.R_below (by (with_reducible repeat (first | apply Kd.R_alloc | apply Kd.R_drewN | apply Kd.R_drew)); exact HO_433001.out) hb)
                                      have n2_ := Aside0.mk (Kd.R_below (by (with_reducible repeat (first | apply Kd.R_alloc | apply Kd.R_drewN | apply Kd.R_drew)); exact HO_443001.out) hb)
                                      have n3_ := Aside0.mk (blk_below (g := gb426) (o := .cells #[.int .i64 t421, .slice Ao17 t422.length co17] 24 (0, 0)) (by (with_reducible repeat (first | refine blk_drewN ?_ _ | refine blk_drew ?_ | refine blk_alloc ?_ _)); exact BK426.out) hb)
                                      have n4_ := Aside0.mk (blk_below (g := gb432) (o := .cells #[.int .i64 t427, .slice Ao23 t428.length co23] 24 (0, 0)) (by (with_reducible repeat (first | refine blk_drewN ?_ _ | refine blk_drew ?_ | refine blk_alloc ?_ _)); exact BK432.out) hb)
                                      have n5_ := Aside0.mk (blk_below (g := gb442) (o := .cells #[.int .i64 t437, .slice Ao58 t438.length co58] 24 (0, 0)) (by (with_reducible repeat (first | refine blk_drewN ?_ _ | refine blk_drew ?_ | refine blk_alloc ?_ _)); exact BK442.out) hb)
                                      have n6_ := Aside0.mk (below_step (by repeat (first | (with_reducible first | exact HB.out | apply below_alloc | apply pw_below_drewN | apply below_drew1 | refine below_set ?_ GE426.out | refine below_set ?_ GE432.out | refine below_set ?_ GE442.out) | exact HB.out)) hb)
                                      clear HO_427001
                                      clear HO_433001
                                      clear HO_443001
                                      clear BK426
                                      clear BK432
                                      clear BK442
                                      clear HB
                                      have HO_427001 := n0_
                                      have HO_433001 := n1_
                                      have HO_443001 := n2_
                                      have BK426 := n3_
                                      have BK432 := n4_
                                      have BK442 := n5_
                                      have HB := n6_
                                      clear n0_ n1_ n2_ n3_ n4_ n5_ n6_
                                      (try clear hb)
                                      (try clear hb2)
                                      (try clear hk)
                                      (try clear hi)
                                      refine hK.out _ _ ⟨(blk_cell BK442.out 0).trans rfl, (blk_cell BK442.out 1).trans rfl, (blk_cell BK426.out 0).trans rfl, (blk_cell BK426.out 1).trans rfl⟩ (fun hHeld => ?_)
                                      clear hK K
                                      refine norm_ (a' := ?_) ?_ ?_
                                      rotate_left
                                      · show Act.put _ (some 128) _ = _
                                        simp only [Act.put, List.setIfInBounds_toArray, List.set_cons_zero, List.set_cons_succ, i64_w, i32_w]
                                        rfl
                                      refine pure_ (i := 17) (N := some 129) (v := ?_) (a' := ?_) #[true, true, true, true, true, true, true, true, true, true, true, true, true, true, true, true, true, true, false, false] rfl rfl (any_of HT_.out (by kernel_rfl)) (fun _ _ _ h => h) (Or.inl ⟨by rfl, ?_⟩) ?_ ?_
                                      rotate_left
                                      · intro w'
                                        go_simp
                                        with_reducible rfl
                                      rotate_left
                                      · simp only [Act.put, List.setIfInBounds_toArray, List.set_cons_zero, List.set_cons_succ, i64_w, i32_w]
                                        rfl
                                      refine pure_ (i := 18) (N := some 130) (v := ?_) (a' := ?_) #[true, true, true, true, true, true, true, true, true, true, true, true, true, true, true, true, true, true, true, false] rfl rfl (any_of HT_.out (by kernel_rfl)) (fun _ _ _ h => h) (Or.inl ⟨by rfl, ?_⟩) ?_ ?_
                                      rotate_left
                                      · intro w'
                                        go_simp
                                        with_reducible rfl
                                      rotate_left
                                      · simp only [Act.put, List.setIfInBounds_toArray, List.set_cons_zero, List.set_cons_succ, i64_w, i32_w]
                                        rfl
                                      refine pure_ (i := 19) (N := some 131) (v := ?_) (a' := ?_) #[true, true, true, true, true, true, true, true, true, true, true, true, true, true, true, true, true, true, true, true] rfl rfl (any_of HT_.out (by kernel_rfl)) (fun _ _ _ h => h) (Or.inl ⟨by rfl, ?_⟩) ?_ ?_
                                      rotate_left
                                      · intro w'
                                        go_simp
                                        with_reducible rfl
                                      rotate_left
                                      · simp only [Act.put, List.setIfInBounds_toArray, List.set_cons_zero, List.set_cons_succ, i64_w, i32_w]
                                        rfl
                                      refine done_ (done_of HT_.out (by kernel_rfl)) ?_
                                      try go_wp2
                                      go_roundg kj60
                                      case measure => have := HK1.out; have := HJ12.out; have := HK3.out; have := HJ60.out; omega
                                      case rel => exact ⟨(wrap64 (x14_3 + 1)), (by first | rfl | (simp; done) | (simp [*]; done)), H', ⟨by have := HK1.out; have := HJ12.out; have := HK3.out; have := HJ60.out; omega⟩, ⟨by (with_reducible repeat (first | apply Kd.R_alloc | apply Kd.R_drewN | apply Kd.R_drew)); exact HO_427001.out⟩, ⟨by (with_reducible repeat (first | apply Kd.R_alloc | apply Kd.R_drewN | apply Kd.R_drew)); exact HO_433001.out⟩, ⟨by (with_reducible repeat (first | apply Kd.R_alloc | apply Kd.R_drewN | apply Kd.R_drew)); exact HO_443001.out⟩, ⟨by (with_reducible repeat (first | refine blk_drewN ?_ _ | refine blk_drew ?_ | refine blk_alloc ?_ _)); exact BK426.out⟩, ⟨by (with_reducible repeat (first | refine blk_drewN ?_ _ | refine blk_drew ?_ | refine blk_alloc ?_ _)); exact BK432.out⟩, ⟨by (with_reducible repeat (first | refine blk_drewN ?_ _ | refine blk_drew ?_ | refine blk_alloc ?_ _)); exact BK442.out⟩, ⟨by repeat (first | (with_reducible first | exact HB.out | apply below_alloc | apply pw_below_drewN | apply below_drew1 | refine below_set ?_ GE426.out | refine below_set ?_ GE432.out | refine below_set ?_ GE442.out) | exact HB.out)⟩⟩
                                    · replace c72 := Bool.eq_false_iff.mpr c72
                                      subst c72
                                      have H1 : (some false) = some r := by rw [if_neg (show ¬ (false = true) by decide)] at H; exact H
                                      clear H
                                      have H := H1
                                      clear H1
                                      exact absurd ((Option.some.inj H).trans hT.out) (by decide)
                                  · replace c70 := Bool.eq_false_iff.mpr c70
                                    subst c70
                                    (try have hz_ : t447 = true := by have q_ := c69b0; revert q_; cases t447 <;> simp)
                                    have H1 : (l02BitmapOrders.l1 kj60 l1 (wrap64 (Int.tmod a0 1200)) (wrap64 (x14_3 + 1)) t421 t422 t437 t438) = some r := by rw [if_neg (show ¬ (false = true) by decide)] at H; exact H
                                    clear H
                                    have H := H1
                                    clear H1
                                    have H' := Aside0.mk H
                                    clear H
                                    try go_wp2
                                    have n0_ := Aside0.mk (Kd.R_drew HO_427001.out)
                                    have n1_ := Aside0.mk (Kd.R_drew HO_433001.out)
                                    have n2_ := Aside0.mk (Kd.R_drew HO_443001.out)
                                    have n3_ := Aside0.mk (blk_drew BK426.out)
                                    have n4_ := Aside0.mk (blk_drew BK432.out)
                                    have n5_ := Aside0.mk (blk_drew BK442.out)
                                    have n6_ := Aside0.mk (below_drew1 HB.out)
                                    clear HO_427001
                                    clear HO_433001
                                    clear HO_443001
                                    clear BK426
                                    clear BK432
                                    clear BK442
                                    clear HB
                                    have HO_427001 := n0_
                                    have HO_433001 := n1_
                                    have HO_443001 := n2_
                                    have BK426 := n3_
                                    have BK432 := n4_
                                    have BK442 := n5_
                                    have HB := n6_
                                    clear n0_ n1_ n2_ n3_ n4_ n5_ n6_
                                    refine start_ (n := 20) (S := fun w' => w'.cell? ⟨gb442, 0, none⟩ = some (.int .i64 t437) ∧ w'.cell? ⟨gb442, 1, none⟩ = some (.slice Ao58 t438.length co58) ∧ w'.cell? ⟨gb426, 0, none⟩ = some (.int .i64 t421) ∧ w'.cell? ⟨gb426, 1, none⟩ = some (.slice Ao17 t422.length co17)) (ds := []) #[false, false, false, false, false, false, false, false, false, false, false, false, false, false, false, false, false, false, false, false] (by kernel_rfl) rfl rfl ⟨(blk_cell BK442.out 0).trans rfl, (blk_cell BK442.out 1).trans rfl, (blk_cell BK426.out 0).trans rfl, (blk_cell BK426.out 1).trans rfl⟩ (fun hHeld => ?_); refine with_tabW l02BitmapOrders.tab20 l02BitmapOrders.bits20 (fun HT_ HW_ => ?_)
                                    generalize wc.drew = w77 at HO_427001 HO_433001 HO_443001 BK426 BK432 BK442 HB hHeld ⊢
                                    refine pure_ (i := 1) (N := some 113) (v := ?_) (a' := ?_) #[false, true, false, false, false, false, false, false, false, false, false, false, false, false, false, false, false, false, false, false] rfl rfl (any_of HT_.out (by kernel_rfl)) (fun _ _ _ h => h) (Or.inl ⟨by rfl, ?_⟩) ?_ ?_
                                    rotate_left
                                    · intro w'
                                      go_simp
                                      with_reducible rfl
                                    rotate_left
                                    · simp only [Act.put, List.setIfInBounds_toArray, List.set_cons_zero, List.set_cons_succ, i64_w, i32_w]
                                      rfl
                                    refine pure_ (i := 4) (N := some 116) (v := ?_) (a' := ?_) #[false, true, false, false, true, false, false, false, false, false, false, false, false, false, false, false, false, false, false, false] rfl rfl (any_of HT_.out (by kernel_rfl)) (fun _ _ _ h => h) (Or.inl ⟨by rfl, ?_⟩) ?_ ?_
                                    rotate_left
                                    · intro w'
                                      go_simp
                                      with_reducible rfl
                                    rotate_left
                                    · simp only [Act.put, List.setIfInBounds_toArray, List.set_cons_zero, List.set_cons_succ, i64_w, i32_w]
                                      rfl
                                    refine take_ (i := 0) (N := some 112) (v := ?_) (a' := ?_) #[true, true, false, false, true, false, false, false, false, false, false, false, false, false, false, false, false, false, false, false] rfl rfl (take_ofW HT_.out HW_.out (by kernel_rfl)) (fun _ _ _ h => h) (Or.inl ⟨by rfl, ?_⟩) hHeld ?_ ?_
                                    rotate_left
                                    · rintro w' ⟨s0, s1, s2, s3⟩
                                      go_simp
                                      with_reducible rfl
                                    rotate_left
                                    · simp only [Act.put, List.setIfInBounds_toArray, List.set_cons_zero, List.set_cons_succ, i64_w, i32_w]
                                      rfl
                                    refine take_ (i := 3) (N := some 115) (v := ?_) (a' := ?_) #[true, true, false, true, true, false, false, false, false, false, false, false, false, false, false, false, false, false, false, false] rfl rfl (take_ofW HT_.out HW_.out (by kernel_rfl)) (fun _ _ _ h => h) (Or.inl ⟨by rfl, ?_⟩) hHeld ?_ ?_
                                    rotate_left
                                    · rintro w' ⟨s0, s1, s2, s3⟩
                                      go_simp
                                      with_reducible rfl
                                    rotate_left
                                    · simp only [Act.put, List.setIfInBounds_toArray, List.set_cons_zero, List.set_cons_succ, i64_w, i32_w]
                                      rfl
                                    refine one_ (i := 2) (N := some 114) #[true, true, true, true, true, false, false, false, false, false, false, false, false, false, false, false, false, false, false, false] rfl rfl (one_of HT_.out (by kernel_rfl)) (by decide) (fun K hK => ?_)
                                    refine goes_ Tryd.func22 (by kernel_rfl) rfl #[.agg #[.int .i64 t437, .slice Ao58 t438.length co58], .int .i64 x14_3] (by rfl) rfl rfl (by (try simp only [List.map_toArray, List.map_cons, List.map_nil]); first | done | rfl | (simp only [List.length_drop, List.length_take]; rfl)) ?_
                                    with_reducible refine (bGet.calls kj60 t437 _ _ t438 x14_3 t447 _ ?side1 ?side2 A66.out).mono ?_
                                    (case side1 => repeat (first | exact (Kd.R_reads' HO_443001.out).2.2 | (with_reducible refine Kd.C_alloc ?_ _) | (with_reducible refine Kd.C_drewN ?_ _) | (with_reducible refine Kd.C_drew ?_)))
                                    (case side2 => exact (Kd.R_reads' HO_443001.out).2.1)
                                    rintro e w78 ⟨rfl, hb⟩
                                    refine ⟨_, rfl, ?_⟩
                                    have n0_ := Aside0.mk (Kd.R_below (by (with_reducible repeat (first | apply Kd.R_alloc | apply Kd.R_drewN | apply Kd.R_drew)); exact HO_427001.out) hb)
                                    have n1_ := Aside0.mk (Kd.R_below (by (with_reducible repeat (first | apply Kd.R_alloc | apply Kd.R_drewN | apply Kd.R_drew)); exact HO_433001.out) hb)
                                    have n2_ := Aside0.mk (Kd.R_below (by (with_reducible repeat (first | apply Kd.R_alloc | apply Kd.R_drewN | apply Kd.R_drew)); exact HO_443001.out) hb)
                                    have n3_ := Aside0.mk (blk_below (g := gb426) (o := .cells #[.int .i64 t421, .slice Ao17 t422.length co17] 24 (0, 0)) (by (with_reducible repeat (first | refine blk_drewN ?_ _ | refine blk_drew ?_ | refine blk_alloc ?_ _)); exact BK426.out) hb)
                                    have n4_ := Aside0.mk (blk_below (g := gb432) (o := .cells #[.int .i64 t427, .slice Ao23 t428.length co23] 24 (0, 0)) (by (with_reducible repeat (first | refine blk_drewN ?_ _ | refine blk_drew ?_ | refine blk_alloc ?_ _)); exact BK432.out) hb)
                                    have n5_ := Aside0.mk (blk_below (g := gb442) (o := .cells #[.int .i64 t437, .slice Ao58 t438.length co58] 24 (0, 0)) (by (with_reducible repeat (first | refine blk_drewN ?_ _ | refine blk_drew ?_ | refine blk_alloc ?_ _)); exact BK442.out) hb)
                                    have n6_ := Aside0.mk (below_step (by repeat (first | (with_reducible first | exact HB.out | apply below_alloc | apply pw_below_drewN | apply below_drew1 | refine below_set ?_ GE426.out | refine below_set ?_ GE432.out | refine below_set ?_ GE442.out) | exact HB.out)) hb)
                                    clear HO_427001
                                    clear HO_433001
                                    clear HO_443001
                                    clear BK426
                                    clear BK432
                                    clear BK442
                                    clear HB
                                    have HO_427001 := n0_
                                    have HO_433001 := n1_
                                    have HO_443001 := n2_
                                    have BK426 := n3_
                                    have BK432 := n4_
                                    have BK442 := n5_
                                    have HB := n6_
                                    clear n0_ n1_ n2_ n3_ n4_ n5_ n6_
                                    (try clear hb)
                                    (try clear hb2)
                                    (try clear hk)
                                    (try clear hi)
                                    refine hK.out _ _ ⟨(blk_cell BK442.out 0).trans rfl, (blk_cell BK442.out 1).trans rfl, (blk_cell BK426.out 0).trans rfl, (blk_cell BK426.out 1).trans rfl⟩ (fun hHeld => ?_)
                                    clear hK K
                                    refine norm_ (a' := ?_) ?_ ?_
                                    rotate_left
                                    · show Act.put _ (some 114) _ = _
                                      simp only [Act.put, List.setIfInBounds_toArray, List.set_cons_zero, List.set_cons_succ, i64_w, i32_w]
                                      rfl
                                    refine one_ (i := 5) (N := some 117) #[true, true, true, true, true, true, false, false, false, false, false, false, false, false, false, false, false, false, false, false] rfl rfl (one_of HT_.out (by kernel_rfl)) (by decide) (fun K hK => ?_)
                                    refine goes_ Tryd.func22 (by kernel_rfl) rfl #[.agg #[.int .i64 t421, .slice Ao17 t422.length co17], .int .i64 x14_3] (by rfl) rfl rfl (by (try simp only [List.map_toArray, List.map_cons, List.map_nil]); first | done | rfl | (simp only [List.length_drop, List.length_take]; rfl)) ?_
                                    with_reducible refine (bGet.calls kj60 t421 _ _ t422 x14_3 true _ ?side1 ?side2 A67.out).mono ?_
                                    (case side1 => repeat (first | exact (Kd.R_reads' HO_427001.out).2.2 | (with_reducible refine Kd.C_alloc ?_ _) | (with_reducible refine Kd.C_drewN ?_ _) | (with_reducible refine Kd.C_drew ?_)))
                                    (case side2 => exact (Kd.R_reads' HO_427001.out).2.1)
                                    rintro e w79 ⟨rfl, hb⟩
                                    refine ⟨_, rfl, ?_⟩
                                    have n0_ := Aside0.mk (Kd.R_below (by (with_reducible repeat (first | apply Kd.R_alloc | apply Kd.R_drewN | apply Kd.R_drew)); exact HO_427001.out) hb)
                                    have n1_ := Aside0.mk (Kd.R_below (by (with_reducible repeat (first | apply Kd.R_alloc | apply Kd.R_drewN | apply Kd.R_drew)); exact HO_433001.out) hb)
                                    have n2_ := Aside0.mk (Kd.R_below (by (with_reducible repeat (first | apply Kd.R_alloc | apply Kd.R_drewN | apply Kd.R_drew)); exact HO_443001.out) hb)
                                    have n3_ := Aside0.mk (blk_below (g := gb426) (o := .cells #[.int .i64 t421, .slice Ao17 t422.length co17] 24 (0, 0)) (by (with_reducible repeat (first | refine blk_drewN ?_ _ | refine blk_drew ?_ | refine blk_alloc ?_ _)); exact BK426.out) hb)
                                    have n4_ := Aside0.mk (blk_below (g := gb432) (o := .cells #[.int .i64 t427, .slice Ao23 t428.length co23] 24 (0, 0)) (by (with_reducible repeat (first | refine blk_drewN ?_ _ | refine blk_drew ?_ | refine blk_alloc ?_ _)); exact BK432.out) hb)
                                    have n5_ := Aside0.mk (blk_below (g := gb442) (o := .cells #[.int .i64 t437, .slice Ao58 t438.length co58] 24 (0, 0)) (by (with_reducible repeat (first | refine blk_drewN ?_ _ | refine blk_drew ?_ | refine blk_alloc ?_ _)); exact BK442.out) hb)
                                    have n6_ := Aside0.mk (below_step (by repeat (first | (with_reducible first | exact HB.out | apply below_alloc | apply pw_below_drewN | apply below_drew1 | refine below_set ?_ GE426.out | refine below_set ?_ GE432.out | refine below_set ?_ GE442.out) | exact HB.out)) hb)
                                    clear HO_427001
                                    clear HO_433001
                                    clear HO_443001
                                    clear BK426
                                    clear BK432
                                    clear BK442
                                    clear HB
                                    have HO_427001 := n0_
                                    have HO_433001 := n1_
                                    have HO_443001 := n2_
                                    have BK426 := n3_
                                    have BK432 := n4_
                                    have BK442 := n5_
                                    have HB := n6_
                                    clear n0_ n1_ n2_ n3_ n4_ n5_ n6_
                                    (try clear hb)
                                    (try clear hb2)
                                    (try clear hk)
                                    (try clear hi)
                                    refine hK.out _ _ ⟨(blk_cell BK442.out 0).trans rfl, (blk_cell BK442.out 1).trans rfl, (blk_cell BK426.out 0).trans rfl, (blk_cell BK426.out 1).trans rfl⟩ (fun hHeld => ?_)
                                    clear hK K
                                    refine norm_ (a' := ?_) ?_ ?_
                                    rotate_left
                                    · show Act.put _ (some 117) _ = _
                                      simp only [Act.put, List.setIfInBounds_toArray, List.set_cons_zero, List.set_cons_succ, i64_w, i32_w]
                                      rfl
                                    refine pure_ (i := 6) (N := some 118) (v := ?_) (a' := ?_) #[true, true, true, true, true, true, true, false, false, false, false, false, false, false, false, false, false, false, false, false] rfl rfl (any_of HT_.out (by kernel_rfl)) (fun _ _ _ h => h) (Or.inl ⟨by rfl, ?_⟩) ?_ ?_
                                    rotate_left
                                    · intro w'
                                      go_simp
                                      with_reducible rfl
                                    rotate_left
                                    · simp only [Act.put, List.setIfInBounds_toArray, List.set_cons_zero, List.set_cons_succ, i64_w, i32_w]
                                      rfl
                                    refine pure_ (i := 7) (N := some 119) (v := ?_) (a' := ?_) #[true, true, true, true, true, true, true, true, false, false, false, false, false, false, false, false, false, false, false, false] rfl rfl (any_of HT_.out (by kernel_rfl)) (fun _ _ _ h => h) (Or.inl ⟨by rfl, ?_⟩) ?_ ?_
                                    rotate_left
                                    · intro w'
                                      go_simp
                                      with_reducible rfl
                                    rotate_left
                                    · simp only [Act.put, List.setIfInBounds_toArray, List.set_cons_zero, List.set_cons_succ, i64_w, i32_w]
                                      rfl
                                    refine pure_ (i := 8) (N := some 120) (v := ?_) (a' := ?_) #[true, true, true, true, true, true, true, true, true, false, false, false, false, false, false, false, false, false, false, false] rfl rfl (any_of HT_.out (by kernel_rfl)) (fun _ _ _ h => h) (Or.inl ⟨by rfl, ?_⟩) ?_ ?_
                                    rotate_left
                                    · intro w'
                                      go_simp
                                      with_reducible rfl
                                    rotate_left
                                    · simp only [Act.put, List.setIfInBounds_toArray, List.set_cons_zero, List.set_cons_succ, i64_w, i32_w]
                                      rfl
                                    refine pure_ (i := 9) (N := some 121) (v := ?_) (a' := ?_) #[true, true, true, true, true, true, true, true, true, true, false, false, false, false, false, false, false, false, false, false] rfl rfl (any_of HT_.out (by kernel_rfl)) (fun _ _ _ h => h) (Or.inl ⟨by rfl, ?_⟩) ?_ ?_
                                    rotate_left
                                    · intro w'
                                      go_simp
                                      with_reducible rfl
                                    rotate_left
                                    · simp only [Act.put, List.setIfInBounds_toArray, List.set_cons_zero, List.set_cons_succ, i64_w, i32_w]
                                      rfl
                                    refine pure_ (i := 10) (N := some 122) (v := ?_) (a' := ?_) #[true, true, true, true, true, true, true, true, true, true, true, false, false, false, false, false, false, false, false, false] rfl rfl (any_of HT_.out (by kernel_rfl)) (fun _ _ _ h => h) (Or.inl ⟨by rfl, ?_⟩) ?_ ?_
                                    rotate_left
                                    · intro w'
                                      go_simp
                                      with_reducible rfl
                                    rotate_left
                                    · simp only [Act.put, List.setIfInBounds_toArray, List.set_cons_zero, List.set_cons_succ, i64_w, i32_w]
                                      rfl
                                    refine pure_ (i := 11) (N := some 123) (v := ?_) (a' := ?_) #[true, true, true, true, true, true, true, true, true, true, true, true, false, false, false, false, false, false, false, false] rfl rfl (any_of HT_.out (by kernel_rfl)) (fun _ _ _ h => h) (Or.inl ⟨by rfl, ?_⟩) ?_ ?_
                                    rotate_left
                                    · intro w'
                                      go_simp
                                      with_reducible rfl
                                    rotate_left
                                    · simp only [Act.put, List.setIfInBounds_toArray, List.set_cons_zero, List.set_cons_succ, i64_w, i32_w]
                                      rfl
                                    refine pure_ (i := 12) (N := some 124) (v := ?_) (a' := ?_) #[true, true, true, true, true, true, true, true, true, true, true, true, true, false, false, false, false, false, false, false] rfl rfl (any_of HT_.out (by kernel_rfl)) (fun _ _ _ h => h) (Or.inl ⟨by rfl, ?_⟩) ?_ ?_
                                    rotate_left
                                    · intro w'
                                      go_simp
                                      with_reducible rfl
                                    rotate_left
                                    · simp only [Act.put, List.setIfInBounds_toArray, List.set_cons_zero, List.set_cons_succ, i64_w, i32_w]
                                      rfl
                                    refine pure_ (i := 13) (N := some 125) (v := ?_) (a' := ?_) #[true, true, true, true, true, true, true, true, true, true, true, true, true, true, false, false, false, false, false, false] rfl rfl (any_of HT_.out (by kernel_rfl)) (fun _ _ _ h => h) (Or.inl ⟨by rfl, ?_⟩) ?_ ?_
                                    rotate_left
                                    · intro w'
                                      go_simp
                                      with_reducible rfl
                                    rotate_left
                                    · simp only [Act.put, List.setIfInBounds_toArray, List.set_cons_zero, List.set_cons_succ, i64_w, i32_w]
                                      rfl
                                    refine pure_ (i := 14) (N := some 126) (v := undef) (a' := ?_) #[true, true, true, true, true, true, true, true, true, true, true, true, true, true, true, false, false, false, false, false] rfl rfl (any_of HT_.out (by kernel_rfl)) (fun _ _ _ h => h) (Or.inr ⟨by rfl, rfl⟩) ?_ ?_
                                    rotate_left
                                    · simp only [Act.put, List.setIfInBounds_toArray, List.set_cons_zero, List.set_cons_succ, i64_w, i32_w]
                                      rfl
                                    refine pure_ (i := 15) (N := some 127) (v := undef) (a' := ?_) #[true, true, true, true, true, true, true, true, true, true, true, true, true, true, true, true, false, false, false, false] rfl rfl (any_of HT_.out (by kernel_rfl)) (fun _ _ _ h => h) (Or.inr ⟨by rfl, rfl⟩) ?_ ?_
                                    rotate_left
                                    · simp only [Act.put, List.setIfInBounds_toArray, List.set_cons_zero, List.set_cons_succ, i64_w, i32_w]
                                      rfl
                                    refine pure_ (i := 16) (N := some 128) (v := undef) (a' := ?_) #[true, true, true, true, true, true, true, true, true, true, true, true, true, true, true, true, true, false, false, false] rfl rfl (any_of HT_.out (by kernel_rfl)) (fun _ _ _ h => h) (Or.inr ⟨by rfl, rfl⟩) ?_ ?_
                                    rotate_left
                                    · simp only [Act.put, List.setIfInBounds_toArray, List.set_cons_zero, List.set_cons_succ, i64_w, i32_w]
                                      rfl
                                    refine pure_ (i := 17) (N := some 129) (v := undef) (a' := ?_) #[true, true, true, true, true, true, true, true, true, true, true, true, true, true, true, true, true, true, false, false] rfl rfl (any_of HT_.out (by kernel_rfl)) (fun _ _ _ h => h) (Or.inr ⟨by rfl, rfl⟩) ?_ ?_
                                    rotate_left
                                    · simp only [Act.put, List.setIfInBounds_toArray, List.set_cons_zero, List.set_cons_succ, i64_w, i32_w]
                                      rfl
                                    refine pure_ (i := 18) (N := some 130) (v := ?_) (a' := ?_) #[true, true, true, true, true, true, true, true, true, true, true, true, true, true, true, true, true, true, true, false] rfl rfl (any_of HT_.out (by kernel_rfl)) (fun _ _ _ h => h) (Or.inl ⟨by rfl, ?_⟩) ?_ ?_
                                    rotate_left
                                    · intro w'
                                      go_simp
                                      with_reducible rfl
                                    rotate_left
                                    · simp only [Act.put, List.setIfInBounds_toArray, List.set_cons_zero, List.set_cons_succ, i64_w, i32_w]
                                      rfl
                                    refine pure_ (i := 19) (N := some 131) (v := ?_) (a' := ?_) #[true, true, true, true, true, true, true, true, true, true, true, true, true, true, true, true, true, true, true, true] rfl rfl (any_of HT_.out (by kernel_rfl)) (fun _ _ _ h => h) (Or.inl ⟨by rfl, ?_⟩) ?_ ?_
                                    rotate_left
                                    · intro w'
                                      go_simp
                                      with_reducible rfl
                                    rotate_left
                                    · simp only [Act.put, List.setIfInBounds_toArray, List.set_cons_zero, List.set_cons_succ, i64_w, i32_w]
                                      rfl
                                    refine done_ (done_of HT_.out (by kernel_rfl)) ?_
                                    try go_wp2
                                    go_roundg kj60
                                    case measure => have := HK1.out; have := HJ12.out; have := HK3.out; have := HJ60.out; omega
                                    case rel => exact ⟨(wrap64 (x14_3 + 1)), (by first | rfl | (simp; done) | (simp [*]; done)), H', ⟨by have := HK1.out; have := HJ12.out; have := HK3.out; have := HJ60.out; omega⟩, ⟨by (with_reducible repeat (first | apply Kd.R_alloc | apply Kd.R_drewN | apply Kd.R_drew)); exact HO_427001.out⟩, ⟨by (with_reducible repeat (first | apply Kd.R_alloc | apply Kd.R_drewN | apply Kd.R_drew)); exact HO_433001.out⟩, ⟨by (with_reducible repeat (first | apply Kd.R_alloc | apply Kd.R_drewN | apply Kd.R_drew)); exact HO_443001.out⟩, ⟨by (with_reducible repeat (first | refine blk_drewN ?_ _ | refine blk_drew ?_ | refine blk_alloc ?_ _)); exact BK426.out⟩, ⟨by (with_reducible repeat (first | refine blk_drewN ?_ _ | refine blk_drew ?_ | refine blk_alloc ?_ _)); exact BK432.out⟩, ⟨by (with_reducible repeat (first | refine blk_drewN ?_ _ | refine blk_drew ?_ | refine blk_alloc ?_ _)); exact BK442.out⟩, ⟨by repeat (first | (with_reducible first | exact HB.out | apply below_alloc | apply pw_below_drewN | apply below_drew1 | refine below_set ?_ GE426.out | refine below_set ?_ GE432.out | refine below_set ?_ GE442.out) | exact HB.out)⟩⟩
                              · replace c68 := Bool.eq_false_iff.mpr c68
                                subst c68
                                have H1 : (if (t447 != false) = true then (some false) else (if x15_60 = true then ((bGet.f kj60 t421 t422 x14_3).bind fun t450 => (if t450 = true then (l02BitmapOrders.l1 kj60 l1 (wrap64 (Int.tmod a0 1200)) (wrap64 (x14_3 + 1)) t421 t422 t437 t438) else (some false))) else (l02BitmapOrders.l1 kj60 l1 (wrap64 (Int.tmod a0 1200)) (wrap64 (x14_3 + 1)) t421 t422 t437 t438))) = some r := by rw [if_neg (show ¬ (false = true) by decide)] at H; exact H
                                clear H
                                have H := H1
                                clear H1
                                by_cases c80 : (t447 != false) = true
                                · rw [if_pos c80] at H
                                  have c80b0 : (t447 != false) = true := c80
                                  (try (have c80b1 : decide (t447 = false) = false := by simpa using c80))
                                  (try (have c80b2 : (t447 == false) = false := by simpa using c80))
                                  (try (have c80b3 : ¬ (t447 = false) := by simpa using c80))
                                  clear c80
                                  exact absurd ((Option.some.inj H).trans hT.out) (by decide)
                                · rw [if_neg c80] at H
                                  have c80b0 : (t447 != false) = false := by simpa using c80
                                  (try (have c80b1 : decide (t447 = false) = true := by simpa using c80))
                                  (try (have c80b2 : (t447 == false) = true := by simpa using c80))
                                  clear c80
                                  by_cases c81 : x15_60 = true
                                  · subst c81
                                    (try have hz_ : t447 = false := by have q_ := c69b0; revert q_; cases t447 <;> simp)
                                    have H1 : ((bGet.f kj60 t421 t422 x14_3).bind fun t450 => (if t450 = true then (l02BitmapOrders.l1 kj60 l1 (wrap64 (Int.tmod a0 1200)) (wrap64 (x14_3 + 1)) t421 t422 t437 t438) else (some false))) = some r := by rw [if_pos rfl] at H; exact H
                                    clear H
                                    have H := H1
                                    clear H1
                                    replace H := Option.bind_eq_some_iff.mp H
                                    obtain ⟨t450, A820, H⟩ := H
                                    replace H : (if t450 = true then (l02BitmapOrders.l1 kj60 l1 (wrap64 (Int.tmod a0 1200)) (wrap64 (x14_3 + 1)) t421 t422 t437 t438) else (some false)) = some r := H
                                    have A82 := Aside0.mk A820
                                    clear A820
                                    by_cases c83 : t450 = true
                                    · subst c83
                                      have H1 : (l02BitmapOrders.l1 kj60 l1 (wrap64 (Int.tmod a0 1200)) (wrap64 (x14_3 + 1)) t421 t422 t437 t438) = some r := by rw [if_pos rfl] at H; exact H
                                      clear H
                                      have H := H1
                                      clear H1
                                      have H' := Aside0.mk H
                                      clear H
                                      try go_wp2
                                      have n0_ := Aside0.mk (Kd.R_drew HO_427001.out)
                                      have n1_ := Aside0.mk (Kd.R_drew HO_433001.out)
                                      have n2_ := Aside0.mk (Kd.R_drew HO_443001.out)
                                      have n3_ := Aside0.mk (blk_drew BK426.out)
                                      have n4_ := Aside0.mk (blk_drew BK432.out)
                                      have n5_ := Aside0.mk (blk_drew BK442.out)
                                      have n6_ := Aside0.mk (below_drew1 HB.out)
                                      clear HO_427001
                                      clear HO_433001
                                      clear HO_443001
                                      clear BK426
                                      clear BK432
                                      clear BK442
                                      clear HB
                                      have HO_427001 := n0_
                                      have HO_433001 := n1_
                                      have HO_443001 := n2_
                                      have BK426 := n3_
                                      have BK432 := n4_
                                      have BK442 := n5_
                                      have HB := n6_
                                      clear n0_ n1_ n2_ n3_ n4_ n5_ n6_
                                      refine start_ (n := 20) (S := fun w' => w'.cell? ⟨gb442, 0, none⟩ = some (.int .i64 t437) ∧ w'.cell? ⟨gb442, 1, none⟩ = some (.slice Ao58 t438.length co58) ∧ w'.cell? ⟨gb426, 0, none⟩ = some (.int .i64 t421) ∧ w'.cell? ⟨gb426, 1, none⟩ = some (.slice Ao17 t422.length co17)) (ds := []) #[false, false, false, false, false, false, false, false, false, false, false, false, false, false, false, false, false, false, false, false] (by kernel_rfl) rfl rfl ⟨(blk_cell BK442.out 0).trans rfl, (blk_cell BK442.out 1).trans rfl, (blk_cell BK426.out 0).trans rfl, (blk_cell BK426.out 1).trans rfl⟩ (fun hHeld => ?_); refine with_tabW l02BitmapOrders.tab20 l02BitmapOrders.bits20 (fun HT_ HW_ => ?_)
                                      generalize wc.drew = w84 at HO_427001 HO_433001 HO_443001 BK426 BK432 BK442 HB hHeld ⊢
                                      refine pure_ (i := 1) (N := some 113) (v := ?_) (a' := ?_) #[false, true, false, false, false, false, false, false, false, false, false, false, false, false, false, false, false, false, false, false] rfl rfl (any_of HT_.out (by kernel_rfl)) (fun _ _ _ h => h) (Or.inl ⟨by rfl, ?_⟩) ?_ ?_
                                      rotate_left
                                      · intro w'
                                        go_simp
                                        with_reducible rfl
                                      rotate_left
                                      · simp only [Act.put, List.setIfInBounds_toArray, List.set_cons_zero, List.set_cons_succ, i64_w, i32_w]
                                        rfl
                                      refine pure_ (i := 4) (N := some 116) (v := ?_) (a' := ?_) #[false, true, false, false, true, false, false, false, false, false, false, false, false, false, false, false, false, false, false, false] rfl rfl (any_of HT_.out (by kernel_rfl)) (fun _ _ _ h => h) (Or.inl ⟨by rfl, ?_⟩) ?_ ?_
                                      rotate_left
                                      · intro w'
                                        go_simp
                                        with_reducible rfl
                                      rotate_left
                                      · simp only [Act.put, List.setIfInBounds_toArray, List.set_cons_zero, List.set_cons_succ, i64_w, i32_w]
                                        rfl
                                      refine take_ (i := 0) (N := some 112) (v := ?_) (a' := ?_) #[true, true, false, false, true, false, false, false, false, false, false, false, false, false, false, false, false, false, false, false] rfl rfl (take_ofW HT_.out HW_.out (by kernel_rfl)) (fun _ _ _ h => h) (Or.inl ⟨by rfl, ?_⟩) hHeld ?_ ?_
                                      rotate_left
                                      · rintro w' ⟨s0, s1, s2, s3⟩
                                        go_simp
                                        with_reducible rfl
                                      rotate_left
                                      · simp only [Act.put, List.setIfInBounds_toArray, List.set_cons_zero, List.set_cons_succ, i64_w, i32_w]
                                        rfl
                                      refine take_ (i := 3) (N := some 115) (v := ?_) (a' := ?_) #[true, true, false, true, true, false, false, false, false, false, false, false, false, false, false, false, false, false, false, false] rfl rfl (take_ofW HT_.out HW_.out (by kernel_rfl)) (fun _ _ _ h => h) (Or.inl ⟨by rfl, ?_⟩) hHeld ?_ ?_
                                      rotate_left
                                      · rintro w' ⟨s0, s1, s2, s3⟩
                                        go_simp
                                        with_reducible rfl
                                      rotate_left
                                      · simp only [Act.put, List.setIfInBounds_toArray, List.set_cons_zero, List.set_cons_succ, i64_w, i32_w]
                                        rfl
                                      refine one_ (i := 2) (N := some 114) #[true, true, true, true, true, false, false, false, false, false, false, false, false, false, false, false, false, false, false, false] rfl rfl (one_of HT_.out (by kernel_rfl)) (by decide) (fun K hK => ?_)
                                      refine goes_ Tryd.func22 (by kernel_rfl) rfl #[.agg #[.int .i64 t437, .slice Ao58 t438.length co58], .int .i64 x14_3] (by rfl) rfl rfl (by (try simp only [List.map_toArray, List.map_cons, List.map_nil]); first | done | rfl | (simp only [List.length_drop, List.length_take]; rfl)) ?_
                                      with_reducible refine (bGet.calls kj60 t437 _ _ t438 x14_3 t447 _ ?side1 ?side2 A66.out).mono ?_
                                      (case side1 => repeat (first | exact (Kd.R_reads' HO_443001.out).2.2 | (with_reducible refine Kd.C_alloc ?_ _) | (with_reducible refine Kd.C_drewN ?_ _) | (with_reducible refine Kd.C_drew ?_)))
                                      (case side2 => exact (Kd.R_reads' HO_443001.out).2.1)
                                      rintro e w85 ⟨rfl, hb⟩
                                      refine ⟨_, rfl, ?_⟩
                                      have n0_ := Aside0.mk (Kd.R_below (by (with_reducible repeat (first | apply Kd.R_alloc | apply Kd.R_drewN | apply Kd.R_drew)); exact HO_427001.out) hb)
                                      have n1_ := Aside0.mk (Kd.R_below (by (with_reducible repeat (first | apply Kd.R_alloc | apply Kd.R_drewN | apply Kd.R_drew)); exact HO_433001.out) hb)
                                      have n2_ := Aside0.mk (Kd.R_below (by (with_reducible repeat (first | apply Kd.R_alloc | apply Kd.R_drewN | apply Kd.R_drew)); exact HO_443001.out) hb)
                                      have n3_ := Aside0.mk (blk_below (g := gb426) (o := .cells #[.int .i64 t421, .slice Ao17 t422.length co17] 24 (0, 0)) (by (with_reducible repeat (first | refine blk_drewN ?_ _ | refine blk_drew ?_ | refine blk_alloc ?_ _)); exact BK426.out) hb)
                                      have n4_ := Aside0.mk (blk_below (g := gb432) (o := .cells #[.int .i64 t427, .slice Ao23 t428.length co23] 24 (0, 0)) (by (with_reducible repeat (first | refine blk_drewN ?_ _ | refine blk_drew ?_ | refine blk_alloc ?_ _)); exact BK432.out) hb)
                                      have n5_ := Aside0.mk (blk_below (g := gb442) (o := .cells #[.int .i64 t437, .slice Ao58 t438.length co58] 24 (0, 0)) (by (with_reducible repeat (first | refine blk_drewN ?_ _ | refine blk_drew ?_ | refine blk_alloc ?_ _)); exact BK442.out) hb)
                                      have n6_ := Aside0.mk (below_step (by repeat (first | (with_reducible first | exact HB.out | apply below_alloc | apply pw_below_drewN | apply below_drew1 | refine below_set ?_ GE426.out | refine below_set ?_ GE432.out | refine below_set ?_ GE442.out) | exact HB.out)) hb)
                                      clear HO_427001
                                      clear HO_433001
                                      clear HO_443001
                                      clear BK426
                                      clear BK432
                                      clear BK442
                                      clear HB
                                      have HO_427001 := n0_
                                      have HO_433001 := n1_
                                      have HO_443001 := n2_
                                      have BK426 := n3_
                                      have BK432 := n4_
                                      have BK442 := n5_
                                      have HB := n6_
                                      clear n0_ n1_ n2_ n3_ n4_ n5_ n6_
                                      (try clear hb)
                                      (try clear hb2)
                                      (try clear hk)
                                      (try clear hi)
                                      refine hK.out _ _ ⟨(blk_cell BK442.out 0).trans rfl, (blk_cell BK442.out 1).trans rfl, (blk_cell BK426.out 0).trans rfl, (blk_cell BK426.out 1).trans rfl⟩ (fun hHeld => ?_)
                                      clear hK K
                                      refine norm_ (a' := ?_) ?_ ?_
                                      rotate_left
                                      · show Act.put _ (some 114) _ = _
                                        simp only [Act.put, List.setIfInBounds_toArray, List.set_cons_zero, List.set_cons_succ, i64_w, i32_w]
                                        rfl
                                      refine one_ (i := 5) (N := some 117) #[true, true, true, true, true, true, false, false, false, false, false, false, false, false, false, false, false, false, false, false] rfl rfl (one_of HT_.out (by kernel_rfl)) (by decide) (fun K hK => ?_)
                                      refine goes_ Tryd.func22 (by kernel_rfl) rfl #[.agg #[.int .i64 t421, .slice Ao17 t422.length co17], .int .i64 x14_3] (by rfl) rfl rfl (by (try simp only [List.map_toArray, List.map_cons, List.map_nil]); first | done | rfl | (simp only [List.length_drop, List.length_take]; rfl)) ?_
                                      with_reducible refine (bGet.calls kj60 t421 _ _ t422 x14_3 false _ ?side1 ?side2 A67.out).mono ?_
                                      (case side1 => repeat (first | exact (Kd.R_reads' HO_427001.out).2.2 | (with_reducible refine Kd.C_alloc ?_ _) | (with_reducible refine Kd.C_drewN ?_ _) | (with_reducible refine Kd.C_drew ?_)))
                                      (case side2 => exact (Kd.R_reads' HO_427001.out).2.1)
                                      rintro e w86 ⟨rfl, hb⟩
                                      refine ⟨_, rfl, ?_⟩
                                      have n0_ := Aside0.mk (Kd.R_below (by (with_reducible repeat (first | apply Kd.R_alloc | apply Kd.R_drewN | apply Kd.R_drew)); exact HO_427001.out) hb)
                                      have n1_ := Aside0.mk (Kd.R_below (by (with_reducible repeat (first | apply Kd.R_alloc | apply Kd.R_drewN | apply Kd.R_drew)); exact HO_433001.out) hb)
                                      have n2_ := Aside0.mk (Kd.R_below (by (with_reducible repeat (first | apply Kd.R_alloc | apply Kd.R_drewN | apply Kd.R_drew)); exact HO_443001.out) hb)
                                      have n3_ := Aside0.mk (blk_below (g := gb426) (o := .cells #[.int .i64 t421, .slice Ao17 t422.length co17] 24 (0, 0)) (by (with_reducible repeat (first | refine blk_drewN ?_ _ | refine blk_drew ?_ | refine blk_alloc ?_ _)); exact BK426.out) hb)
                                      have n4_ := Aside0.mk (blk_below (g := gb432) (o := .cells #[.int .i64 t427, .slice Ao23 t428.length co23] 24 (0, 0)) (by (with_reducible repeat (first | refine blk_drewN ?_ _ | refine blk_drew ?_ | refine blk_alloc ?_ _)); exact BK432.out) hb)
                                      have n5_ := Aside0.mk (blk_below (g := gb442) (o := .cells #[.int .i64 t437, .slice Ao58 t438.length co58] 24 (0, 0)) (by (with_reducible repeat (first | refine blk_drewN ?_ _ | refine blk_drew ?_ | refine blk_alloc ?_ _)); exact BK442.out) hb)
                                      have n6_ := Aside0.mk (below_step (by repeat (first | (with_reducible first | exact HB.out | apply below_alloc | apply pw_below_drewN | apply below_drew1 | refine below_set ?_ GE426.out | refine below_set ?_ GE432.out | refine below_set ?_ GE442.out) | exact HB.out)) hb)
                                      clear HO_427001
                                      clear HO_433001
                                      clear HO_443001
                                      clear BK426
                                      clear BK432
                                      clear BK442
                                      clear HB
                                      have HO_427001 := n0_
                                      have HO_433001 := n1_
                                      have HO_443001 := n2_
                                      have BK426 := n3_
                                      have BK432 := n4_
                                      have BK442 := n5_
                                      have HB := n6_
                                      clear n0_ n1_ n2_ n3_ n4_ n5_ n6_
                                      (try clear hb)
                                      (try clear hb2)
                                      (try clear hk)
                                      (try clear hi)
                                      refine hK.out _ _ ⟨(blk_cell BK442.out 0).trans rfl, (blk_cell BK442.out 1).trans rfl, (blk_cell BK426.out 0).trans rfl, (blk_cell BK426.out 1).trans rfl⟩ (fun hHeld => ?_)
                                      clear hK K
                                      refine norm_ (a' := ?_) ?_ ?_
                                      rotate_left
                                      · show Act.put _ (some 117) _ = _
                                        simp only [Act.put, List.setIfInBounds_toArray, List.set_cons_zero, List.set_cons_succ, i64_w, i32_w]
                                        rfl
                                      refine pure_ (i := 6) (N := some 118) (v := ?_) (a' := ?_) #[true, true, true, true, true, true, true, false, false, false, false, false, false, false, false, false, false, false, false, false] rfl rfl (any_of HT_.out (by kernel_rfl)) (fun _ _ _ h => h) (Or.inl ⟨by rfl, ?_⟩) ?_ ?_
                                      rotate_left
                                      · intro w'
                                        go_simp
                                        with_reducible rfl
                                      rotate_left
                                      · simp only [Act.put, List.setIfInBounds_toArray, List.set_cons_zero, List.set_cons_succ, i64_w, i32_w]
                                        rfl
                                      refine pure_ (i := 7) (N := some 119) (v := undef) (a' := ?_) #[true, true, true, true, true, true, true, true, false, false, false, false, false, false, false, false, false, false, false, false] rfl rfl (any_of HT_.out (by kernel_rfl)) (fun _ _ _ h => h) (Or.inr ⟨by rfl, rfl⟩) ?_ ?_
                                      rotate_left
                                      · simp only [Act.put, List.setIfInBounds_toArray, List.set_cons_zero, List.set_cons_succ, i64_w, i32_w]
                                        rfl
                                      refine pure_ (i := 8) (N := some 120) (v := undef) (a' := ?_) #[true, true, true, true, true, true, true, true, true, false, false, false, false, false, false, false, false, false, false, false] rfl rfl (any_of HT_.out (by kernel_rfl)) (fun _ _ _ h => h) (Or.inr ⟨by rfl, rfl⟩) ?_ ?_
                                      rotate_left
                                      · simp only [Act.put, List.setIfInBounds_toArray, List.set_cons_zero, List.set_cons_succ, i64_w, i32_w]
                                        rfl
                                      refine pure_ (i := 9) (N := some 121) (v := ?_) (a' := ?_) #[true, true, true, true, true, true, true, true, true, true, false, false, false, false, false, false, false, false, false, false] rfl rfl (any_of HT_.out (by kernel_rfl)) (fun _ _ _ h => h) (Or.inl ⟨by rfl, ?_⟩) ?_ ?_
                                      rotate_left
                                      · intro w'
                                        go_simp
                                        with_reducible rfl
                                      rotate_left
                                      · simp only [Act.put, List.setIfInBounds_toArray, List.set_cons_zero, List.set_cons_succ, i64_w, i32_w]
                                        rfl
                                      refine pure_ (i := 10) (N := some 122) (v := ?_) (a' := ?_) #[true, true, true, true, true, true, true, true, true, true, true, false, false, false, false, false, false, false, false, false] rfl rfl (any_of HT_.out (by kernel_rfl)) (fun _ _ _ h => h) (Or.inl ⟨by rfl, ?_⟩) ?_ ?_
                                      rotate_left
                                      · intro w'
                                        go_simp
                                        with_reducible rfl
                                      rotate_left
                                      · simp only [Act.put, List.setIfInBounds_toArray, List.set_cons_zero, List.set_cons_succ, i64_w, i32_w]
                                        rfl
                                      refine pure_ (i := 11) (N := some 123) (v := ?_) (a' := ?_) #[true, true, true, true, true, true, true, true, true, true, true, true, false, false, false, false, false, false, false, false] rfl rfl (any_of HT_.out (by kernel_rfl)) (fun _ _ _ h => h) (Or.inl ⟨by rfl, ?_⟩) ?_ ?_
                                      rotate_left
                                      · intro w'
                                        go_simp
                                        with_reducible rfl
                                      rotate_left
                                      · simp only [Act.put, List.setIfInBounds_toArray, List.set_cons_zero, List.set_cons_succ, i64_w, i32_w]
                                        rfl
                                      refine pure_ (i := 12) (N := some 124) (v := ?_) (a' := ?_) #[true, true, true, true, true, true, true, true, true, true, true, true, true, false, false, false, false, false, false, false] rfl rfl (any_of HT_.out (by kernel_rfl)) (fun _ _ _ h => h) (Or.inl ⟨by rfl, ?_⟩) ?_ ?_
                                      rotate_left
                                      · intro w'
                                        go_simp
                                        with_reducible rfl
                                      rotate_left
                                      · simp only [Act.put, List.setIfInBounds_toArray, List.set_cons_zero, List.set_cons_succ, i64_w, i32_w]
                                        rfl
                                      refine pure_ (i := 13) (N := some 125) (v := ?_) (a' := ?_) #[true, true, true, true, true, true, true, true, true, true, true, true, true, true, false, false, false, false, false, false] rfl rfl (any_of HT_.out (by kernel_rfl)) (fun _ _ _ h => h) (Or.inl ⟨by rfl, ?_⟩) ?_ ?_
                                      rotate_left
                                      · intro w'
                                        go_simp
                                        with_reducible rfl
                                      rotate_left
                                      · simp only [Act.put, List.setIfInBounds_toArray, List.set_cons_zero, List.set_cons_succ, i64_w, i32_w]
                                        rfl
                                      refine pure_ (i := 15) (N := some 127) (v := ?_) (a' := ?_) #[true, true, true, true, true, true, true, true, true, true, true, true, true, true, false, true, false, false, false, false] rfl rfl (any_of HT_.out (by kernel_rfl)) (fun _ _ _ h => h) (Or.inl ⟨by rfl, ?_⟩) ?_ ?_
                                      rotate_left
                                      · intro w'
                                        go_simp
                                        with_reducible rfl
                                      rotate_left
                                      · simp only [Act.put, List.setIfInBounds_toArray, List.set_cons_zero, List.set_cons_succ, i64_w, i32_w]
                                        rfl
                                      refine take_ (i := 14) (N := some 126) (v := ?_) (a' := ?_) #[true, true, true, true, true, true, true, true, true, true, true, true, true, true, true, true, false, false, false, false] rfl rfl (take_ofW HT_.out HW_.out (by kernel_rfl)) (fun _ _ _ h => h) (Or.inl ⟨by rfl, ?_⟩) hHeld ?_ ?_
                                      rotate_left
                                      · rintro w' ⟨s0, s1, s2, s3⟩
                                        go_simp
                                        with_reducible rfl
                                      rotate_left
                                      · simp only [Act.put, List.setIfInBounds_toArray, List.set_cons_zero, List.set_cons_succ, i64_w, i32_w]
                                        rfl
                                      refine one_ (i := 16) (N := some 128) #[true, true, true, true, true, true, true, true, true, true, true, true, true, true, true, true, true, false, false, false] rfl rfl (one_of HT_.out (by kernel_rfl)) (by decide) (fun K hK => ?_)
                                      refine goes_ Tryd.func22 (by kernel_rfl) rfl #[.agg #[.int .i64 t421, .slice Ao17 t422.length co17], .int .i64 x14_3] (by rfl) rfl rfl (by (try simp only [List.map_toArray, List.map_cons, List.map_nil]); first | done | rfl | (simp only [List.length_drop, List.length_take]; rfl)) ?_
                                      with_reducible refine (bGet.calls kj60 t421 _ _ t422 x14_3 true _ ?side1 ?side2 A82.out).mono ?_
                                      (case side1 => repeat (first | exact (Kd.R_reads' HO_427001.out).2.2 | (with_reducible refine Kd.C_alloc ?_ _) | (with_reducible refine Kd.C_drewN ?_ _) | (with_reducible refine Kd.C_drew ?_)))
                                      (case side2 => exact (Kd.R_reads' HO_427001.out).2.1)
                                      rintro e w87 ⟨rfl, hb⟩
                                      refine ⟨_, rfl, ?_⟩
                                      have n0_ := Aside0.mk (Kd.R_below (by (with_reducible repeat (first | apply Kd.R_alloc | apply Kd.R_drewN | apply Kd.R_drew)); exact HO_427001.out) hb)
                                      have n1_ := Aside0.mk (Kd.R_below (by (with_reducible repeat (first | apply Kd.R_alloc | apply Kd.R_drewN | apply Kd.R_drew)); exact HO_433001.out) hb)
                                      have n2_ := Aside0.mk (Kd.R_below (by (with_reducible repeat (first | apply Kd.R_alloc | apply Kd.R_drewN | apply Kd.R_drew)); exact HO_443001.out) hb)
                                      have n3_ := Aside0.mk (blk_below (g := gb426) (o := .cells #[.int .i64 t421, .slice Ao17 t422.length co17] 24 (0, 0)) (by (with_reducible repeat (first | refine blk_drewN ?_ _ | refine blk_drew ?_ | refine blk_alloc ?_ _)); exact BK426.out) hb)
                                      have n4_ := Aside0.mk (blk_below (g := gb432) (o := .cells #[.int .i64 t427, .slice Ao23 t428.length co23] 24 (0, 0)) (by (with_reducible repeat (first | refine blk_drewN ?_ _ | refine blk_drew ?_ | refine blk_alloc ?_ _)); exact BK432.out) hb)
                                      have n5_ := Aside0.mk (blk_below (g := gb442) (o := .cells #[.int .i64 t437, .slice Ao58 t438.length co58] 24 (0, 0)) (by (with_reducible repeat (first | refine blk_drewN ?_ _ | refine blk_drew ?_ | refine blk_alloc ?_ _)); exact BK442.out) hb)
                                      have n6_ := Aside0.mk (below_step (by repeat (first | (with_reducible first | exact HB.out | apply below_alloc | apply pw_below_drewN | apply below_drew1 | refine below_set ?_ GE426.out | refine below_set ?_ GE432.out | refine below_set ?_ GE442.out) | exact HB.out)) hb)
                                      clear HO_427001
                                      clear HO_433001
                                      clear HO_443001
                                      clear BK426
                                      clear BK432
                                      clear BK442
                                      clear HB
                                      have HO_427001 := n0_
                                      have HO_433001 := n1_
                                      have HO_443001 := n2_
                                      have BK426 := n3_
                                      have BK432 := n4_
                                      have BK442 := n5_
                                      have HB := n6_
                                      clear n0_ n1_ n2_ n3_ n4_ n5_ n6_
                                      (try clear hb)
                                      (try clear hb2)
                                      (try clear hk)
                                      (try clear hi)
                                      refine hK.out _ _ ⟨(blk_cell BK442.out 0).trans rfl, (blk_cell BK442.out 1).trans rfl, (blk_cell BK426.out 0).trans rfl, (blk_cell BK426.out 1).trans rfl⟩ (fun hHeld => ?_)
                                      clear hK K
                                      refine norm_ (a' := ?_) ?_ ?_
                                      rotate_left
                                      · show Act.put _ (some 128) _ = _
                                        simp only [Act.put, List.setIfInBounds_toArray, List.set_cons_zero, List.set_cons_succ, i64_w, i32_w]
                                        rfl
                                      refine pure_ (i := 17) (N := some 129) (v := ?_) (a' := ?_) #[true, true, true, true, true, true, true, true, true, true, true, true, true, true, true, true, true, true, false, false] rfl rfl (any_of HT_.out (by kernel_rfl)) (fun _ _ _ h => h) (Or.inl ⟨by rfl, ?_⟩) ?_ ?_
                                      rotate_left
                                      · intro w'
                                        go_simp
                                        with_reducible rfl
                                      rotate_left
                                      · simp only [Act.put, List.setIfInBounds_toArray, List.set_cons_zero, List.set_cons_succ, i64_w, i32_w]
                                        rfl
                                      refine pure_ (i := 18) (N := some 130) (v := ?_) (a' := ?_) #[true, true, true, true, true, true, true, true, true, true, true, true, true, true, true, true, true, true, true, false] rfl rfl (any_of HT_.out (by kernel_rfl)) (fun _ _ _ h => h) (Or.inl ⟨by rfl, ?_⟩) ?_ ?_
                                      rotate_left
                                      · intro w'
                                        go_simp
                                        with_reducible rfl
                                      rotate_left
                                      · simp only [Act.put, List.setIfInBounds_toArray, List.set_cons_zero, List.set_cons_succ, i64_w, i32_w]
                                        rfl
                                      refine pure_ (i := 19) (N := some 131) (v := ?_) (a' := ?_) #[true, true, true, true, true, true, true, true, true, true, true, true, true, true, true, true, true, true, true, true] rfl rfl (any_of HT_.out (by kernel_rfl)) (fun _ _ _ h => h) (Or.inl ⟨by rfl, ?_⟩) ?_ ?_
                                      rotate_left
                                      · intro w'
                                        go_simp
                                        with_reducible rfl
                                      rotate_left
                                      · simp only [Act.put, List.setIfInBounds_toArray, List.set_cons_zero, List.set_cons_succ, i64_w, i32_w]
                                        rfl
                                      refine done_ (done_of HT_.out (by kernel_rfl)) ?_
                                      try go_wp2
                                      go_roundg kj60
                                      case measure => have := HK1.out; have := HJ12.out; have := HK3.out; have := HJ60.out; omega
                                      case rel => exact ⟨(wrap64 (x14_3 + 1)), (by first | rfl | (simp; done) | (simp [*]; done)), H', ⟨by have := HK1.out; have := HJ12.out; have := HK3.out; have := HJ60.out; omega⟩, ⟨by (with_reducible repeat (first | apply Kd.R_alloc | apply Kd.R_drewN | apply Kd.R_drew)); exact HO_427001.out⟩, ⟨by (with_reducible repeat (first | apply Kd.R_alloc | apply Kd.R_drewN | apply Kd.R_drew)); exact HO_433001.out⟩, ⟨by (with_reducible repeat (first | apply Kd.R_alloc | apply Kd.R_drewN | apply Kd.R_drew)); exact HO_443001.out⟩, ⟨by (with_reducible repeat (first | refine blk_drewN ?_ _ | refine blk_drew ?_ | refine blk_alloc ?_ _)); exact BK426.out⟩, ⟨by (with_reducible repeat (first | refine blk_drewN ?_ _ | refine blk_drew ?_ | refine blk_alloc ?_ _)); exact BK432.out⟩, ⟨by (with_reducible repeat (first | refine blk_drewN ?_ _ | refine blk_drew ?_ | refine blk_alloc ?_ _)); exact BK442.out⟩, ⟨by repeat (first | (with_reducible first | exact HB.out | apply below_alloc | apply pw_below_drewN | apply below_drew1 | refine below_set ?_ GE426.out | refine below_set ?_ GE432.out | refine below_set ?_ GE442.out) | exact HB.out)⟩⟩
                                    · replace c83 := Bool.eq_false_iff.mpr c83
                                      subst c83
                                      have H1 : (some false) = some r := by rw [if_neg (show ¬ (false = true) by decide)] at H; exact H
                                      clear H
                                      have H := H1
                                      clear H1
                                      exact absurd ((Option.some.inj H).trans hT.out) (by decide)
                                  · replace c81 := Bool.eq_false_iff.mpr c81
                                    subst c81
                                    (try have hz_ : t447 = true := by have q_ := c69b0; revert q_; cases t447 <;> simp)
                                    have H1 : (l02BitmapOrders.l1 kj60 l1 (wrap64 (Int.tmod a0 1200)) (wrap64 (x14_3 + 1)) t421 t422 t437 t438) = some r := by rw [if_neg (show ¬ (false = true) by decide)] at H; exact H
                                    clear H
                                    have H := H1
                                    clear H1
                                    have H' := Aside0.mk H
                                    clear H
                                    try go_wp2
                                    have n0_ := Aside0.mk (Kd.R_drew HO_427001.out)
                                    have n1_ := Aside0.mk (Kd.R_drew HO_433001.out)
                                    have n2_ := Aside0.mk (Kd.R_drew HO_443001.out)
                                    have n3_ := Aside0.mk (blk_drew BK426.out)
                                    have n4_ := Aside0.mk (blk_drew BK432.out)
                                    have n5_ := Aside0.mk (blk_drew BK442.out)
                                    have n6_ := Aside0.mk (below_drew1 HB.out)
                                    clear HO_427001
                                    clear HO_433001
                                    clear HO_443001
                                    clear BK426
                                    clear BK432
                                    clear BK442
                                    clear HB
                                    have HO_427001 := n0_
                                    have HO_433001 := n1_
                                    have HO_443001 := n2_
                                    have BK426 := n3_
                                    have BK432 := n4_
                                    have BK442 := n5_
                                    have HB := n6_
                                    clear n0_ n1_ n2_ n3_ n4_ n5_ n6_
                                    refine start_ (n := 20) (S := fun w' => w'.cell? ⟨gb442, 0, none⟩ = some (.int .i64 t437) ∧ w'.cell? ⟨gb442, 1, none⟩ = some (.slice Ao58 t438.length co58) ∧ w'.cell? ⟨gb426, 0, none⟩ = some (.int .i64 t421) ∧ w'.cell? ⟨gb426, 1, none⟩ = some (.slice Ao17 t422.length co17)) (ds := []) #[false, false, false, false, false, false, false, false, false, false, false, false, false, false, false, false, false, false, false, false] (by kernel_rfl) rfl rfl ⟨(blk_cell BK442.out 0).trans rfl, (blk_cell BK442.out 1).trans rfl, (blk_cell BK426.out 0).trans rfl, (blk_cell BK426.out 1).trans rfl⟩ (fun hHeld => ?_); refine with_tabW l02BitmapOrders.tab20 l02BitmapOrders.bits20 (fun HT_ HW_ => ?_)
                                    generalize wc.drew = w88 at HO_427001 HO_433001 HO_443001 BK426 BK432 BK442 HB hHeld ⊢
                                    refine pure_ (i := 1) (N := some 113) (v := ?_) (a' := ?_) #[false, true, false, false, false, false, false, false, false, false, false, false, false, false, false, false, false, false, false, false] rfl rfl (any_of HT_.out (by kernel_rfl)) (fun _ _ _ h => h) (Or.inl ⟨by rfl, ?_⟩) ?_ ?_
                                    rotate_left
                                    · intro w'
                                      go_simp
                                      with_reducible rfl
                                    rotate_left
                                    · simp only [Act.put, List.setIfInBounds_toArray, List.set_cons_zero, List.set_cons_succ, i64_w, i32_w]
                                      rfl
                                    refine pure_ (i := 4) (N := some 116) (v := ?_) (a' := ?_) #[false, true, false, false, true, false, false, false, false, false, false, false, false, false, false, false, false, false, false, false] rfl rfl (any_of HT_.out (by kernel_rfl)) (fun _ _ _ h => h) (Or.inl ⟨by rfl, ?_⟩) ?_ ?_
                                    rotate_left
                                    · intro w'
                                      go_simp
                                      with_reducible rfl
                                    rotate_left
                                    · simp only [Act.put, List.setIfInBounds_toArray, List.set_cons_zero, List.set_cons_succ, i64_w, i32_w]
                                      rfl
                                    refine take_ (i := 0) (N := some 112) (v := ?_) (a' := ?_) #[true, true, false, false, true, false, false, false, false, false, false, false, false, false, false, false, false, false, false, false] rfl rfl (take_ofW HT_.out HW_.out (by kernel_rfl)) (fun _ _ _ h => h) (Or.inl ⟨by rfl, ?_⟩) hHeld ?_ ?_
                                    rotate_left
                                    · rintro w' ⟨s0, s1, s2, s3⟩
                                      go_simp
                                      with_reducible rfl
                                    rotate_left
                                    · simp only [Act.put, List.setIfInBounds_toArray, List.set_cons_zero, List.set_cons_succ, i64_w, i32_w]
                                      rfl
                                    refine take_ (i := 3) (N := some 115) (v := ?_) (a' := ?_) #[true, true, false, true, true, false, false, false, false, false, false, false, false, false, false, false, false, false, false, false] rfl rfl (take_ofW HT_.out HW_.out (by kernel_rfl)) (fun _ _ _ h => h) (Or.inl ⟨by rfl, ?_⟩) hHeld ?_ ?_
                                    rotate_left
                                    · rintro w' ⟨s0, s1, s2, s3⟩
                                      go_simp
                                      with_reducible rfl
                                    rotate_left
                                    · simp only [Act.put, List.setIfInBounds_toArray, List.set_cons_zero, List.set_cons_succ, i64_w, i32_w]
                                      rfl
                                    refine one_ (i := 2) (N := some 114) #[true, true, true, true, true, false, false, false, false, false, false, false, false, false, false, false, false, false, false, false] rfl rfl (one_of HT_.out (by kernel_rfl)) (by decide) (fun K hK => ?_)
                                    refine goes_ Tryd.func22 (by kernel_rfl) rfl #[.agg #[.int .i64 t437, .slice Ao58 t438.length co58], .int .i64 x14_3] (by rfl) rfl rfl (by (try simp only [List.map_toArray, List.map_cons, List.map_nil]); first | done | rfl | (simp only [List.length_drop, List.length_take]; rfl)) ?_
                                    with_reducible refine (bGet.calls kj60 t437 _ _ t438 x14_3 t447 _ ?side1 ?side2 A66.out).mono ?_
                                    (case side1 => repeat (first | exact (Kd.R_reads' HO_443001.out).2.2 | (with_reducible refine Kd.C_alloc ?_ _) | (with_reducible refine Kd.C_drewN ?_ _) | (with_reducible refine Kd.C_drew ?_)))
                                    (case side2 => exact (Kd.R_reads' HO_443001.out).2.1)
                                    rintro e w89 ⟨rfl, hb⟩
                                    refine ⟨_, rfl, ?_⟩
                                    have n0_ := Aside0.mk (Kd.R_below (by (with_reducible repeat (first | apply Kd.R_alloc | apply Kd.R_drewN | apply Kd.R_drew)); exact HO_427001.out) hb)
                                    have n1_ := Aside0.mk (Kd.R_below (by (with_reducible repeat (first | apply Kd.R_alloc | apply Kd.R_drewN | apply Kd.R_drew)); exact HO_433001.out) hb)
                                    have n2_ := Aside0.mk (Kd.R_below (by (with_reducible repeat (first | apply Kd.R_alloc | apply Kd.R_drewN | apply Kd.R_drew)); exact HO_443001.out) hb)
                                    have n3_ := Aside0.mk (blk_below (g := gb426) (o := .cells #[.int .i64 t421, .slice Ao17 t422.length co17] 24 (0, 0)) (by (with_reducible repeat (first | refine blk_drewN ?_ _ | refine blk_drew ?_ | refine blk_alloc ?_ _)); exact BK426.out) hb)
                                    have n4_ := Aside0.mk (blk_below (g := gb432) (o := .cells #[.int .i64 t427, .slice Ao23 t428.length co23] 24 (0, 0)) (by (with_reducible repeat (first | refine blk_drewN ?_ _ | refine blk_drew ?_ | refine blk_alloc ?_ _)); exact BK432.out) hb)
                                    have n5_ := Aside0.mk (blk_below (g := gb442) (o := .cells #[.int .i64 t437, .slice Ao58 t438.length co58] 24 (0, 0)) (by (with_reducible repeat (first | refine blk_drewN ?_ _ | refine blk_drew ?_ | refine blk_alloc ?_ _)); exact BK442.out) hb)
                                    have n6_ := Aside0.mk (below_step (by repeat (first | (with_reducible first | exact HB.out | apply below_alloc | apply pw_below_drewN | apply below_drew1 | refine below_set ?_ GE426.out | refine below_set ?_ GE432.out | refine below_set ?_ GE442.out) | exact HB.out)) hb)
                                    clear HO_427001
                                    clear HO_433001
                                    clear HO_443001
                                    clear BK426
                                    clear BK432
                                    clear BK442
                                    clear HB
                                    have HO_427001 := n0_
                                    have HO_433001 := n1_
                                    have HO_443001 := n2_
                                    have BK426 := n3_
                                    have BK432 := n4_
                                    have BK442 := n5_
                                    have HB := n6_
                                    clear n0_ n1_ n2_ n3_ n4_ n5_ n6_
                                    (try clear hb)
                                    (try clear hb2)
                                    (try clear hk)
                                    (try clear hi)
                                    refine hK.out _ _ ⟨(blk_cell BK442.out 0).trans rfl, (blk_cell BK442.out 1).trans rfl, (blk_cell BK426.out 0).trans rfl, (blk_cell BK426.out 1).trans rfl⟩ (fun hHeld => ?_)
                                    clear hK K
                                    refine norm_ (a' := ?_) ?_ ?_
                                    rotate_left
                                    · show Act.put _ (some 114) _ = _
                                      simp only [Act.put, List.setIfInBounds_toArray, List.set_cons_zero, List.set_cons_succ, i64_w, i32_w]
                                      rfl
                                    refine one_ (i := 5) (N := some 117) #[true, true, true, true, true, true, false, false, false, false, false, false, false, false, false, false, false, false, false, false] rfl rfl (one_of HT_.out (by kernel_rfl)) (by decide) (fun K hK => ?_)
                                    refine goes_ Tryd.func22 (by kernel_rfl) rfl #[.agg #[.int .i64 t421, .slice Ao17 t422.length co17], .int .i64 x14_3] (by rfl) rfl rfl (by (try simp only [List.map_toArray, List.map_cons, List.map_nil]); first | done | rfl | (simp only [List.length_drop, List.length_take]; rfl)) ?_
                                    with_reducible refine (bGet.calls kj60 t421 _ _ t422 x14_3 false _ ?side1 ?side2 A67.out).mono ?_
                                    (case side1 => repeat (first | exact (Kd.R_reads' HO_427001.out).2.2 | (with_reducible refine Kd.C_alloc ?_ _) | (with_reducible refine Kd.C_drewN ?_ _) | (with_reducible refine Kd.C_drew ?_)))
                                    (case side2 => exact (Kd.R_reads' HO_427001.out).2.1)
                                    rintro e w90 ⟨rfl, hb⟩
                                    refine ⟨_, rfl, ?_⟩
                                    have n0_ := Aside0.mk (Kd.R_below (by (with_reducible repeat (first | apply Kd.R_alloc | apply Kd.R_drewN | apply Kd.R_drew)); exact HO_427001.out) hb)
                                    have n1_ := Aside0.mk (Kd.R_below (by (with_reducible repeat (first | apply Kd.R_alloc | apply Kd.R_drewN | apply Kd.R_drew)); exact HO_433001.out) hb)
                                    have n2_ := Aside0.mk (Kd.R_below (by (with_reducible repeat (first | apply Kd.R_alloc | apply Kd.R_drewN | apply Kd.R_drew)); exact HO_443001.out) hb)
                                    have n3_ := Aside0.mk (blk_below (g := gb426) (o := .cells #[.int .i64 t421, .slice Ao17 t422.length co17] 24 (0, 0)) (by (with_reducible repeat (first | refine blk_drewN ?_ _ | refine blk_drew ?_ | refine blk_alloc ?_ _)); exact BK426.out) hb)
                                    have n4_ := Aside0.mk (blk_below (g := gb432) (o := .cells #[.int .i64 t427, .slice Ao23 t428.length co23] 24 (0, 0)) (by (with_reducible repeat (first | refine blk_drewN ?_ _ | refine blk_drew ?_ | refine blk_alloc ?_ _)); exact BK432.out) hb)
                                    have n5_ := Aside0.mk (blk_below (g := gb442) (o := .cells #[.int .i64 t437, .slice Ao58 t438.length co58] 24 (0, 0)) (by (with_reducible repeat (first | refine blk_drewN ?_ _ | refine blk_drew ?_ | refine blk_alloc ?_ _)); exact BK442.out) hb)
                                    have n6_ := Aside0.mk (below_step (by repeat (first | (with_reducible first | exact HB.out | apply below_alloc | apply pw_below_drewN | apply below_drew1 | refine below_set ?_ GE426.out | refine below_set ?_ GE432.out | refine below_set ?_ GE442.out) | exact HB.out)) hb)
                                    clear HO_427001
                                    clear HO_433001
                                    clear HO_443001
                                    clear BK426
                                    clear BK432
                                    clear BK442
                                    clear HB
                                    have HO_427001 := n0_
                                    have HO_433001 := n1_
                                    have HO_443001 := n2_
                                    have BK426 := n3_
                                    have BK432 := n4_
                                    have BK442 := n5_
                                    have HB := n6_
                                    clear n0_ n1_ n2_ n3_ n4_ n5_ n6_
                                    (try clear hb)
                                    (try clear hb2)
                                    (try clear hk)
                                    (try clear hi)
                                    refine hK.out _ _ ⟨(blk_cell BK442.out 0).trans rfl, (blk_cell BK442.out 1).trans rfl, (blk_cell BK426.out 0).trans rfl, (blk_cell BK426.out 1).trans rfl⟩ (fun hHeld => ?_)
                                    clear hK K
                                    refine norm_ (a' := ?_) ?_ ?_
                                    rotate_left
                                    · show Act.put _ (some 117) _ = _
                                      simp only [Act.put, List.setIfInBounds_toArray, List.set_cons_zero, List.set_cons_succ, i64_w, i32_w]
                                      rfl
                                    refine pure_ (i := 6) (N := some 118) (v := ?_) (a' := ?_) #[true, true, true, true, true, true, true, false, false, false, false, false, false, false, false, false, false, false, false, false] rfl rfl (any_of HT_.out (by kernel_rfl)) (fun _ _ _ h => h) (Or.inl ⟨by rfl, ?_⟩) ?_ ?_
                                    rotate_left
                                    · intro w'
                                      go_simp
                                      with_reducible rfl
                                    rotate_left
                                    · simp only [Act.put, List.setIfInBounds_toArray, List.set_cons_zero, List.set_cons_succ, i64_w, i32_w]
                                      rfl
                                    refine pure_ (i := 7) (N := some 119) (v := undef) (a' := ?_) #[true, true, true, true, true, true, true, true, false, false, false, false, false, false, false, false, false, false, false, false] rfl rfl (any_of HT_.out (by kernel_rfl)) (fun _ _ _ h => h) (Or.inr ⟨by rfl, rfl⟩) ?_ ?_
                                    rotate_left
                                    · simp only [Act.put, List.setIfInBounds_toArray, List.set_cons_zero, List.set_cons_succ, i64_w, i32_w]
                                      rfl
                                    refine pure_ (i := 8) (N := some 120) (v := undef) (a' := ?_) #[true, true, true, true, true, true, true, true, true, false, false, false, false, false, false, false, false, false, false, false] rfl rfl (any_of HT_.out (by kernel_rfl)) (fun _ _ _ h => h) (Or.inr ⟨by rfl, rfl⟩) ?_ ?_
                                    rotate_left
                                    · simp only [Act.put, List.setIfInBounds_toArray, List.set_cons_zero, List.set_cons_succ, i64_w, i32_w]
                                      rfl
                                    refine pure_ (i := 9) (N := some 121) (v := ?_) (a' := ?_) #[true, true, true, true, true, true, true, true, true, true, false, false, false, false, false, false, false, false, false, false] rfl rfl (any_of HT_.out (by kernel_rfl)) (fun _ _ _ h => h) (Or.inl ⟨by rfl, ?_⟩) ?_ ?_
                                    rotate_left
                                    · intro w'
                                      go_simp
                                      with_reducible rfl
                                    rotate_left
                                    · simp only [Act.put, List.setIfInBounds_toArray, List.set_cons_zero, List.set_cons_succ, i64_w, i32_w]
                                      rfl
                                    refine pure_ (i := 10) (N := some 122) (v := ?_) (a' := ?_) #[true, true, true, true, true, true, true, true, true, true, true, false, false, false, false, false, false, false, false, false] rfl rfl (any_of HT_.out (by kernel_rfl)) (fun _ _ _ h => h) (Or.inl ⟨by rfl, ?_⟩) ?_ ?_
                                    rotate_left
                                    · intro w'
                                      go_simp
                                      with_reducible rfl
                                    rotate_left
                                    · simp only [Act.put, List.setIfInBounds_toArray, List.set_cons_zero, List.set_cons_succ, i64_w, i32_w]
                                      rfl
                                    refine pure_ (i := 11) (N := some 123) (v := ?_) (a' := ?_) #[true, true, true, true, true, true, true, true, true, true, true, true, false, false, false, false, false, false, false, false] rfl rfl (any_of HT_.out (by kernel_rfl)) (fun _ _ _ h => h) (Or.inl ⟨by rfl, ?_⟩) ?_ ?_
                                    rotate_left
                                    · intro w'
                                      go_simp
                                      with_reducible rfl
                                    rotate_left
                                    · simp only [Act.put, List.setIfInBounds_toArray, List.set_cons_zero, List.set_cons_succ, i64_w, i32_w]
                                      rfl
                                    refine pure_ (i := 12) (N := some 124) (v := ?_) (a' := ?_) #[true, true, true, true, true, true, true, true, true, true, true, true, true, false, false, false, false, false, false, false] rfl rfl (any_of HT_.out (by kernel_rfl)) (fun _ _ _ h => h) (Or.inl ⟨by rfl, ?_⟩) ?_ ?_
                                    rotate_left
                                    · intro w'
                                      go_simp
                                      with_reducible rfl
                                    rotate_left
                                    · simp only [Act.put, List.setIfInBounds_toArray, List.set_cons_zero, List.set_cons_succ, i64_w, i32_w]
                                      rfl
                                    refine pure_ (i := 13) (N := some 125) (v := ?_) (a' := ?_) #[true, true, true, true, true, true, true, true, true, true, true, true, true, true, false, false, false, false, false, false] rfl rfl (any_of HT_.out (by kernel_rfl)) (fun _ _ _ h => h) (Or.inl ⟨by rfl, ?_⟩) ?_ ?_
                                    rotate_left
                                    · intro w'
                                      go_simp
                                      with_reducible rfl
                                    rotate_left
                                    · simp only [Act.put, List.setIfInBounds_toArray, List.set_cons_zero, List.set_cons_succ, i64_w, i32_w]
                                      rfl
                                    refine pure_ (i := 14) (N := some 126) (v := undef) (a' := ?_) #[true, true, true, true, true, true, true, true, true, true, true, true, true, true, true, false, false, false, false, false] rfl rfl (any_of HT_.out (by kernel_rfl)) (fun _ _ _ h => h) (Or.inr ⟨by rfl, rfl⟩) ?_ ?_
                                    rotate_left
                                    · simp only [Act.put, List.setIfInBounds_toArray, List.set_cons_zero, List.set_cons_succ, i64_w, i32_w]
                                      rfl
                                    refine pure_ (i := 15) (N := some 127) (v := undef) (a' := ?_) #[true, true, true, true, true, true, true, true, true, true, true, true, true, true, true, true, false, false, false, false] rfl rfl (any_of HT_.out (by kernel_rfl)) (fun _ _ _ h => h) (Or.inr ⟨by rfl, rfl⟩) ?_ ?_
                                    rotate_left
                                    · simp only [Act.put, List.setIfInBounds_toArray, List.set_cons_zero, List.set_cons_succ, i64_w, i32_w]
                                      rfl
                                    refine pure_ (i := 16) (N := some 128) (v := undef) (a' := ?_) #[true, true, true, true, true, true, true, true, true, true, true, true, true, true, true, true, true, false, false, false] rfl rfl (any_of HT_.out (by kernel_rfl)) (fun _ _ _ h => h) (Or.inr ⟨by rfl, rfl⟩) ?_ ?_
                                    rotate_left
                                    · simp only [Act.put, List.setIfInBounds_toArray, List.set_cons_zero, List.set_cons_succ, i64_w, i32_w]
                                      rfl
                                    refine pure_ (i := 17) (N := some 129) (v := undef) (a' := ?_) #[true, true, true, true, true, true, true, true, true, true, true, true, true, true, true, true, true, true, false, false] rfl rfl (any_of HT_.out (by kernel_rfl)) (fun _ _ _ h => h) (Or.inr ⟨by rfl, rfl⟩) ?_ ?_
                                    rotate_left
                                    · simp only [Act.put, List.setIfInBounds_toArray, List.set_cons_zero, List.set_cons_succ, i64_w, i32_w]
                                      rfl
                                    refine pure_ (i := 18) (N := some 130) (v := ?_) (a' := ?_) #[true, true, true, true, true, true, true, true, true, true, true, true, true, true, true, true, true, true, true, false] rfl rfl (any_of HT_.out (by kernel_rfl)) (fun _ _ _ h => h) (Or.inl ⟨by rfl, ?_⟩) ?_ ?_
                                    rotate_left
                                    · intro w'
                                      go_simp
                                      with_reducible rfl
                                    rotate_left
                                    · simp only [Act.put, List.setIfInBounds_toArray, List.set_cons_zero, List.set_cons_succ, i64_w, i32_w]
                                      rfl
                                    refine pure_ (i := 19) (N := some 131) (v := ?_) (a' := ?_) #[true, true, true, true, true, true, true, true, true, true, true, true, true, true, true, true, true, true, true, true] rfl rfl (any_of HT_.out (by kernel_rfl)) (fun _ _ _ h => h) (Or.inl ⟨by rfl, ?_⟩) ?_ ?_
                                    rotate_left
                                    · intro w'
                                      go_simp
                                      with_reducible rfl
                                    rotate_left
                                    · simp only [Act.put, List.setIfInBounds_toArray, List.set_cons_zero, List.set_cons_succ, i64_w, i32_w]
                                      rfl
                                    refine done_ (done_of HT_.out (by kernel_rfl)) ?_
                                    try go_wp2
                                    go_roundg kj60
                                    case measure => have := HK1.out; have := HJ12.out; have := HK3.out; have := HJ60.out; omega
                                    case rel => exact ⟨(wrap64 (x14_3 + 1)), (by first | rfl | (simp; done) | (simp [*]; done)), H', ⟨by have := HK1.out; have := HJ12.out; have := HK3.out; have := HJ60.out; omega⟩, ⟨by (with_reducible repeat (first | apply Kd.R_alloc | apply Kd.R_drewN | apply Kd.R_drew)); exact HO_427001.out⟩, ⟨by (with_reducible repeat (first | apply Kd.R_alloc | apply Kd.R_drewN | apply Kd.R_drew)); exact HO_433001.out⟩, ⟨by (with_reducible repeat (first | apply Kd.R_alloc | apply Kd.R_drewN | apply Kd.R_drew)); exact HO_443001.out⟩, ⟨by (with_reducible repeat (first | refine blk_drewN ?_ _ | refine blk_drew ?_ | refine blk_alloc ?_ _)); exact BK426.out⟩, ⟨by (with_reducible repeat (first | refine blk_drewN ?_ _ | refine blk_drew ?_ | refine blk_alloc ?_ _)); exact BK432.out⟩, ⟨by (with_reducible repeat (first | refine blk_drewN ?_ _ | refine blk_drew ?_ | refine blk_alloc ?_ _)); exact BK442.out⟩, ⟨by repeat (first | (with_reducible first | exact HB.out | apply below_alloc | apply pw_below_drewN | apply below_drew1 | refine below_set ?_ GE426.out | refine below_set ?_ GE432.out | refine below_set ?_ GE442.out) | exact HB.out)⟩⟩
                        · rw [if_neg c60] at H
                          have c60b0 : decide (x14_3 < (wrap64 (Int.tmod a0 1200))) = false := decide_eq_false c60
                          clear c60
                          replace H := Option.bind_eq_some_iff.mp H
                          obtain ⟨t443, A910, H⟩ := H
                          replace H : (some t443) = some r := H
                          have A91 := Aside0.mk A910
                          clear A910
                          obtain rfl := Option.some.inj H
                          go_wp2_with (first | ((with_reducible refine gate_callee (f := 12) rfl ?_); refine goesL_ (some 132) rfl rfl Tryd.func12 (by kernel_rfl) rfl #[] rfl (by (try simp only [List.map_toArray, List.map_cons, List.map_nil]); first | done | rfl | (simp only [List.length_drop, List.length_take]; rfl)) ?_; (with_reducible refine (l02awake.calls k3  t443 _ ?side1 A91.out).mono ?_); (case side1 => exact TabOK.below hG (by repeat (first | (with_reducible first | exact HB.out | apply below_alloc | apply pw_below_drewN | apply below_drew1 | refine below_set ?_ GE426.out | refine below_set ?_ GE432.out | refine below_set ?_ GE442.out) | exact HB.out))); rintro e w92 ⟨rfl, hb⟩; refine ⟨_, rfl, ?_⟩; have n0_ := Aside0.mk (Kd.R_below (by (with_reducible repeat (first | apply Kd.R_alloc | apply Kd.R_drewN | apply Kd.R_drew)); exact HO_427001.out) hb); have n1_ := Aside0.mk (Kd.R_below (by (with_reducible repeat (first | apply Kd.R_alloc | apply Kd.R_drewN | apply Kd.R_drew)); exact HO_433001.out) hb); have n2_ := Aside0.mk (Kd.R_below (by (with_reducible repeat (first | apply Kd.R_alloc | apply Kd.R_drewN | apply Kd.R_drew)); exact HO_443001.out) hb); have n3_ := Aside0.mk (blk_below (g := gb426) (o := .cells #[.int .i64 t421, .slice Ao17 t422.length co17] 24 (0, 0)) (by (with_reducible repeat (first | refine blk_drewN ?_ _ | refine blk_drew ?_ | refine blk_alloc ?_ _)); exact BK426.out) hb); have n4_ := Aside0.mk (blk_below (g := gb432) (o := .cells #[.int .i64 t427, .slice Ao23 t428.length co23] 24 (0, 0)) (by (with_reducible repeat (first | refine blk_drewN ?_ _ | refine blk_drew ?_ | refine blk_alloc ?_ _)); exact BK432.out) hb); have n5_ := Aside0.mk (blk_below (g := gb442) (o := .cells #[.int .i64 t437, .slice Ao58 t438.length co58] 24 (0, 0)) (by (with_reducible repeat (first | refine blk_drewN ?_ _ | refine blk_drew ?_ | refine blk_alloc ?_ _)); exact BK442.out) hb); have n6_ := Aside0.mk (below_step (by repeat (first | (with_reducible first | exact HB.out | apply below_alloc | apply pw_below_drewN | apply below_drew1 | refine below_set ?_ GE426.out | refine below_set ?_ GE432.out | refine below_set ?_ GE442.out) | exact HB.out)) hb); clear HO_427001; clear HO_433001; clear HO_443001; clear BK426; clear BK432; clear BK442; clear HB; have HO_427001 := n0_; have HO_433001 := n1_; have HO_443001 := n2_; have BK426 := n3_; have BK432 := n4_; have BK442 := n5_; have HB := n6_; clear n0_ n1_ n2_ n3_ n4_ n5_ n6_; (try clear hb); (try clear hb2); (try clear hk); (try clear hi)))
                          go_ret
                          exact ⟨by first | rfl | (simp [errW_none, errW_some] <;> rfl) | (simp [*, errW_none, errW_some] <;> rfl), by repeat (first | (with_reducible first | exact HB.out | apply below_alloc | apply pw_below_drewN | apply below_drew1 | refine below_set ?_ GE426.out | refine below_set ?_ GE432.out | refine below_set ?_ GE442.out) | exact HB.out)⟩
                  · rw [if_neg c52] at H
                    have c52b0 : (t441 == 0) = false := beq_eq_false_iff_ne.mpr c52
                    have c52b1 : (t441 != 0) = true := bne_iff_ne.mpr c52
                    exact absurd ((Option.some.inj H).trans hT.out) (by decide)
                · rw [if_neg c50] at H
                  exact absurd H (by simp)
end Go.Proofs.YthpldfjjdmjcoaaDoor.P
