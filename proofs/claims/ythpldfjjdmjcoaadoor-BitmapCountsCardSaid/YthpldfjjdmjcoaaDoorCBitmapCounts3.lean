/-
  Parts of the proof of the law BitmapCounts (part 3): what the functions it reaches come to, and the plain law. Conditions: those that each theorem names.
-/
import Derived.Test.YthpldfjjdmjcoaaDoorCBitmapCounts2
namespace Go.Proofs.YthpldfjjdmjcoaaDoor.P
open Go.RowKit Go.Proofs.YthpldfjjdmjcoaaDoorW.PrintWords Go.Proofs.YthpldfjjdmjcoaaDoorW.PrintLast Go.Proofs.YthpldfjjdmjcoaaDoorW.PrintMore
attribute [local go_sem] max2_int min2_int max_two min_two max_three min_three max_four min_four   -- for this text's walks alone
set_option linter.unusedVariables false
set_option linter.unusedSimpArgs false
mutual
def l02BitmapCounts.j0 : Nat → Bool → Int → List Int → Int → List Int → Option (Bool)
  | 0, _, _, _, _, _ => none
  | k + 1, x34, x571000, x571001, x572000, x572001 => if x34 = true then ((l02awake.f k).bind fun t578 => (some t578)) else ((bOr.f x571000 x571001 x572000 x572001).bind fun bt579 => ((bAnd.f x571000 x571001 x572000 x572001).bind fun bt585 => ((bAndNot.f x571000 x571001 x572000 x572001).bind fun bt591 => ((bOr.f bt591.1 bt591.2.1 bt585.1 bt585.2.1).bind fun bt597 => (if bt579.2.2 = 0 then (if bt585.2.2 = 0 then (if bt591.2.2 = 0 then (l02BitmapCounts.j1 k (bt597.2.2 != 0) x571000 x571001 x572000 x572001 bt579.1 bt579.2.1 bt585.1 bt585.2.1 bt591.1 bt591.2.1 bt597.1 bt597.2.1) else (l02BitmapCounts.j1 k true x571000 x571001 x572000 x572001 bt579.1 bt579.2.1 bt585.1 bt585.2.1 bt591.1 bt591.2.1 bt597.1 bt597.2.1)) else (l02BitmapCounts.j1 k true x571000 x571001 x572000 x572001 bt579.1 bt579.2.1 bt585.1 bt585.2.1 bt591.1 bt591.2.1 bt597.1 bt597.2.1)) else (l02BitmapCounts.j1 k true x571000 x571001 x572000 x572001 bt579.1 bt579.2.1 bt585.1 bt585.2.1 bt591.1 bt591.2.1 bt597.1 bt597.2.1))))))
def l02BitmapCounts.j1 : Nat → Bool → Int → List Int → Int → List Int → Int → List Int → Int → List Int → Int → List Int → Int → List Int → Option (Bool)
  | 0, _, _, _, _, _, _, _, _, _, _, _, _, _ => none
  | k + 1, x73, x571000, x571001, x572000, x572001, x585000, x585001, x591000, x591001, x597000, x597001, x603000, x603001 => if x73 = true then (some false) else ((l02awake.f k).bind fun t603 => (if t603 = true then ((bCount.f k x585000 x585001).bind fun t604 => ((bCount.f k x591000 x591001).bind fun t605 => ((bCount.f k x571000 x571001).bind fun t606 => ((bCount.f k x572000 x572001).bind fun t607 => (if (wrap64 (t604 + t605)) = (wrap64 (t606 + t607)) then ((r02Same.f k x603000 x603001 x571000 x571001).bind fun t608 => (if t608 = true then ((bCount.f k x597000 x597001).bind fun t609 => ((bCount.f k x571000 x571001).bind fun t610 => ((bCount.f k x591000 x591001).bind fun t611 => (some (t609 == (wrap64 (t610 - t611))))))) else (some false))) else (some false)))))) else (some false)))
end
def l02BitmapCounts.f (k : Nat) (a0_0 : Int) (l0_1 : List Int) (a1_0 : Int) (l1_1 : List Int) : Option (Bool) := (l02few.f k (([(⟨a0_0, l0_1⟩ : S24), (⟨a1_0, l1_1⟩ : S24)] : List (S24)))).bind fun t575 => (if t575 = true then ((r02Check.f k a0_0 l0_1).bind fun t576 => (if t576 = 0 then ((r02Check.f k a1_0 l1_1).bind fun t577 => (if t577 = 0 then (l02BitmapCounts.j0 k (a0_0 != a1_0) a0_0 l0_1 a1_0 l1_1) else (l02BitmapCounts.j0 k true a0_0 l0_1 a1_0 l1_1))) else (l02BitmapCounts.j0 k true a0_0 l0_1 a1_0 l1_1))) else (l02BitmapCounts.j0 k true a0_0 l0_1 a1_0 l1_1))
def l02BitmapCounts.T9 : Bool × List (List Nat × List Nat) := (true, [([], []), ([0, 0], [0]), ([1], [1]), ([2, 1, 1], [1, 2]), ([1], [1]), ([4, 3, 1], [1, 4]), ([3, 5, 1], [1, 3, 5]), ([1], [1]), ([7, 5, 1], [1, 7]), ([1], [1]), ([9, 8, 1], [1, 9]), ([8, 10, 1], [1, 8, 10]), ([6, 11, 1], [1, 6, 11]), ([1, 12], [1, 12]), ([13, 10], [13]), ([14], [14]), ([14], [14]), ([15, 16, 14, 14], [14, 15, 16]), ([14, 17], [14, 17]), ([18, 17], [18]), ([19], [19]), ([20, 19, 19], [19, 20]), ([19], [19]), ([22, 21, 19], [19, 22]), ([19], [19]), ([24, 23, 19], [19, 24]), ([23, 25, 19], [19, 23, 25]), ([21, 26, 19], [19, 21, 26]), ([19, 27], [19, 27]), ([28, 25, 0, 1, 2, 3, 4, 5, 6, 7, 8, 9, 10, 11, 12, 13, 14, 15, 16, 17, 18, 19, 20, 21, 22, 23, 24, 25, 26, 27, 28], [28])])
def l02BitmapCounts.B9 : List Nat := [0, 1, 3, 7, 3, 31, 63, 3, 191, 3, 959, 1983, 4095, 8191, 16383, 32767, 32767, 131071, 262143, 524287, 1048575, 2097151, 1048575, 8388607, 1048575, 33554431, 67108863, 134217727, 268435455, 536870911]
theorem l02BitmapCounts.tab9 : rtab .any (opsOf Tryd.f10 9) = l02BitmapCounts.T9 := by kernel_rfl
theorem l02BitmapCounts.bits9 : waitsOk l02BitmapCounts.T9.2 l02BitmapCounts.B9 = true := by kernel_rfl
set_option maxHeartbeats 8000000 in
set_option maxRecDepth 100000 in
theorem l02BitmapCounts.calls (k : Nat) (a0_0 : Int) (P0_1_ : Nat → Prop) (A0_1 : Option Addr) (c0_1 : Nat) (l0_1 : List Int) (a1_0 : Int) (P1_1_ : Nat → Prop) (A1_1 : Option Addr) (c1_1 : Nat) (l1_1 : List Int) (r : Bool) (w : World) (hG : TabOK w) (hs0_1 : Kd.V (Kd.int .u64) 55 w w.heap.size (fun k_ => P0_1_ k_) (.slice A0_1 l0_1.length c0_1) l0_1) (hs1_1 : Kd.V (Kd.int .u64) 55 w w.heap.size (fun k_ => P1_1_ k_) (.slice A1_1 l1_1.length c1_1) l1_1) (hT : Aside0 (r = true)) (h : l02BitmapCounts.f k a0_0 l0_1 a1_0 l1_1 = some r) :
    Calls Tryd.prog 10 #[.agg #[.int .i64 a0_0, .slice A0_1 l0_1.length c0_1], .agg #[.int .i64 a1_0, .slice A1_1 l1_1.length c1_1]] w fun e w' => e = .returned (.bool r) ∧ Below w.heap.size w w' := by
  have hu24 := Tryd.underlying24
  have HO0_1 := Aside0.mk (show Kd.V (Kd.int .u64) 55 w w.heap.size (fun k_ => ((P0_1_ k_ ∨ P1_1_ k_) ∨ w.heap.size ≤ k_)) (.slice A0_1 l0_1.length c0_1) l0_1 from Kd.V_mono hs0_1 (fun k_ hk => .inl (.inl hk)))
  have HO1_1 := Aside0.mk (show Kd.V (Kd.int .u64) 55 w w.heap.size (fun k_ => ((P0_1_ k_ ∨ P1_1_ k_) ∨ w.heap.size ≤ k_)) (.slice A1_1 l1_1.length c1_1) l1_1 from Kd.V_mono hs1_1 (fun k_ hk => .inl (.inr hk)))
  have HB := Aside0.mk (Below.refl w.heap.size w)
  have H : ((l02few.f k (([(⟨a0_0, l0_1⟩ : S24), (⟨a1_0, l1_1⟩ : S24)] : List (S24)))).bind fun t575 => (if t575 = true then ((r02Check.f k a0_0 l0_1).bind fun t576 => (if t576 = 0 then ((r02Check.f k a1_0 l1_1).bind fun t577 => (if t577 = 0 then (l02BitmapCounts.j0 k (a0_0 != a1_0) a0_0 l0_1 a1_0 l1_1) else (l02BitmapCounts.j0 k true a0_0 l0_1 a1_0 l1_1))) else (l02BitmapCounts.j0 k true a0_0 l0_1 a1_0 l1_1))) else (l02BitmapCounts.j0 k true a0_0 l0_1 a1_0 l1_1))) = some r := h
  clear h
  have HC3 := Aside0.mk H
  clear H
  go_enter Tryd.func10, Tryd.ntmps10
  go_upto_region 1 with (first | ((with_reducible refine gate_dst (N := 2) rfl ?_); refine box_event ?hg (N := 2) ?hd (cs := #[.int .i64 a0_0, .slice A0_1 l0_1.length c0_1]) (t := 24) ?hr ?_; (case hd => rfl); (case hg => rfl); (case hr => first | (go_simp; done) | (go_simp; rfl)); intro gb570 hg w4 hbox hb; have n0_ := Aside0.mk (Kd.V_below (Kd.V_elderB (by (with_reducible repeat (first | apply Kd.V_alloc | apply Kd.V_drewN | apply Kd.V_drew)); exact HO0_1.out) gb570 (Nat.le_of_eq hg.symm)) hb); have n1_ := Aside0.mk (Kd.V_below (Kd.V_elderB (by (with_reducible repeat (first | apply Kd.V_alloc | apply Kd.V_drewN | apply Kd.V_drew)); exact HO1_1.out) gb570 (Nat.le_of_eq hg.symm)) hb); have n2_ := Aside0.mk (below_step (by repeat (first | (with_reducible first | exact HB.out | apply below_alloc | apply pw_below_drewN | apply below_drew1) | exact HB.out)) hb); have n3_ := Aside0.mk (hbox); have n4_ := Aside0.mk ((by rw [hg]; exact (below_size (by repeat (first | (with_reducible first | exact HB.out | apply below_alloc | apply pw_below_drewN | apply below_drew1) | exact HB.out))) : w.heap.size ≤ gb570)); have n5_ := Aside0.mk ((by rw [hg]; exact (below_size (by repeat (first | (with_reducible first | exact HB.out | apply below_alloc | apply pw_below_drewN | apply below_drew1) | exact HB.out))) : w.heap.size ≤ gb570)); clear HO0_1; clear HO1_1; clear HB; have HO0_1 := n0_; have HO1_1 := n1_; have HB := n2_; have BK570 := n3_; have GW570 := n4_; have GE570 := n5_; clear n0_ n1_ n2_ n3_ n4_ n5_; clear hb hbox hg) | ((with_reducible refine gate_dst (N := 3) rfl ?_); refine box_event ?hg (N := 3) ?hd (cs := #[.int .i64 a1_0, .slice A1_1 l1_1.length c1_1]) (t := 24) ?hr ?_; (case hd => rfl); (case hg => rfl); (case hr => first | (go_simp; done) | (go_simp; rfl)); intro gb571 hg w5 hbox hb; have n0_ := Aside0.mk (Kd.V_below (Kd.V_elderB (by (with_reducible repeat (first | apply Kd.V_alloc | apply Kd.V_drewN | apply Kd.V_drew)); exact HO0_1.out) gb571 (Nat.le_of_eq hg.symm)) hb); have n1_ := Aside0.mk (Kd.V_below (Kd.V_elderB (by (with_reducible repeat (first | apply Kd.V_alloc | apply Kd.V_drewN | apply Kd.V_drew)); exact HO1_1.out) gb571 (Nat.le_of_eq hg.symm)) hb); have n2_ := Aside0.mk (blk_below (g := gb570) (o := .cells #[.int .i64 a0_0, .slice A0_1 l0_1.length c0_1] 24 (0, 0)) (by (with_reducible repeat (first | refine blk_drewN ?_ _ | refine blk_drew ?_ | refine blk_alloc ?_ _)); exact BK570.out) hb); have n3_ := Aside0.mk (below_step (by repeat (first | (with_reducible first | exact HB.out | apply below_alloc | apply pw_below_drewN | apply below_drew1 | refine below_set ?_ GE570.out) | exact HB.out)) hb); have n4_ := Aside0.mk (hbox); have n5_ := Aside0.mk ((by rw [hg]; exact (below_size (by repeat (first | (with_reducible first | exact HB.out | apply below_alloc | apply pw_below_drewN | apply below_drew1 | refine below_set ?_ GE570.out) | exact HB.out))) : w.heap.size ≤ gb571)); have n6_ := Aside0.mk ((by rw [hg]; exact (below_size (by repeat (first | (with_reducible first | exact HB.out | apply below_alloc | apply pw_below_drewN | apply below_drew1 | refine below_set ?_ GE570.out) | exact HB.out))) : w.heap.size ≤ gb571)); have n7_ := Aside0.mk ((by rw [hg]; exact Nat.ne_of_lt (blk_lt (g := gb570) (o := .cells #[.int .i64 a0_0, .slice A0_1 l0_1.length c0_1] 24 (0, 0)) (by (with_reducible repeat (first | refine blk_drewN ?_ _ | refine blk_drew ?_ | refine blk_alloc ?_ _)); exact BK570.out)) : gb570 ≠ gb571)); have n8_ := Aside0.mk ((by rw [hg]; exact Nat.ne_of_gt (blk_lt (g := gb570) (o := .cells #[.int .i64 a0_0, .slice A0_1 l0_1.length c0_1] 24 (0, 0)) (by (with_reducible repeat (first | refine blk_drewN ?_ _ | refine blk_drew ?_ | refine blk_alloc ?_ _)); exact BK570.out)) : gb571 ≠ gb570)); clear HO0_1; clear HO1_1; clear BK570; clear HB; have HO0_1 := n0_; have HO1_1 := n1_; have BK570 := n2_; have HB := n3_; have BK571 := n4_; have GW571 := n5_; have GE571 := n6_; have NB570_571 := n7_; have NB571_570 := n8_; clear n0_ n1_ n2_ n3_ n4_ n5_ n6_ n7_ n8_; clear hb hbox hg))
  (try simp only [Act.put, List.setIfInBounds_toArray, List.set_cons_zero, List.set_cons_succ])
  go_cut [34] (fun v34 wc => ∃ (kq : Nat) (x34_2 : Bool), v34 = .bool x34_2 ∧ Aside0 (l02BitmapCounts.j0 kq x34_2 a0_0 l0_1 a1_0 l1_1 = some r) ∧ Aside0 (kq ≤ k) ∧ Aside0 (Kd.V (Kd.int .u64) 55 wc w.heap.size (fun k_ => ((P0_1_ k_ ∨ P1_1_ k_) ∨ w.heap.size ≤ k_) ∧ k_ ≠ gb570 ∧ k_ ≠ gb571) (.slice A0_1 l0_1.length c0_1) l0_1) ∧ Aside0 (Kd.V (Kd.int .u64) 55 wc w.heap.size (fun k_ => ((P0_1_ k_ ∨ P1_1_ k_) ∨ w.heap.size ≤ k_) ∧ k_ ≠ gb570 ∧ k_ ≠ gb571) (.slice A1_1 l1_1.length c1_1) l1_1) ∧ Aside0 (wc.heap[gb570]? = some (.cells #[.int .i64 a0_0, (.slice A0_1 l0_1.length c0_1)] 24 (0, 0))) ∧ Aside0 (wc.heap[gb571]? = some (.cells #[.int .i64 a1_0, (.slice A1_1 l1_1.length c1_1)] 24 (0, 0))) ∧ Aside0 (Below w.heap.size w wc))
  case first =>
    have H := HC3.out
    clear HC3
    obtain ⟨y572, hy572⟩ : ∃ y_ : List (S24), y_ = (([(⟨a0_0, l0_1⟩ : S24), (⟨a1_0, l1_1⟩ : S24)] : List (S24))) := ⟨_, rfl⟩
    replace H : ((l02few.f k y572).bind fun t575 => (if t575 = true then ((r02Check.f k a0_0 l0_1).bind fun t576 => (if t576 = 0 then ((r02Check.f k a1_0 l1_1).bind fun t577 => (if t577 = 0 then (l02BitmapCounts.j0 k (a0_0 != a1_0) a0_0 l0_1 a1_0 l1_1) else (l02BitmapCounts.j0 k true a0_0 l0_1 a1_0 l1_1))) else (l02BitmapCounts.j0 k true a0_0 l0_1 a1_0 l1_1))) else (l02BitmapCounts.j0 k true a0_0 l0_1 a1_0 l1_1))) = some r := by first | (rw [hy572]; with_reducible exact H) | (have H2_ := (Option.bind_some _ _).symm.trans H; rw [hy572]; with_reducible exact H2_) | (have H2_ := (Option.bind_some _ _).symm.trans H; with_reducible exact H2_) | with_reducible exact H | (rw [hy572]; exact H) | exact H
    have Ny572 := Aside0.mk hy572
    clear hy572
    replace H := Option.bind_eq_some_iff.mp H
    obtain ⟨t575, A60, H⟩ := H
    replace H : (if t575 = true then ((r02Check.f k a0_0 l0_1).bind fun t576 => (if t576 = 0 then ((r02Check.f k a1_0 l1_1).bind fun t577 => (if t577 = 0 then (l02BitmapCounts.j0 k (a0_0 != a1_0) a0_0 l0_1 a1_0 l1_1) else (l02BitmapCounts.j0 k true a0_0 l0_1 a1_0 l1_1))) else (l02BitmapCounts.j0 k true a0_0 l0_1 a1_0 l1_1))) else (l02BitmapCounts.j0 k true a0_0 l0_1 a1_0 l1_1)) = some r := H
    have A6 := Aside0.mk A60
    clear A60
    by_cases c7 : t575 = true
    · subst c7
      have H1 : ((r02Check.f k a0_0 l0_1).bind fun t576 => (if t576 = 0 then ((r02Check.f k a1_0 l1_1).bind fun t577 => (if t577 = 0 then (l02BitmapCounts.j0 k (a0_0 != a1_0) a0_0 l0_1 a1_0 l1_1) else (l02BitmapCounts.j0 k true a0_0 l0_1 a1_0 l1_1))) else (l02BitmapCounts.j0 k true a0_0 l0_1 a1_0 l1_1))) = some r := by rw [if_pos rfl] at H; exact H
      clear H
      have H := H1
      clear H1
      replace H := Option.bind_eq_some_iff.mp H
      obtain ⟨t576, A80, H⟩ := H
      replace H : (if t576 = 0 then ((r02Check.f k a1_0 l1_1).bind fun t577 => (if t577 = 0 then (l02BitmapCounts.j0 k (a0_0 != a1_0) a0_0 l0_1 a1_0 l1_1) else (l02BitmapCounts.j0 k true a0_0 l0_1 a1_0 l1_1))) else (l02BitmapCounts.j0 k true a0_0 l0_1 a1_0 l1_1)) = some r := H
      have A8 := Aside0.mk A80
      clear A80
      by_cases c9 : t576 = 0
      · rw [if_pos c9] at H
        have c9b0 : (t576 == 0) = true := beq_iff_eq.mpr c9
        have c9b1 : (t576 != 0) = false := bne_eq_false_iff_eq.mpr c9
        clear c9
        (first | rw [c9b0] | (simp only [i64_w, i32_w]; rw [c9b0]) | skip)
        replace H := Option.bind_eq_some_iff.mp H
        obtain ⟨t577, A100, H⟩ := H
        replace H : (if t577 = 0 then (l02BitmapCounts.j0 k (a0_0 != a1_0) a0_0 l0_1 a1_0 l1_1) else (l02BitmapCounts.j0 k true a0_0 l0_1 a1_0 l1_1)) = some r := H
        have A10 := Aside0.mk A100
        clear A100
        by_cases c11 : t577 = 0
        · rw [if_pos c11] at H
          have c11b0 : (t577 == 0) = true := beq_iff_eq.mpr c11
          have c11b1 : (t577 != 0) = false := bne_eq_false_iff_eq.mpr c11
          clear c11
          have H' := Aside0.mk H
          clear H
          have hnb12 := NB570_571.out
          have hnc12 := NB571_570.out
          have hcz13_0 : w5.cell? ⟨gb570, 0, none⟩ = some (.int .i64 a0_0) := (blk_cell BK570.out 0).trans rfl
          have hcz13_1 : w5.cell? ⟨gb570, 1, none⟩ = some (.slice A0_1 l0_1.length c0_1) := (blk_cell BK570.out 1).trans rfl
          have hfz13_0 := blk_frozen BK570.out 0
          have hfz13_1 := blk_frozen BK570.out 1
          have hcz14_0 : w5.cell? ⟨gb571, 0, none⟩ = some (.int .i64 a1_0) := (blk_cell BK571.out 0).trans rfl
          have hcz14_1 : w5.cell? ⟨gb571, 1, none⟩ = some (.slice A1_1 l1_1.length c1_1) := (blk_cell BK571.out 1).trans rfl
          have hfz14_0 := blk_frozen BK571.out 0
          have hfz14_1 := blk_frozen BK571.out 1
          go_wp2_with (first | ((with_reducible refine gate_dst (N := 15) rfl ?_); refine Kd.N_lit k24 _ 24 ?hg (N' := 15) ?hd (xs := ([(⟨a0_0, l0_1⟩ : S24), (⟨a1_0, l1_1⟩ : S24)] : List (S24))) (inner := [.int .i64 a0_0, .slice A0_1 l0_1.length c0_1, .int .i64 a1_0, .slice A1_1 l1_1.length c1_1]) (ok := (fun k_ => ((P0_1_ k_ ∨ P1_1_ k_) ∨ w.heap.size ≤ k_) ∧ k_ ≠ gb570 ∧ k_ ≠ gb571)) (okp := (fun k_ => ((P0_1_ k_ ∨ P1_1_ k_) ∨ w.heap.size ≤ k_) ∧ k_ ≠ gb570 ∧ k_ ≠ gb571)) ?hr ?hp (fun _ hk => hk) ((show ∀ k_, w5.heap.size ≤ k_ → (fun k_ => ((P0_1_ k_ ∨ P1_1_ k_) ∨ w.heap.size ≤ k_) ∧ k_ ≠ gb570 ∧ k_ ≠ gb571) k_ from fun k_ hk => ⟨(.inr (Nat.le_trans (below_size (by repeat (first | (with_reducible first | exact HB.out | apply below_alloc | apply pw_below_drewN | apply below_drew1 | refine below_set ?_ GE570.out | refine below_set ?_ GE571.out) | exact HB.out))) hk)), Kd.freshB (g := gb570) (o := .cells #[.int .i64 a0_0, .slice A0_1 l0_1.length c0_1] 24 (0, 0)) (by (with_reducible repeat (first | refine blk_drewN ?_ _ | refine blk_drew ?_ | refine blk_alloc ?_ _)); exact BK570.out) k_ hk, Kd.freshB (g := gb571) (o := .cells #[.int .i64 a1_0, .slice A1_1 l1_1.length c1_1] 24 (0, 0)) (by (with_reducible repeat (first | refine blk_drewN ?_ _ | refine blk_drew ?_ | refine blk_alloc ?_ _)); exact BK571.out) k_ hk⟩) _ (Nat.le_refl _)) (Below.refl _ _) (Nat.le_refl _) (by simp) ?_; (case hd => rfl); (case hg => rfl); (case hr => first | (go_simp; done) | (go_simp; rfl)); (case hp => exact (Reps.c2 (show Kd.FK k24 _ _ (⟨a0_0, l0_1⟩ : S24) [.int .i64 a0_0, .slice A0_1 l0_1.length c0_1] from (k24_mkF _ _ (⟨a0_0, l0_1⟩ : S24) (Kd.V_reads' (Kd.V_mono (ok' := (fun k_ => ((P0_1_ k_ ∨ P1_1_ k_) ∨ w.heap.size ≤ k_) ∧ k_ ≠ gb570 ∧ k_ ≠ gb571)) (HO0_1.out) (fun k_ hk => by first | exact ⟨hk.1.1, ⟨hk.1.2, hk.2⟩⟩ | (revert hk; simp only [and_imp]; intros; (repeat' (first | assumption | apply And.intro)); done)))).2.1 (Kd.V_F (Kd.V_mono (ok' := (fun k_ => ((P0_1_ k_ ∨ P1_1_ k_) ∨ w.heap.size ≤ k_) ∧ k_ ≠ gb570 ∧ k_ ≠ gb571)) (HO0_1.out) (fun k_ hk => by first | exact ⟨hk.1.1, ⟨hk.1.2, hk.2⟩⟩ | (revert hk; simp only [and_imp]; intros; (repeat' (first | assumption | apply And.intro)); done)))))) (Reps.c2 (show Kd.FK k24 _ _ (⟨a1_0, l1_1⟩ : S24) [.int .i64 a1_0, .slice A1_1 l1_1.length c1_1] from (k24_mkF _ _ (⟨a1_0, l1_1⟩ : S24) (Kd.V_reads' (Kd.V_mono (ok' := (fun k_ => ((P0_1_ k_ ∨ P1_1_ k_) ∨ w.heap.size ≤ k_) ∧ k_ ≠ gb570 ∧ k_ ≠ gb571)) (HO1_1.out) (fun k_ hk => by first | exact ⟨hk.1.1, ⟨hk.1.2, hk.2⟩⟩ | (revert hk; simp only [and_imp]; intros; (repeat' (first | assumption | apply And.intro)); done)))).2.1 (Kd.V_F (Kd.V_mono (ok' := (fun k_ => ((P0_1_ k_ ∨ P1_1_ k_) ∨ w.heap.size ≤ k_) ∧ k_ ≠ gb570 ∧ k_ ≠ gb571)) (HO1_1.out) (fun k_ hk => by first | exact ⟨hk.1.1, ⟨hk.1.2, hk.2⟩⟩ | (revert hk; simp only [and_imp]; intros; (repeat' (first | assumption | apply And.intro)); done)))))) (Reps.none _ _)))); intro v573 w15 ho16 hb hg_ hnew_; clear hg_ hnew_; (first | rw [← Ny572.out] at ho16 | (simp only [Int.reduceToNat] at ho16; rw [← Ny572.out] at ho16)); have n0_ := Aside0.mk (Kd.V_elder' (by (with_reducible repeat (first | apply Kd.V_alloc | apply Kd.V_drewN | apply Kd.V_drew)); exact HO0_1.out) (Kd.N_base ho16) hb); have n1_ := Aside0.mk (Kd.V_elder' (by (with_reducible repeat (first | apply Kd.V_alloc | apply Kd.V_drewN | apply Kd.V_drew)); exact HO1_1.out) (Kd.N_base ho16) hb); have n2_ := Aside0.mk (Kd.N_lower ho16 (below_size (by repeat (first | (with_reducible first | exact HB.out | apply below_alloc | apply pw_below_drewN | apply below_drew1 | refine below_set ?_ GE570.out | refine below_set ?_ GE571.out) | exact HB.out)))); have n3_ := Aside0.mk (blk_below (g := gb570) (o := .cells #[.int .i64 a0_0, .slice A0_1 l0_1.length c0_1] 24 (0, 0)) (by (with_reducible repeat (first | refine blk_drewN ?_ _ | refine blk_drew ?_ | refine blk_alloc ?_ _)); exact BK570.out) hb); have n4_ := Aside0.mk (blk_below (g := gb571) (o := .cells #[.int .i64 a1_0, .slice A1_1 l1_1.length c1_1] 24 (0, 0)) (by (with_reducible repeat (first | refine blk_drewN ?_ _ | refine blk_drew ?_ | refine blk_alloc ?_ _)); exact BK571.out) hb); have n5_ := Aside0.mk (below_step (by repeat (first | (with_reducible first | exact HB.out | apply below_alloc | apply pw_below_drewN | apply below_drew1 | refine below_set ?_ GE570.out | refine below_set ?_ GE571.out) | exact HB.out)) hb); clear HO0_1; clear HO1_1; clear BK570; clear BK571; clear HB; have HO0_1 := n0_; have HO1_1 := n1_; have HO574 := n2_; have BK570 := n3_; have BK571 := n4_; have HB := n5_; clear n0_ n1_ n2_ n3_ n4_ n5_; clear hb ho16; obtain ⟨Ao17, co17, eo17⟩ := Kd.N_slice HO574.out; subst eo17) | ((with_reducible refine gate_callee (f := 11) rfl ?_); refine goesL_ (some 16) rfl rfl Tryd.func11 (by kernel_rfl) rfl #[.slice Ao17 y572.length co17] rfl (by (try simp only [List.map_toArray, List.map_cons, List.map_nil]); first | done | rfl | (simp only [List.length_drop, List.length_take]; rfl)) ?_; (with_reducible refine (l02few.calls k _ _ y572 true _ ?side1 ?side2 A6.out).mono ?_); (case side1 => repeat (first | exact (Kd.N_reads' HO574.out).2.2 | (with_reducible refine Kd.C_alloc ?_ _) | (with_reducible refine Kd.C_drewN ?_ _) | (with_reducible refine Kd.C_drew ?_))); (case side2 => exact (Kd.N_reads' HO574.out).2.1); rintro e w' ⟨rfl, ⟨nd, rfl⟩⟩; refine ⟨_, rfl, ?_⟩; have hcz18_0 : w15.cell? ⟨gb570, 0, none⟩ = some (.int .i64 a0_0) := (blk_cell BK570.out 0).trans rfl; have hcz18_1 : w15.cell? ⟨gb570, 1, none⟩ = some (.slice A0_1 l0_1.length c0_1) := (blk_cell BK570.out 1).trans rfl; have hfz18_0 := blk_frozen BK570.out 0; have hfz18_1 := blk_frozen BK570.out 1) | (go_at_call 21; (with_reducible refine (r02Check.calls k a0_0 _ _ l0_1 t576 _ ?side1 ?side2 A8.out).mono ?_); (case side1 => repeat (first | exact (Kd.V_reads' HO0_1.out).2.2 | (with_reducible refine Kd.C_alloc ?_ _) | (with_reducible refine Kd.C_drewN ?_ _) | (with_reducible refine Kd.C_drew ?_))); (case side2 => exact (Kd.V_reads' HO0_1.out).2.1); rintro e w19 ⟨rfl, hb⟩; have n0_ := Aside0.mk (Kd.V_below (by (with_reducible repeat (first | apply Kd.V_alloc | apply Kd.V_drewN | apply Kd.V_drew)); exact HO0_1.out) hb); have n1_ := Aside0.mk (Kd.V_below (by (with_reducible repeat (first | apply Kd.V_alloc | apply Kd.V_drewN | apply Kd.V_drew)); exact HO1_1.out) hb); have n2_ := Aside0.mk (Kd.N_below (by (with_reducible repeat (first | apply Kd.N_alloc | apply Kd.N_drewN | apply Kd.N_drew)); exact HO574.out) hb); have n3_ := Aside0.mk (blk_below (g := gb570) (o := .cells #[.int .i64 a0_0, .slice A0_1 l0_1.length c0_1] 24 (0, 0)) (by (with_reducible repeat (first | refine blk_drewN ?_ _ | refine blk_drew ?_ | refine blk_alloc ?_ _)); exact BK570.out) hb); have n4_ := Aside0.mk (blk_below (g := gb571) (o := .cells #[.int .i64 a1_0, .slice A1_1 l1_1.length c1_1] 24 (0, 0)) (by (with_reducible repeat (first | refine blk_drewN ?_ _ | refine blk_drew ?_ | refine blk_alloc ?_ _)); exact BK571.out) hb); have n5_ := Aside0.mk (below_step (by repeat (first | (with_reducible first | exact HB.out | apply below_alloc | apply pw_below_drewN | apply below_drew1 | refine below_set ?_ GE570.out | refine below_set ?_ GE571.out) | exact HB.out)) hb); clear HO0_1; clear HO1_1; clear HO574; clear BK570; clear BK571; clear HB; have HO0_1 := n0_; have HO1_1 := n1_; have HO574 := n2_; have BK570 := n3_; have BK571 := n4_; have HB := n5_; clear n0_ n1_ n2_ n3_ n4_ n5_; (try clear hb); (try clear hb2); (try clear hk); (try clear hi); have hcz20_0 : w19.cell? ⟨gb571, 0, none⟩ = some (.int .i64 a1_0) := (blk_cell BK571.out 0).trans rfl; have hcz20_1 : w19.cell? ⟨gb571, 1, none⟩ = some (.slice A1_1 l1_1.length c1_1) := (blk_cell BK571.out 1).trans rfl; have hfz20_0 := blk_frozen BK571.out 0; have hfz20_1 := blk_frozen BK571.out 1) | (go_at_call 21; (with_reducible refine (r02Check.calls k a1_0 _ _ l1_1 t577 _ ?side1 ?side2 A10.out).mono ?_); (case side1 => repeat (first | exact (Kd.V_reads' HO1_1.out).2.2 | (with_reducible refine Kd.C_alloc ?_ _) | (with_reducible refine Kd.C_drewN ?_ _) | (with_reducible refine Kd.C_drew ?_))); (case side2 => exact (Kd.V_reads' HO1_1.out).2.1); rintro e w21 ⟨rfl, hb⟩; have n0_ := Aside0.mk (Kd.V_below (by (with_reducible repeat (first | apply Kd.V_alloc | apply Kd.V_drewN | apply Kd.V_drew)); exact HO0_1.out) hb); have n1_ := Aside0.mk (Kd.V_below (by (with_reducible repeat (first | apply Kd.V_alloc | apply Kd.V_drewN | apply Kd.V_drew)); exact HO1_1.out) hb); have n2_ := Aside0.mk (Kd.N_below (by (with_reducible repeat (first | apply Kd.N_alloc | apply Kd.N_drewN | apply Kd.N_drew)); exact HO574.out) hb); have n3_ := Aside0.mk (blk_below (g := gb570) (o := .cells #[.int .i64 a0_0, .slice A0_1 l0_1.length c0_1] 24 (0, 0)) (by (with_reducible repeat (first | refine blk_drewN ?_ _ | refine blk_drew ?_ | refine blk_alloc ?_ _)); exact BK570.out) hb); have n4_ := Aside0.mk (blk_below (g := gb571) (o := .cells #[.int .i64 a1_0, .slice A1_1 l1_1.length c1_1] 24 (0, 0)) (by (with_reducible repeat (first | refine blk_drewN ?_ _ | refine blk_drew ?_ | refine blk_alloc ?_ _)); exact BK571.out) hb); have n5_ := Aside0.mk (below_step (by repeat (first | (with_reducible first | exact HB.out | apply below_alloc | apply pw_below_drewN | apply below_drew1 | refine below_set ?_ GE570.out | refine below_set ?_ GE571.out) | exact HB.out)) hb); clear HO0_1; clear HO1_1; clear HO574; clear BK570; clear BK571; clear HB; have HO0_1 := n0_; have HO1_1 := n1_; have HO574 := n2_; have BK570 := n3_; have BK571 := n4_; have HB := n5_; clear n0_ n1_ n2_ n3_ n4_ n5_; (try clear hb); (try clear hb2); (try clear hk); (try clear hi); have hcz22_0 : w21.cell? ⟨gb570, 0, none⟩ = some (.int .i64 a0_0) := (blk_cell BK570.out 0).trans rfl; have hcz22_1 : w21.cell? ⟨gb570, 1, none⟩ = some (.slice A0_1 l0_1.length c0_1) := (blk_cell BK570.out 1).trans rfl; have hfz22_0 := blk_frozen BK570.out 0; have hfz22_1 := blk_frozen BK570.out 1; have hcz23_0 : w21.cell? ⟨gb571, 0, none⟩ = some (.int .i64 a1_0) := (blk_cell BK571.out 0).trans rfl; have hcz23_1 : w21.cell? ⟨gb571, 1, none⟩ = some (.slice A1_1 l1_1.length c1_1) := (blk_cell BK571.out 1).trans rfl; have hfz23_0 := blk_frozen BK571.out 0; have hfz23_1 := blk_frozen BK571.out 1))
          go_meet
          case rel => exact ⟨_, ((a0_0 != a1_0)), (by first | rfl | (simp; done) | (simp [*]; done)), H', ⟨by first | omega | exact Nat.le_refl _⟩, ⟨by (with_reducible repeat (first | apply Kd.V_alloc | apply Kd.V_drewN | apply Kd.V_drew)); exact Kd.V_mono HO0_1.out (fun _ hk => by first | exact ⟨hk.1.1.1, ⟨hk.1.1.2, hk.1.2⟩⟩ | (revert hk; simp only [and_imp]; intros; (repeat' (first | assumption | apply And.intro)); done))⟩, ⟨by (with_reducible repeat (first | apply Kd.V_alloc | apply Kd.V_drewN | apply Kd.V_drew)); exact Kd.V_mono HO1_1.out (fun _ hk => by first | exact ⟨hk.1.1.1, ⟨hk.1.1.2, hk.1.2⟩⟩ | (revert hk; simp only [and_imp]; intros; (repeat' (first | assumption | apply And.intro)); done))⟩, ⟨by (with_reducible repeat (first | refine blk_drewN ?_ _ | refine blk_drew ?_ | refine blk_alloc ?_ _)); exact BK570.out⟩, ⟨by (with_reducible repeat (first | refine blk_drewN ?_ _ | refine blk_drew ?_ | refine blk_alloc ?_ _)); exact BK571.out⟩, ⟨by repeat (first | (with_reducible first | exact HB.out | apply below_alloc | apply pw_below_drewN | apply below_drew1 | refine below_set ?_ GE570.out | refine below_set ?_ GE571.out) | exact HB.out)⟩⟩
        · rw [if_neg c11] at H
          have c11b0 : (t577 == 0) = false := beq_eq_false_iff_ne.mpr c11
          have c11b1 : (t577 != 0) = true := bne_iff_ne.mpr c11
          have H' := Aside0.mk H
          clear H
          have hnb24 := NB570_571.out
          have hnc24 := NB571_570.out
          have hcz25_0 : w5.cell? ⟨gb570, 0, none⟩ = some (.int .i64 a0_0) := (blk_cell BK570.out 0).trans rfl
          have hcz25_1 : w5.cell? ⟨gb570, 1, none⟩ = some (.slice A0_1 l0_1.length c0_1) := (blk_cell BK570.out 1).trans rfl
          have hfz25_0 := blk_frozen BK570.out 0
          have hfz25_1 := blk_frozen BK570.out 1
          have hcz26_0 : w5.cell? ⟨gb571, 0, none⟩ = some (.int .i64 a1_0) := (blk_cell BK571.out 0).trans rfl
          have hcz26_1 : w5.cell? ⟨gb571, 1, none⟩ = some (.slice A1_1 l1_1.length c1_1) := (blk_cell BK571.out 1).trans rfl
          have hfz26_0 := blk_frozen BK571.out 0
          have hfz26_1 := blk_frozen BK571.out 1
          go_wp2_with (first | ((with_reducible refine gate_dst (N := 15) rfl ?_); refine Kd.N_lit k24 _ 24 ?hg (N' := 15) ?hd (xs := ([(⟨a0_0, l0_1⟩ : S24), (⟨a1_0, l1_1⟩ : S24)] : List (S24))) (inner := [.int .i64 a0_0, .slice A0_1 l0_1.length c0_1, .int .i64 a1_0, .slice A1_1 l1_1.length c1_1]) (ok := (fun k_ => ((P0_1_ k_ ∨ P1_1_ k_) ∨ w.heap.size ≤ k_) ∧ k_ ≠ gb570 ∧ k_ ≠ gb571)) (okp := (fun k_ => ((P0_1_ k_ ∨ P1_1_ k_) ∨ w.heap.size ≤ k_) ∧ k_ ≠ gb570 ∧ k_ ≠ gb571)) ?hr ?hp (fun _ hk => hk) ((show ∀ k_, w5.heap.size ≤ k_ → (fun k_ => ((P0_1_ k_ ∨ P1_1_ k_) ∨ w.heap.size ≤ k_) ∧ k_ ≠ gb570 ∧ k_ ≠ gb571) k_ from fun k_ hk => ⟨(.inr (Nat.le_trans (below_size (by repeat (first | (with_reducible first | exact HB.out | apply below_alloc | apply pw_below_drewN | apply below_drew1 | refine below_set ?_ GE570.out | refine below_set ?_ GE571.out) | exact HB.out))) hk)), Kd.freshB (g := gb570) (o := .cells #[.int .i64 a0_0, .slice A0_1 l0_1.length c0_1] 24 (0, 0)) (by (with_reducible repeat (first | refine blk_drewN ?_ _ | refine blk_drew ?_ | refine blk_alloc ?_ _)); exact BK570.out) k_ hk, Kd.freshB (g := gb571) (o := .cells #[.int .i64 a1_0, .slice A1_1 l1_1.length c1_1] 24 (0, 0)) (by (with_reducible repeat (first | refine blk_drewN ?_ _ | refine blk_drew ?_ | refine blk_alloc ?_ _)); exact BK571.out) k_ hk⟩) _ (Nat.le_refl _)) (Below.refl _ _) (Nat.le_refl _) (by simp) ?_; (case hd => rfl); (case hg => rfl); (case hr => first | (go_simp; done) | (go_simp; rfl)); (case hp => exact (Reps.c2 (show Kd.FK k24 _ _ (⟨a0_0, l0_1⟩ : S24) [.int .i64 a0_0, .slice A0_1 l0_1.length c0_1] from (k24_mkF _ _ (⟨a0_0, l0_1⟩ : S24) (Kd.V_reads' (Kd.V_mono (ok' := (fun k_ => ((P0_1_ k_ ∨ P1_1_ k_) ∨ w.heap.size ≤ k_) ∧ k_ ≠ gb570 ∧ k_ ≠ gb571)) (HO0_1.out) (fun k_ hk => by first | exact ⟨hk.1.1, ⟨hk.1.2, hk.2⟩⟩ | (revert hk; simp only [and_imp]; intros; (repeat' (first | assumption | apply And.intro)); done)))).2.1 (Kd.V_F (Kd.V_mono (ok' := (fun k_ => ((P0_1_ k_ ∨ P1_1_ k_) ∨ w.heap.size ≤ k_) ∧ k_ ≠ gb570 ∧ k_ ≠ gb571)) (HO0_1.out) (fun k_ hk => by first | exact ⟨hk.1.1, ⟨hk.1.2, hk.2⟩⟩ | (revert hk; simp only [and_imp]; intros; (repeat' (first | assumption | apply And.intro)); done)))))) (Reps.c2 (show Kd.FK k24 _ _ (⟨a1_0, l1_1⟩ : S24) [.int .i64 a1_0, .slice A1_1 l1_1.length c1_1] from (k24_mkF _ _ (⟨a1_0, l1_1⟩ : S24) (Kd.V_reads' (Kd.V_mono (ok' := (fun k_ => ((P0_1_ k_ ∨ P1_1_ k_) ∨ w.heap.size ≤ k_) ∧ k_ ≠ gb570 ∧ k_ ≠ gb571)) (HO1_1.out) (fun k_ hk => by first | exact ⟨hk.1.1, ⟨hk.1.2, hk.2⟩⟩ | (revert hk; simp only [and_imp]; intros; (repeat' (first | assumption | apply And.intro)); done)))).2.1 (Kd.V_F (Kd.V_mono (ok' := (fun k_ => ((P0_1_ k_ ∨ P1_1_ k_) ∨ w.heap.size ≤ k_) ∧ k_ ≠ gb570 ∧ k_ ≠ gb571)) (HO1_1.out) (fun k_ hk => by first | exact ⟨hk.1.1, ⟨hk.1.2, hk.2⟩⟩ | (revert hk; simp only [and_imp]; intros; (repeat' (first | assumption | apply And.intro)); done)))))) (Reps.none _ _)))); intro v573 w27 ho28 hb hg_ hnew_; clear hg_ hnew_; (first | rw [← Ny572.out] at ho28 | (simp only [Int.reduceToNat] at ho28; rw [← Ny572.out] at ho28)); have n0_ := Aside0.mk (Kd.V_elder' (by (with_reducible repeat (first | apply Kd.V_alloc | apply Kd.V_drewN | apply Kd.V_drew)); exact HO0_1.out) (Kd.N_base ho28) hb); have n1_ := Aside0.mk (Kd.V_elder' (by (with_reducible repeat (first | apply Kd.V_alloc | apply Kd.V_drewN | apply Kd.V_drew)); exact HO1_1.out) (Kd.N_base ho28) hb); have n2_ := Aside0.mk (Kd.N_lower ho28 (below_size (by repeat (first | (with_reducible first | exact HB.out | apply below_alloc | apply pw_below_drewN | apply below_drew1 | refine below_set ?_ GE570.out | refine below_set ?_ GE571.out) | exact HB.out)))); have n3_ := Aside0.mk (blk_below (g := gb570) (o := .cells #[.int .i64 a0_0, .slice A0_1 l0_1.length c0_1] 24 (0, 0)) (by (with_reducible repeat (first | refine blk_drewN ?_ _ | refine blk_drew ?_ | refine blk_alloc ?_ _)); exact BK570.out) hb); have n4_ := Aside0.mk (blk_below (g := gb571) (o := .cells #[.int .i64 a1_0, .slice A1_1 l1_1.length c1_1] 24 (0, 0)) (by (with_reducible repeat (first | refine blk_drewN ?_ _ | refine blk_drew ?_ | refine blk_alloc ?_ _)); exact BK571.out) hb); have n5_ := Aside0.mk (below_step (by repeat (first | (with_reducible first | exact HB.out | apply below_alloc | apply pw_below_drewN | apply below_drew1 | refine below_set ?_ GE570.out | refine below_set ?_ GE571.out) | exact HB.out)) hb); clear HO0_1; clear HO1_1; clear BK570; clear BK571; clear HB; have HO0_1 := n0_; have HO1_1 := n1_; have HO574 := n2_; have BK570 := n3_; have BK571 := n4_; have HB := n5_; clear n0_ n1_ n2_ n3_ n4_ n5_; clear hb ho28; obtain ⟨Ao29, co29, eo29⟩ := Kd.N_slice HO574.out; subst eo29) | ((with_reducible refine gate_callee (f := 11) rfl ?_); refine goesL_ (some 16) rfl rfl Tryd.func11 (by kernel_rfl) rfl #[.slice Ao29 y572.length co29] rfl (by (try simp only [List.map_toArray, List.map_cons, List.map_nil]); first | done | rfl | (simp only [List.length_drop, List.length_take]; rfl)) ?_; (with_reducible refine (l02few.calls k _ _ y572 true _ ?side1 ?side2 A6.out).mono ?_); (case side1 => repeat (first | exact (Kd.N_reads' HO574.out).2.2 | (with_reducible refine Kd.C_alloc ?_ _) | (with_reducible refine Kd.C_drewN ?_ _) | (with_reducible refine Kd.C_drew ?_))); (case side2 => exact (Kd.N_reads' HO574.out).2.1); rintro e w' ⟨rfl, ⟨nd, rfl⟩⟩; refine ⟨_, rfl, ?_⟩; have hcz30_0 : w27.cell? ⟨gb570, 0, none⟩ = some (.int .i64 a0_0) := (blk_cell BK570.out 0).trans rfl; have hcz30_1 : w27.cell? ⟨gb570, 1, none⟩ = some (.slice A0_1 l0_1.length c0_1) := (blk_cell BK570.out 1).trans rfl; have hfz30_0 := blk_frozen BK570.out 0; have hfz30_1 := blk_frozen BK570.out 1) | (go_at_call 21; (with_reducible refine (r02Check.calls k a0_0 _ _ l0_1 t576 _ ?side1 ?side2 A8.out).mono ?_); (case side1 => repeat (first | exact (Kd.V_reads' HO0_1.out).2.2 | (with_reducible refine Kd.C_alloc ?_ _) | (with_reducible refine Kd.C_drewN ?_ _) | (with_reducible refine Kd.C_drew ?_))); (case side2 => exact (Kd.V_reads' HO0_1.out).2.1); rintro e w31 ⟨rfl, hb⟩; have n0_ := Aside0.mk (Kd.V_below (by (with_reducible repeat (first | apply Kd.V_alloc | apply Kd.V_drewN | apply Kd.V_drew)); exact HO0_1.out) hb); have n1_ := Aside0.mk (Kd.V_below (by (with_reducible repeat (first | apply Kd.V_alloc | apply Kd.V_drewN | apply Kd.V_drew)); exact HO1_1.out) hb); have n2_ := Aside0.mk (Kd.N_below (by (with_reducible repeat (first | apply Kd.N_alloc | apply Kd.N_drewN | apply Kd.N_drew)); exact HO574.out) hb); have n3_ := Aside0.mk (blk_below (g := gb570) (o := .cells #[.int .i64 a0_0, .slice A0_1 l0_1.length c0_1] 24 (0, 0)) (by (with_reducible repeat (first | refine blk_drewN ?_ _ | refine blk_drew ?_ | refine blk_alloc ?_ _)); exact BK570.out) hb); have n4_ := Aside0.mk (blk_below (g := gb571) (o := .cells #[.int .i64 a1_0, .slice A1_1 l1_1.length c1_1] 24 (0, 0)) (by (with_reducible repeat (first | refine blk_drewN ?_ _ | refine blk_drew ?_ | refine blk_alloc ?_ _)); exact BK571.out) hb); have n5_ := Aside0.mk (below_step (by repeat (first | (with_reducible first | exact HB.out | apply below_alloc | apply pw_below_drewN | apply below_drew1 | refine below_set ?_ GE570.out | refine below_set ?_ GE571.out) | exact HB.out)) hb); clear HO0_1; clear HO1_1; clear HO574; clear BK570; clear BK571; clear HB; have HO0_1 := n0_; have HO1_1 := n1_; have HO574 := n2_; have BK570 := n3_; have BK571 := n4_; have HB := n5_; clear n0_ n1_ n2_ n3_ n4_ n5_; (try clear hb); (try clear hb2); (try clear hk); (try clear hi); have hcz32_0 : w31.cell? ⟨gb571, 0, none⟩ = some (.int .i64 a1_0) := (blk_cell BK571.out 0).trans rfl; have hcz32_1 : w31.cell? ⟨gb571, 1, none⟩ = some (.slice A1_1 l1_1.length c1_1) := (blk_cell BK571.out 1).trans rfl; have hfz32_0 := blk_frozen BK571.out 0; have hfz32_1 := blk_frozen BK571.out 1) | (go_at_call 21; (with_reducible refine (r02Check.calls k a1_0 _ _ l1_1 t577 _ ?side1 ?side2 A10.out).mono ?_); (case side1 => repeat (first | exact (Kd.V_reads' HO1_1.out).2.2 | (with_reducible refine Kd.C_alloc ?_ _) | (with_reducible refine Kd.C_drewN ?_ _) | (with_reducible refine Kd.C_drew ?_))); (case side2 => exact (Kd.V_reads' HO1_1.out).2.1); rintro e w33 ⟨rfl, hb⟩; have n0_ := Aside0.mk (Kd.V_below (by (with_reducible repeat (first | apply Kd.V_alloc | apply Kd.V_drewN | apply Kd.V_drew)); exact HO0_1.out) hb); have n1_ := Aside0.mk (Kd.V_below (by (with_reducible repeat (first | apply Kd.V_alloc | apply Kd.V_drewN | apply Kd.V_drew)); exact HO1_1.out) hb); have n2_ := Aside0.mk (Kd.N_below (by (with_reducible repeat (first | apply Kd.N_alloc | apply Kd.N_drewN | apply Kd.N_drew)); exact HO574.out) hb); have n3_ := Aside0.mk (blk_below (g := gb570) (o := .cells #[.int .i64 a0_0, .slice A0_1 l0_1.length c0_1] 24 (0, 0)) (by (with_reducible repeat (first | refine blk_drewN ?_ _ | refine blk_drew ?_ | refine blk_alloc ?_ _)); exact BK570.out) hb); have n4_ := Aside0.mk (blk_below (g := gb571) (o := .cells #[.int .i64 a1_0, .slice A1_1 l1_1.length c1_1] 24 (0, 0)) (by (with_reducible repeat (first | refine blk_drewN ?_ _ | refine blk_drew ?_ | refine blk_alloc ?_ _)); exact BK571.out) hb); have n5_ := Aside0.mk (below_step (by repeat (first | (with_reducible first | exact HB.out | apply below_alloc | apply pw_below_drewN | apply below_drew1 | refine below_set ?_ GE570.out | refine below_set ?_ GE571.out) | exact HB.out)) hb); clear HO0_1; clear HO1_1; clear HO574; clear BK570; clear BK571; clear HB; have HO0_1 := n0_; have HO1_1 := n1_; have HO574 := n2_; have BK570 := n3_; have BK571 := n4_; have HB := n5_; clear n0_ n1_ n2_ n3_ n4_ n5_; (try clear hb); (try clear hb2); (try clear hk); (try clear hi)))
          go_meet
          case rel => exact ⟨_, (true), (by first | rfl | (simp; done) | (simp [*]; done)), H', ⟨by first | omega | exact Nat.le_refl _⟩, ⟨by (with_reducible repeat (first | apply Kd.V_alloc | apply Kd.V_drewN | apply Kd.V_drew)); exact Kd.V_mono HO0_1.out (fun _ hk => by first | exact ⟨hk.1.1.1, ⟨hk.1.1.2, hk.1.2⟩⟩ | (revert hk; simp only [and_imp]; intros; (repeat' (first | assumption | apply And.intro)); done))⟩, ⟨by (with_reducible repeat (first | apply Kd.V_alloc | apply Kd.V_drewN | apply Kd.V_drew)); exact Kd.V_mono HO1_1.out (fun _ hk => by first | exact ⟨hk.1.1.1, ⟨hk.1.1.2, hk.1.2⟩⟩ | (revert hk; simp only [and_imp]; intros; (repeat' (first | assumption | apply And.intro)); done))⟩, ⟨by (with_reducible repeat (first | refine blk_drewN ?_ _ | refine blk_drew ?_ | refine blk_alloc ?_ _)); exact BK570.out⟩, ⟨by (with_reducible repeat (first | refine blk_drewN ?_ _ | refine blk_drew ?_ | refine blk_alloc ?_ _)); exact BK571.out⟩, ⟨by repeat (first | (with_reducible first | exact HB.out | apply below_alloc | apply pw_below_drewN | apply below_drew1 | refine below_set ?_ GE570.out | refine below_set ?_ GE571.out) | exact HB.out)⟩⟩
      · rw [if_neg c9] at H
        have c9b0 : (t576 == 0) = false := beq_eq_false_iff_ne.mpr c9
        have c9b1 : (t576 != 0) = true := bne_iff_ne.mpr c9
        (first | rw [c9b0] | (simp only [i64_w, i32_w]; rw [c9b0]) | skip)
        have H' := Aside0.mk H
        clear H
        have hnb34 := NB570_571.out
        have hnc34 := NB571_570.out
        have hcz35_0 : w5.cell? ⟨gb570, 0, none⟩ = some (.int .i64 a0_0) := (blk_cell BK570.out 0).trans rfl
        have hcz35_1 : w5.cell? ⟨gb570, 1, none⟩ = some (.slice A0_1 l0_1.length c0_1) := (blk_cell BK570.out 1).trans rfl
        have hfz35_0 := blk_frozen BK570.out 0
        have hfz35_1 := blk_frozen BK570.out 1
        have hcz36_0 : w5.cell? ⟨gb571, 0, none⟩ = some (.int .i64 a1_0) := (blk_cell BK571.out 0).trans rfl
        have hcz36_1 : w5.cell? ⟨gb571, 1, none⟩ = some (.slice A1_1 l1_1.length c1_1) := (blk_cell BK571.out 1).trans rfl
        have hfz36_0 := blk_frozen BK571.out 0
        have hfz36_1 := blk_frozen BK571.out 1
        go_wp2_with (first | ((with_reducible refine gate_dst (N := 15) rfl ?_); refine Kd.N_lit k24 _ 24 ?hg (N' := 15) ?hd (xs := ([(⟨a0_0, l0_1⟩ : S24), (⟨a1_0, l1_1⟩ : S24)] : List (S24))) (inner := [.int .i64 a0_0, .slice A0_1 l0_1.length c0_1, .int .i64 a1_0, .slice A1_1 l1_1.length c1_1]) (ok := (fun k_ => ((P0_1_ k_ ∨ P1_1_ k_) ∨ w.heap.size ≤ k_) ∧ k_ ≠ gb570 ∧ k_ ≠ gb571)) (okp := (fun k_ => ((P0_1_ k_ ∨ P1_1_ k_) ∨ w.heap.size ≤ k_) ∧ k_ ≠ gb570 ∧ k_ ≠ gb571)) ?hr ?hp (fun _ hk => hk) ((show ∀ k_, w5.heap.size ≤ k_ → (fun k_ => ((P0_1_ k_ ∨ P1_1_ k_) ∨ w.heap.size ≤ k_) ∧ k_ ≠ gb570 ∧ k_ ≠ gb571) k_ from fun k_ hk => ⟨(.inr (Nat.le_trans (below_size (by repeat (first | (with_reducible first | exact HB.out | apply below_alloc | apply pw_below_drewN | apply below_drew1 | refine below_set ?_ GE570.out | refine below_set ?_ GE571.out) | exact HB.out))) hk)), Kd.freshB (g := gb570) (o := .cells #[.int .i64 a0_0, .slice A0_1 l0_1.length c0_1] 24 (0, 0)) (by (with_reducible repeat (first | refine blk_drewN ?_ _ | refine blk_drew ?_ | refine blk_alloc ?_ _)); exact BK570.out) k_ hk, Kd.freshB (g := gb571) (o := .cells #[.int .i64 a1_0, .slice A1_1 l1_1.length c1_1] 24 (0, 0)) (by (with_reducible repeat (first | refine blk_drewN ?_ _ | refine blk_drew ?_ | refine blk_alloc ?_ _)); exact BK571.out) k_ hk⟩) _ (Nat.le_refl _)) (Below.refl _ _) (Nat.le_refl _) (by simp) ?_; (case hd => rfl); (case hg => rfl); (case hr => first | (go_simp; done) | (go_simp; rfl)); (case hp => exact (Reps.c2 (show Kd.FK k24 _ _ (⟨a0_0, l0_1⟩ : S24) [.int .i64 a0_0, .slice A0_1 l0_1.length c0_1] from (k24_mkF _ _ (⟨a0_0, l0_1⟩ : S24) (Kd.V_reads' (Kd.V_mono (ok' := (fun k_ => ((P0_1_ k_ ∨ P1_1_ k_) ∨ w.heap.size ≤ k_) ∧ k_ ≠ gb570 ∧ k_ ≠ gb571)) (HO0_1.out) (fun k_ hk => by first | exact ⟨hk.1.1, ⟨hk.1.2, hk.2⟩⟩ | (revert hk; simp only [and_imp]; intros; (repeat' (first | assumption | apply And.intro)); done)))).2.1 (Kd.V_F (Kd.V_mono (ok' := (fun k_ => ((P0_1_ k_ ∨ P1_1_ k_) ∨ w.heap.size ≤ k_) ∧ k_ ≠ gb570 ∧ k_ ≠ gb571)) (HO0_1.out) (fun k_ hk => by first | exact ⟨hk.1.1, ⟨hk.1.2, hk.2⟩⟩ | (revert hk; simp only [and_imp]; intros; (repeat' (first | assumption | apply And.intro)); done)))))) (Reps.c2 (show Kd.FK k24 _ _ (⟨a1_0, l1_1⟩ : S24) [.int .i64 a1_0, .slice A1_1 l1_1.length c1_1] from (k24_mkF _ _ (⟨a1_0, l1_1⟩ : S24) (Kd.V_reads' (Kd.V_mono (ok' := (fun k_ => ((P0_1_ k_ ∨ P1_1_ k_) ∨ w.heap.size ≤ k_) ∧ k_ ≠ gb570 ∧ k_ ≠ gb571)) (HO1_1.out) (fun k_ hk => by first | exact ⟨hk.1.1, ⟨hk.1.2, hk.2⟩⟩ | (revert hk; simp only [and_imp]; intros; (repeat' (first | assumption | apply And.intro)); done)))).2.1 (Kd.V_F (Kd.V_mono (ok' := (fun k_ => ((P0_1_ k_ ∨ P1_1_ k_) ∨ w.heap.size ≤ k_) ∧ k_ ≠ gb570 ∧ k_ ≠ gb571)) (HO1_1.out) (fun k_ hk => by first | exact ⟨hk.1.1, ⟨hk.1.2, hk.2⟩⟩ | (revert hk; simp only [and_imp]; intros; (repeat' (first | assumption | apply And.intro)); done)))))) (Reps.none _ _)))); intro v573 w37 ho38 hb hg_ hnew_; clear hg_ hnew_; (first | rw [← Ny572.out] at ho38 | (simp only [Int.reduceToNat] at ho38; rw [← Ny572.out] at ho38)); have n0_ := Aside0.mk (Kd.V_elder' (by (with_reducible repeat (first | apply Kd.V_alloc | apply Kd.V_drewN | apply Kd.V_drew)); exact HO0_1.out) (Kd.N_base ho38) hb); have n1_ := Aside0.mk (Kd.V_elder' (by (with_reducible repeat (first | apply Kd.V_alloc | apply Kd.V_drewN | apply Kd.V_drew)); exact HO1_1.out) (Kd.N_base ho38) hb); have n2_ := Aside0.mk (Kd.N_lower ho38 (below_size (by repeat (first | (with_reducible first | exact HB.out | apply below_alloc | apply pw_below_drewN | apply below_drew1 | refine below_set ?_ GE570.out | refine below_set ?_ GE571.out) | exact HB.out)))); have n3_ := Aside0.mk (blk_below (g := gb570) (o := .cells #[.int .i64 a0_0, .slice A0_1 l0_1.length c0_1] 24 (0, 0)) (by (with_reducible repeat (first | refine blk_drewN ?_ _ | refine blk_drew ?_ | refine blk_alloc ?_ _)); exact BK570.out) hb); have n4_ := Aside0.mk (blk_below (g := gb571) (o := .cells #[.int .i64 a1_0, .slice A1_1 l1_1.length c1_1] 24 (0, 0)) (by (with_reducible repeat (first | refine blk_drewN ?_ _ | refine blk_drew ?_ | refine blk_alloc ?_ _)); exact BK571.out) hb); have n5_ := Aside0.mk (below_step (by repeat (first | (with_reducible first | exact HB.out | apply below_alloc | apply pw_below_drewN | apply below_drew1 | refine below_set ?_ GE570.out | refine below_set ?_ GE571.out) | exact HB.out)) hb); clear HO0_1; clear HO1_1; clear BK570; clear BK571; clear HB; have HO0_1 := n0_; have HO1_1 := n1_; have HO574 := n2_; have BK570 := n3_; have BK571 := n4_; have HB := n5_; clear n0_ n1_ n2_ n3_ n4_ n5_; clear hb ho38; obtain ⟨Ao39, co39, eo39⟩ := Kd.N_slice HO574.out; subst eo39) | ((with_reducible refine gate_callee (f := 11) rfl ?_); refine goesL_ (some 16) rfl rfl Tryd.func11 (by kernel_rfl) rfl #[.slice Ao39 y572.length co39] rfl (by (try simp only [List.map_toArray, List.map_cons, List.map_nil]); first | done | rfl | (simp only [List.length_drop, List.length_take]; rfl)) ?_; (with_reducible refine (l02few.calls k _ _ y572 true _ ?side1 ?side2 A6.out).mono ?_); (case side1 => repeat (first | exact (Kd.N_reads' HO574.out).2.2 | (with_reducible refine Kd.C_alloc ?_ _) | (with_reducible refine Kd.C_drewN ?_ _) | (with_reducible refine Kd.C_drew ?_))); (case side2 => exact (Kd.N_reads' HO574.out).2.1); rintro e w' ⟨rfl, ⟨nd, rfl⟩⟩; refine ⟨_, rfl, ?_⟩; have hcz40_0 : w37.cell? ⟨gb570, 0, none⟩ = some (.int .i64 a0_0) := (blk_cell BK570.out 0).trans rfl; have hcz40_1 : w37.cell? ⟨gb570, 1, none⟩ = some (.slice A0_1 l0_1.length c0_1) := (blk_cell BK570.out 1).trans rfl; have hfz40_0 := blk_frozen BK570.out 0; have hfz40_1 := blk_frozen BK570.out 1) | (go_at_call 21; (with_reducible refine (r02Check.calls k a0_0 _ _ l0_1 t576 _ ?side1 ?side2 A8.out).mono ?_); (case side1 => repeat (first | exact (Kd.V_reads' HO0_1.out).2.2 | (with_reducible refine Kd.C_alloc ?_ _) | (with_reducible refine Kd.C_drewN ?_ _) | (with_reducible refine Kd.C_drew ?_))); (case side2 => exact (Kd.V_reads' HO0_1.out).2.1); rintro e w41 ⟨rfl, hb⟩; have n0_ := Aside0.mk (Kd.V_below (by (with_reducible repeat (first | apply Kd.V_alloc | apply Kd.V_drewN | apply Kd.V_drew)); exact HO0_1.out) hb); have n1_ := Aside0.mk (Kd.V_below (by (with_reducible repeat (first | apply Kd.V_alloc | apply Kd.V_drewN | apply Kd.V_drew)); exact HO1_1.out) hb); have n2_ := Aside0.mk (Kd.N_below (by (with_reducible repeat (first | apply Kd.N_alloc | apply Kd.N_drewN | apply Kd.N_drew)); exact HO574.out) hb); have n3_ := Aside0.mk (blk_below (g := gb570) (o := .cells #[.int .i64 a0_0, .slice A0_1 l0_1.length c0_1] 24 (0, 0)) (by (with_reducible repeat (first | refine blk_drewN ?_ _ | refine blk_drew ?_ | refine blk_alloc ?_ _)); exact BK570.out) hb); have n4_ := Aside0.mk (blk_below (g := gb571) (o := .cells #[.int .i64 a1_0, .slice A1_1 l1_1.length c1_1] 24 (0, 0)) (by (with_reducible repeat (first | refine blk_drewN ?_ _ | refine blk_drew ?_ | refine blk_alloc ?_ _)); exact BK571.out) hb); have n5_ := Aside0.mk (below_step (by repeat (first | (with_reducible first | exact HB.out | apply below_alloc | apply pw_below_drewN | apply below_drew1 | refine below_set ?_ GE570.out | refine below_set ?_ GE571.out) | exact HB.out)) hb); clear HO0_1; clear HO1_1; clear HO574; clear BK570; clear BK571; clear HB; have HO0_1 := n0_; have HO1_1 := n1_; have HO574 := n2_; have BK570 := n3_; have BK571 := n4_; have HB := n5_; clear n0_ n1_ n2_ n3_ n4_ n5_; (try clear hb); (try clear hb2); (try clear hk); (try clear hi)))
        go_meet
        case rel => exact ⟨_, (true), (by first | rfl | (simp; done) | (simp [*]; done)), H', ⟨by first | omega | exact Nat.le_refl _⟩, ⟨by (with_reducible repeat (first | apply Kd.V_alloc | apply Kd.V_drewN | apply Kd.V_drew)); exact Kd.V_mono HO0_1.out (fun _ hk => by first | exact ⟨hk.1.1.1, ⟨hk.1.1.2, hk.1.2⟩⟩ | (revert hk; simp only [and_imp]; intros; (repeat' (first | assumption | apply And.intro)); done))⟩, ⟨by (with_reducible repeat (first | apply Kd.V_alloc | apply Kd.V_drewN | apply Kd.V_drew)); exact Kd.V_mono HO1_1.out (fun _ hk => by first | exact ⟨hk.1.1.1, ⟨hk.1.1.2, hk.1.2⟩⟩ | (revert hk; simp only [and_imp]; intros; (repeat' (first | assumption | apply And.intro)); done))⟩, ⟨by (with_reducible repeat (first | refine blk_drewN ?_ _ | refine blk_drew ?_ | refine blk_alloc ?_ _)); exact BK570.out⟩, ⟨by (with_reducible repeat (first | refine blk_drewN ?_ _ | refine blk_drew ?_ | refine blk_alloc ?_ _)); exact BK571.out⟩, ⟨by repeat (first | (with_reducible first | exact HB.out | apply below_alloc | apply pw_below_drewN | apply below_drew1 | refine below_set ?_ GE570.out | refine below_set ?_ GE571.out) | exact HB.out)⟩⟩
    · replace c7 := Bool.eq_false_iff.mpr c7
      subst c7
      have H1 : (l02BitmapCounts.j0 k true a0_0 l0_1 a1_0 l1_1) = some r := by rw [if_neg (show ¬ (false = true) by decide)] at H; exact H
      clear H
      have H := H1
      clear H1
      have H' := Aside0.mk H
      clear H
      have hnb42 := NB570_571.out
      have hnc42 := NB571_570.out
      have hcz43_0 : w5.cell? ⟨gb570, 0, none⟩ = some (.int .i64 a0_0) := (blk_cell BK570.out 0).trans rfl
      have hcz43_1 : w5.cell? ⟨gb570, 1, none⟩ = some (.slice A0_1 l0_1.length c0_1) := (blk_cell BK570.out 1).trans rfl
      have hfz43_0 := blk_frozen BK570.out 0
      have hfz43_1 := blk_frozen BK570.out 1
      have hcz44_0 : w5.cell? ⟨gb571, 0, none⟩ = some (.int .i64 a1_0) := (blk_cell BK571.out 0).trans rfl
      have hcz44_1 : w5.cell? ⟨gb571, 1, none⟩ = some (.slice A1_1 l1_1.length c1_1) := (blk_cell BK571.out 1).trans rfl
      have hfz44_0 := blk_frozen BK571.out 0
      have hfz44_1 := blk_frozen BK571.out 1
      go_wp2_with (first | ((with_reducible refine gate_dst (N := 15) rfl ?_); refine Kd.N_lit k24 _ 24 ?hg (N' := 15) ?hd (xs := ([(⟨a0_0, l0_1⟩ : S24), (⟨a1_0, l1_1⟩ : S24)] : List (S24))) (inner := [.int .i64 a0_0, .slice A0_1 l0_1.length c0_1, .int .i64 a1_0, .slice A1_1 l1_1.length c1_1]) (ok := (fun k_ => ((P0_1_ k_ ∨ P1_1_ k_) ∨ w.heap.size ≤ k_) ∧ k_ ≠ gb570 ∧ k_ ≠ gb571)) (okp := (fun k_ => ((P0_1_ k_ ∨ P1_1_ k_) ∨ w.heap.size ≤ k_) ∧ k_ ≠ gb570 ∧ k_ ≠ gb571)) ?hr ?hp (fun _ hk => hk) ((show ∀ k_, w5.heap.size ≤ k_ → (fun k_ => ((P0_1_ k_ ∨ P1_1_ k_) ∨ w.heap.size ≤ k_) ∧ k_ ≠ gb570 ∧ k_ ≠ gb571) k_ from fun k_ hk => ⟨(.inr (Nat.le_trans (below_size (by repeat (first | (with_reducible first | exact HB.out | apply below_alloc | apply pw_below_drewN | apply below_drew1 | refine below_set ?_ GE570.out | refine below_set ?_ GE571.out) | exact HB.out))) hk)), Kd.freshB (g := gb570) (o := .cells #[.int .i64 a0_0, .slice A0_1 l0_1.length c0_1] 24 (0, 0)) (by (with_reducible repeat (first | refine blk_drewN ?_ _ | refine blk_drew ?_ | refine blk_alloc ?_ _)); exact BK570.out) k_ hk, Kd.freshB (g := gb571) (o := .cells #[.int .i64 a1_0, .slice A1_1 l1_1.length c1_1] 24 (0, 0)) (by (with_reducible repeat (first | refine blk_drewN ?_ _ | refine blk_drew ?_ | refine blk_alloc ?_ _)); exact BK571.out) k_ hk⟩) _ (Nat.le_refl _)) (Below.refl _ _) (Nat.le_refl _) (by simp) ?_; (case hd => rfl); (case hg => rfl); (case hr => first | (go_simp; done) | (go_simp; rfl)); (case hp => exact (Reps.c2 (show Kd.FK k24 _ _ (⟨a0_0, l0_1⟩ : S24) [.int .i64 a0_0, .slice A0_1 l0_1.length c0_1] from (k24_mkF _ _ (⟨a0_0, l0_1⟩ : S24) (Kd.V_reads' (Kd.V_mono (ok' := (fun k_ => ((P0_1_ k_ ∨ P1_1_ k_) ∨ w.heap.size ≤ k_) ∧ k_ ≠ gb570 ∧ k_ ≠ gb571)) (HO0_1.out) (fun k_ hk => by first | exact ⟨hk.1.1, ⟨hk.1.2, hk.2⟩⟩ | (revert hk; simp only [and_imp]; intros; (repeat' (first | assumption | apply And.intro)); done)))).2.1 (Kd.V_F (Kd.V_mono (ok' := (fun k_ => ((P0_1_ k_ ∨ P1_1_ k_) ∨ w.heap.size ≤ k_) ∧ k_ ≠ gb570 ∧ k_ ≠ gb571)) (HO0_1.out) (fun k_ hk => by first | exact ⟨hk.1.1, ⟨hk.1.2, hk.2⟩⟩ | (revert hk; simp only [and_imp]; intros; (repeat' (first | assumption | apply And.intro)); done)))))) (Reps.c2 (show Kd.FK k24 _ _ (⟨a1_0, l1_1⟩ : S24) [.int .i64 a1_0, .slice A1_1 l1_1.length c1_1] from (k24_mkF _ _ (⟨a1_0, l1_1⟩ : S24) (Kd.V_reads' (Kd.V_mono (ok' := (fun k_ => ((P0_1_ k_ ∨ P1_1_ k_) ∨ w.heap.size ≤ k_) ∧ k_ ≠ gb570 ∧ k_ ≠ gb571)) (HO1_1.out) (fun k_ hk => by first | exact ⟨hk.1.1, ⟨hk.1.2, hk.2⟩⟩ | (revert hk; simp only [and_imp]; intros; (repeat' (first | assumption | apply And.intro)); done)))).2.1 (Kd.V_F (Kd.V_mono (ok' := (fun k_ => ((P0_1_ k_ ∨ P1_1_ k_) ∨ w.heap.size ≤ k_) ∧ k_ ≠ gb570 ∧ k_ ≠ gb571)) (HO1_1.out) (fun k_ hk => by first | exact ⟨hk.1.1, ⟨hk.1.2, hk.2⟩⟩ | (revert hk; simp only [and_imp]; intros; (repeat' (first | assumption | apply And.intro)); done)))))) (Reps.none _ _)))); intro v573 w45 ho46 hb hg_ hnew_; clear hg_ hnew_; (first | rw [← Ny572.out] at ho46 | (simp only [Int.reduceToNat] at ho46; rw [← Ny572.out] at ho46)); have n0_ := Aside0.mk (Kd.V_elder' (by (with_reducible repeat (first | apply Kd.V_alloc | apply Kd.V_drewN | apply Kd.V_drew)); exact HO0_1.out) (Kd.N_base ho46) hb); have n1_ := Aside0.mk (Kd.V_elder' (by (with_reducible repeat (first | apply Kd.V_alloc | apply Kd.V_drewN | apply Kd.V_drew)); exact HO1_1.out) (Kd.N_base ho46) hb); have n2_ := Aside0.mk (Kd.N_lower ho46 (below_size (by repeat (first | (with_reducible first | exact HB.out | apply below_alloc | apply pw_below_drewN | apply below_drew1 | refine below_set ?_ GE570.out | refine below_set ?_ GE571.out) | exact HB.out)))); have n3_ := Aside0.mk (blk_below (g := gb570) (o := .cells #[.int .i64 a0_0, .slice A0_1 l0_1.length c0_1] 24 (0, 0)) (by (with_reducible repeat (first | refine blk_drewN ?_ _ | refine blk_drew ?_ | refine blk_alloc ?_ _)); exact BK570.out) hb); have n4_ := Aside0.mk (blk_below (g := gb571) (o := .cells #[.int .i64 a1_0, .slice A1_1 l1_1.length c1_1] 24 (0, 0)) (by (with_reducible repeat (first | refine blk_drewN ?_ _ | refine blk_drew ?_ | refine blk_alloc ?_ _)); exact BK571.out) hb); have n5_ := Aside0.mk (below_step (by repeat (first | (with_reducible first | exact HB.out | apply below_alloc | apply pw_below_drewN | apply below_drew1 | refine below_set ?_ GE570.out | refine below_set ?_ GE571.out) | exact HB.out)) hb); clear HO0_1; clear HO1_1; clear BK570; clear BK571; clear HB; have HO0_1 := n0_; have HO1_1 := n1_; have HO574 := n2_; have BK570 := n3_; have BK571 := n4_; have HB := n5_; clear n0_ n1_ n2_ n3_ n4_ n5_; clear hb ho46; obtain ⟨Ao47, co47, eo47⟩ := Kd.N_slice HO574.out; subst eo47) | ((with_reducible refine gate_callee (f := 11) rfl ?_); refine goesL_ (some 16) rfl rfl Tryd.func11 (by kernel_rfl) rfl #[.slice Ao47 y572.length co47] rfl (by (try simp only [List.map_toArray, List.map_cons, List.map_nil]); first | done | rfl | (simp only [List.length_drop, List.length_take]; rfl)) ?_; (with_reducible refine (l02few.calls k _ _ y572 false _ ?side1 ?side2 A6.out).mono ?_); (case side1 => repeat (first | exact (Kd.N_reads' HO574.out).2.2 | (with_reducible refine Kd.C_alloc ?_ _) | (with_reducible refine Kd.C_drewN ?_ _) | (with_reducible refine Kd.C_drew ?_))); (case side2 => exact (Kd.N_reads' HO574.out).2.1); rintro e w' ⟨rfl, ⟨nd, rfl⟩⟩; refine ⟨_, rfl, ?_⟩))
      go_meet
      case rel => exact ⟨_, (true), (by first | rfl | (simp; done) | (simp [*]; done)), H', ⟨by first | omega | exact Nat.le_refl _⟩, ⟨by (with_reducible repeat (first | apply Kd.V_alloc | apply Kd.V_drewN | apply Kd.V_drew)); exact Kd.V_mono HO0_1.out (fun _ hk => by first | exact ⟨hk.1.1.1, ⟨hk.1.1.2, hk.1.2⟩⟩ | (revert hk; simp only [and_imp]; intros; (repeat' (first | assumption | apply And.intro)); done))⟩, ⟨by (with_reducible repeat (first | apply Kd.V_alloc | apply Kd.V_drewN | apply Kd.V_drew)); exact Kd.V_mono HO1_1.out (fun _ hk => by first | exact ⟨hk.1.1.1, ⟨hk.1.1.2, hk.1.2⟩⟩ | (revert hk; simp only [and_imp]; intros; (repeat' (first | assumption | apply And.intro)); done))⟩, ⟨by (with_reducible repeat (first | refine blk_drewN ?_ _ | refine blk_drew ?_ | refine blk_alloc ?_ _)); exact BK570.out⟩, ⟨by (with_reducible repeat (first | refine blk_drewN ?_ _ | refine blk_drew ?_ | refine blk_alloc ?_ _)); exact BK571.out⟩, ⟨by repeat (first | (with_reducible first | exact HB.out | apply below_alloc | apply pw_below_drewN | apply below_drew1 | refine below_set ?_ GE570.out | refine below_set ?_ GE571.out) | exact HB.out)⟩⟩
  case rest =>
    clear HC3
    try clear c1
    try clear c2
    try clear p2
    try clear c3
    try clear c4
    try clear c7
    try clear c9
    try clear c9b0
    try clear c9b1
    try clear c10
    try clear c11
    try clear c11b0
    try clear c11b1
    try clear c12
    try clear c24
    try clear c34
    try clear c42
    try clear hcz13_0
    try clear hcz13_1
    try clear hcz14_0
    try clear hcz14_1
    try clear hcz18_0
    try clear hcz18_1
    try clear hcz20_0
    try clear hcz20_1
    try clear hcz22_0
    try clear hcz22_1
    try clear hcz23_0
    try clear hcz23_1
    try clear hcz25_0
    try clear hcz25_1
    try clear hcz26_0
    try clear hcz26_1
    try clear hcz30_0
    try clear hcz30_1
    try clear hcz32_0
    try clear hcz32_1
    try clear hcz35_0
    try clear hcz35_1
    try clear hcz36_0
    try clear hcz36_1
    try clear hcz40_0
    try clear hcz40_1
    try clear hcz43_0
    try clear hcz43_1
    try clear hcz44_0
    try clear hcz44_1
    try clear hfz13_0
    try clear hfz13_1
    try clear hfz14_0
    try clear hfz14_1
    try clear hfz18_0
    try clear hfz18_1
    try clear hfz20_0
    try clear hfz20_1
    try clear hfz22_0
    try clear hfz22_1
    try clear hfz23_0
    try clear hfz23_1
    try clear hfz25_0
    try clear hfz25_1
    try clear hfz26_0
    try clear hfz26_1
    try clear hfz30_0
    try clear hfz30_1
    try clear hfz32_0
    try clear hfz32_1
    try clear hfz35_0
    try clear hfz35_1
    try clear hfz36_0
    try clear hfz36_1
    try clear hfz40_0
    try clear hfz40_1
    try clear hfz43_0
    try clear hfz43_1
    try clear hfz44_0
    try clear hfz44_1
    obtain ⟨kq, x34_2, rfl, HA, HJ2, HO_571001, HO_572001, BK570, BK571, HB⟩ := hcut
    cases kq with
    | zero => exact absurd HA.out (by simp [l02BitmapCounts.j0])
    | succ kj2 =>
      have H := HA.out
      clear HA
      simp only [l02BitmapCounts.j0] at H
      by_cases c48 : x34_2 = true
      · subst c48
        have H1 : ((l02awake.f kj2).bind fun t578 => (some t578)) = some r := by rw [if_pos rfl] at H; exact H
        clear H
        have H := H1
        clear H1
        replace H := Option.bind_eq_some_iff.mp H
        obtain ⟨t578, A490, H⟩ := H
        replace H : (some t578) = some r := H
        have A49 := Aside0.mk A490
        clear A490
        obtain rfl := Option.some.inj H
        go_wp2_with (first | ((with_reducible refine gate_callee (f := 12) rfl ?_); refine goesL_ (some 35) rfl rfl Tryd.func12 (by kernel_rfl) rfl #[] rfl (by (try simp only [List.map_toArray, List.map_cons, List.map_nil]); first | done | rfl | (simp only [List.length_drop, List.length_take]; rfl)) ?_; (with_reducible refine (l02awake.calls kj2  t578 _ ?side1 A49.out).mono ?_); (case side1 => exact TabOK.below hG (by repeat (first | (with_reducible first | exact HB.out | apply below_alloc | apply pw_below_drewN | apply below_drew1 | refine below_set ?_ GE570.out | refine below_set ?_ GE571.out) | exact HB.out))); rintro e w50 ⟨rfl, hb⟩; refine ⟨_, rfl, ?_⟩; have n0_ := Aside0.mk (Kd.V_below (by (with_reducible repeat (first | apply Kd.V_alloc | apply Kd.V_drewN | apply Kd.V_drew)); exact HO_571001.out) hb); have n1_ := Aside0.mk (Kd.V_below (by (with_reducible repeat (first | apply Kd.V_alloc | apply Kd.V_drewN | apply Kd.V_drew)); exact HO_572001.out) hb); have n2_ := Aside0.mk (blk_below (g := gb570) (o := .cells #[.int .i64 a0_0, .slice A0_1 l0_1.length c0_1] 24 (0, 0)) (by (with_reducible repeat (first | refine blk_drewN ?_ _ | refine blk_drew ?_ | refine blk_alloc ?_ _)); exact BK570.out) hb); have n3_ := Aside0.mk (blk_below (g := gb571) (o := .cells #[.int .i64 a1_0, .slice A1_1 l1_1.length c1_1] 24 (0, 0)) (by (with_reducible repeat (first | refine blk_drewN ?_ _ | refine blk_drew ?_ | refine blk_alloc ?_ _)); exact BK571.out) hb); have n4_ := Aside0.mk (below_step (by repeat (first | (with_reducible first | exact HB.out | apply below_alloc | apply pw_below_drewN | apply below_drew1 | refine below_set ?_ GE570.out | refine below_set ?_ GE571.out) | exact HB.out)) hb); clear HO_571001; clear HO_572001; clear BK570; clear BK571; clear HB; have HO_571001 := n0_; have HO_572001 := n1_; have BK570 := n2_; have BK571 := n3_; have HB := n4_; clear n0_ n1_ n2_ n3_ n4_; (try clear hb); (try clear hb2); (try clear hk); (try clear hi)))
        go_ret
        exact ⟨by first | rfl | (simp [errW_none, errW_some] <;> rfl) | (simp [*, errW_none, errW_some] <;> rfl), by repeat (first | (with_reducible first | exact HB.out | apply below_alloc | apply pw_below_drewN | apply below_drew1 | refine below_set ?_ GE570.out | refine below_set ?_ GE571.out) | exact HB.out)⟩
      · replace c48 := Bool.eq_false_iff.mpr c48
        subst c48
        have H1 : ((bOr.f a0_0 l0_1 a1_0 l1_1).bind fun bt579 => ((bAnd.f a0_0 l0_1 a1_0 l1_1).bind fun bt585 => ((bAndNot.f a0_0 l0_1 a1_0 l1_1).bind fun bt591 => ((bOr.f bt591.1 bt591.2.1 bt585.1 bt585.2.1).bind fun bt597 => (if bt579.2.2 = 0 then (if bt585.2.2 = 0 then (if bt591.2.2 = 0 then (l02BitmapCounts.j1 kj2 (bt597.2.2 != 0) a0_0 l0_1 a1_0 l1_1 bt579.1 bt579.2.1 bt585.1 bt585.2.1 bt591.1 bt591.2.1 bt597.1 bt597.2.1) else (l02BitmapCounts.j1 kj2 true a0_0 l0_1 a1_0 l1_1 bt579.1 bt579.2.1 bt585.1 bt585.2.1 bt591.1 bt591.2.1 bt597.1 bt597.2.1)) else (l02BitmapCounts.j1 kj2 true a0_0 l0_1 a1_0 l1_1 bt579.1 bt579.2.1 bt585.1 bt585.2.1 bt591.1 bt591.2.1 bt597.1 bt597.2.1)) else (l02BitmapCounts.j1 kj2 true a0_0 l0_1 a1_0 l1_1 bt579.1 bt579.2.1 bt585.1 bt585.2.1 bt591.1 bt591.2.1 bt597.1 bt597.2.1)))))) = some r := by rw [if_neg (show ¬ (false = true) by decide)] at H; exact H
        clear H
        have H := H1
        clear H1
        replace H := Option.bind_eq_some_iff.mp H
        obtain ⟨⟨t579, t580, t583⟩, A510, H⟩ := H
        replace H : ((bAnd.f a0_0 l0_1 a1_0 l1_1).bind fun bt585 => ((bAndNot.f a0_0 l0_1 a1_0 l1_1).bind fun bt591 => ((bOr.f bt591.1 bt591.2.1 bt585.1 bt585.2.1).bind fun bt597 => (if t583 = 0 then (if bt585.2.2 = 0 then (if bt591.2.2 = 0 then (l02BitmapCounts.j1 kj2 (bt597.2.2 != 0) a0_0 l0_1 a1_0 l1_1 t579 t580 bt585.1 bt585.2.1 bt591.1 bt591.2.1 bt597.1 bt597.2.1) else (l02BitmapCounts.j1 kj2 true a0_0 l0_1 a1_0 l1_1 t579 t580 bt585.1 bt585.2.1 bt591.1 bt591.2.1 bt597.1 bt597.2.1)) else (l02BitmapCounts.j1 kj2 true a0_0 l0_1 a1_0 l1_1 t579 t580 bt585.1 bt585.2.1 bt591.1 bt591.2.1 bt597.1 bt597.2.1)) else (l02BitmapCounts.j1 kj2 true a0_0 l0_1 a1_0 l1_1 t579 t580 bt585.1 bt585.2.1 bt591.1 bt591.2.1 bt597.1 bt597.2.1))))) = some r := H
        have A51 := Aside0.mk A510
        clear A510
        replace H := Option.bind_eq_some_iff.mp H
        obtain ⟨⟨t585, t586, t589⟩, A520, H⟩ := H
        replace H : ((bAndNot.f a0_0 l0_1 a1_0 l1_1).bind fun bt591 => ((bOr.f bt591.1 bt591.2.1 t585 t586).bind fun bt597 => (if t583 = 0 then (if t589 = 0 then (if bt591.2.2 = 0 then (l02BitmapCounts.j1 kj2 (bt597.2.2 != 0) a0_0 l0_1 a1_0 l1_1 t579 t580 t585 t586 bt591.1 bt591.2.1 bt597.1 bt597.2.1) else (l02BitmapCounts.j1 kj2 true a0_0 l0_1 a1_0 l1_1 t579 t580 t585 t586 bt591.1 bt591.2.1 bt597.1 bt597.2.1)) else (l02BitmapCounts.j1 kj2 true a0_0 l0_1 a1_0 l1_1 t579 t580 t585 t586 bt591.1 bt591.2.1 bt597.1 bt597.2.1)) else (l02BitmapCounts.j1 kj2 true a0_0 l0_1 a1_0 l1_1 t579 t580 t585 t586 bt591.1 bt591.2.1 bt597.1 bt597.2.1)))) = some r := H
        have A52 := Aside0.mk A520
        clear A520
        replace H := Option.bind_eq_some_iff.mp H
        obtain ⟨⟨t591, t592, t595⟩, A530, H⟩ := H
        replace H : ((bOr.f t591 t592 t585 t586).bind fun bt597 => (if t583 = 0 then (if t589 = 0 then (if t595 = 0 then (l02BitmapCounts.j1 kj2 (bt597.2.2 != 0) a0_0 l0_1 a1_0 l1_1 t579 t580 t585 t586 t591 t592 bt597.1 bt597.2.1) else (l02BitmapCounts.j1 kj2 true a0_0 l0_1 a1_0 l1_1 t579 t580 t585 t586 t591 t592 bt597.1 bt597.2.1)) else (l02BitmapCounts.j1 kj2 true a0_0 l0_1 a1_0 l1_1 t579 t580 t585 t586 t591 t592 bt597.1 bt597.2.1)) else (l02BitmapCounts.j1 kj2 true a0_0 l0_1 a1_0 l1_1 t579 t580 t585 t586 t591 t592 bt597.1 bt597.2.1))) = some r := H
        have A53 := Aside0.mk A530
        clear A530
        replace H := Option.bind_eq_some_iff.mp H
        obtain ⟨⟨t597, t598, t601⟩, A540, H⟩ := H
        replace H : (if t583 = 0 then (if t589 = 0 then (if t595 = 0 then (l02BitmapCounts.j1 kj2 (t601 != 0) a0_0 l0_1 a1_0 l1_1 t579 t580 t585 t586 t591 t592 t597 t598) else (l02BitmapCounts.j1 kj2 true a0_0 l0_1 a1_0 l1_1 t579 t580 t585 t586 t591 t592 t597 t598)) else (l02BitmapCounts.j1 kj2 true a0_0 l0_1 a1_0 l1_1 t579 t580 t585 t586 t591 t592 t597 t598)) else (l02BitmapCounts.j1 kj2 true a0_0 l0_1 a1_0 l1_1 t579 t580 t585 t586 t591 t592 t597 t598)) = some r := H
        have A54 := Aside0.mk A540
        clear A540
        have HC55 := Aside0.mk H
        clear H
        have hnb56 := NB570_571.out
        have hnc56 := NB571_570.out
        have hcz57_0 : wc.cell? ⟨gb570, 0, none⟩ = some (.int .i64 a0_0) := (blk_cell BK570.out 0).trans rfl
        have hcz57_1 : wc.cell? ⟨gb570, 1, none⟩ = some (.slice A0_1 l0_1.length c0_1) := (blk_cell BK570.out 1).trans rfl
        have hfz57_0 := blk_frozen BK570.out 0
        have hfz57_1 := blk_frozen BK570.out 1
        have hcz58_0 : wc.cell? ⟨gb571, 0, none⟩ = some (.int .i64 a1_0) := (blk_cell BK571.out 0).trans rfl
        have hcz58_1 : wc.cell? ⟨gb571, 1, none⟩ = some (.slice A1_1 l1_1.length c1_1) := (blk_cell BK571.out 1).trans rfl
        have hfz58_0 := blk_frozen BK571.out 0
        have hfz58_1 := blk_frozen BK571.out 1
        go_upto_region 7 with (first | ((with_reducible refine gate_callee (f := 33) rfl ?_); refine goesL_ (some 39) rfl rfl Tryd.func33 (by kernel_rfl) rfl #[.agg #[.int .i64 a0_0, .slice A0_1 l0_1.length c0_1], .agg #[.int .i64 a1_0, .slice A1_1 l1_1.length c1_1]] rfl (by (try simp only [List.map_toArray, List.map_cons, List.map_nil]); first | done | rfl | (simp only [List.length_drop, List.length_take]; rfl)) ?_; (with_reducible refine (bOr.calls a0_0 _ _ l0_1 a1_0 _ _ l1_1 t579 t580 t583 _ ?side1 ?side2 ?side3 ?side4 A51.out).mono ?_); (case side1 => repeat (first | exact (Kd.V_reads' HO_571001.out).2.2 | (with_reducible refine Kd.C_alloc ?_ _) | (with_reducible refine Kd.C_drewN ?_ _) | (with_reducible refine Kd.C_drew ?_))); (case side2 => exact (Kd.V_reads' HO_571001.out).2.1); (case side3 => repeat (first | exact (Kd.V_reads' HO_572001.out).2.2 | (with_reducible refine Kd.C_alloc ?_ _) | (with_reducible refine Kd.C_drewN ?_ _) | (with_reducible refine Kd.C_drew ?_))); (case side4 => exact (Kd.V_reads' HO_572001.out).2.1); rintro e w59 ⟨v581, rfl, ho0, hb⟩; refine ⟨_, rfl, ?_⟩; have n0_ := Aside0.mk (Kd.V_elder' (by (with_reducible repeat (first | apply Kd.V_alloc | apply Kd.V_drewN | apply Kd.V_drew)); exact HO_571001.out) (Kd.R_base ho0) hb); have n1_ := Aside0.mk (Kd.V_elder' (by (with_reducible repeat (first | apply Kd.V_alloc | apply Kd.V_drewN | apply Kd.V_drew)); exact HO_572001.out) (Kd.R_base ho0) hb); have n2_ := Aside0.mk (Kd.R_lower (Kd.R_newM (M := fun k_ => (w.heap.size ≤ k_)) ho0 (below_size (by repeat (first | (with_reducible first | exact HB.out | apply below_alloc | apply pw_below_drewN | apply below_drew1 | refine below_set ?_ GE570.out | refine below_set ?_ GE571.out) | exact HB.out))) (fun k_ h_ => h_)) (below_size (by repeat (first | (with_reducible first | exact HB.out | apply below_alloc | apply pw_below_drewN | apply below_drew1 | refine below_set ?_ GE570.out | refine below_set ?_ GE571.out) | exact HB.out)))); have n3_ := Aside0.mk (blk_below (g := gb570) (o := .cells #[.int .i64 a0_0, .slice A0_1 l0_1.length c0_1] 24 (0, 0)) (by (with_reducible repeat (first | refine blk_drewN ?_ _ | refine blk_drew ?_ | refine blk_alloc ?_ _)); exact BK570.out) hb); have n4_ := Aside0.mk (blk_below (g := gb571) (o := .cells #[.int .i64 a1_0, .slice A1_1 l1_1.length c1_1] 24 (0, 0)) (by (with_reducible repeat (first | refine blk_drewN ?_ _ | refine blk_drew ?_ | refine blk_alloc ?_ _)); exact BK571.out) hb); have n5_ := Aside0.mk (below_step (by repeat (first | (with_reducible first | exact HB.out | apply below_alloc | apply pw_below_drewN | apply below_drew1 | refine below_set ?_ GE570.out | refine below_set ?_ GE571.out) | exact HB.out)) hb); clear HO_571001; clear HO_572001; clear BK570; clear BK571; clear HB; have HO_571001 := n0_; have HO_572001 := n1_; have HO582 := n2_; have BK570 := n3_; have BK571 := n4_; have HB := n5_; clear n0_ n1_ n2_ n3_ n4_ n5_; (try clear hb); (try clear hb2); (try clear hk); (try clear hi); (try clear ho0)) | ((with_reducible refine gate_dst (N := 5) rfl ?_); refine box_event ?hg (N := 5) ?hd (cs := #[.int .i64 0, .slice none 0 0]) (t := 24) ?hr ?_; (case hd => rfl); (case hg => rfl); (case hr => first | (go_simp; done) | (go_simp; rfl)); intro gb584 hg w60 hbox hb; have n0_ := Aside0.mk (Kd.V_below (Kd.V_elderB (by (with_reducible repeat (first | apply Kd.V_alloc | apply Kd.V_drewN | apply Kd.V_drew)); exact HO_571001.out) gb584 (Nat.le_of_eq hg.symm)) hb); have n1_ := Aside0.mk (Kd.V_below (Kd.V_elderB (by (with_reducible repeat (first | apply Kd.V_alloc | apply Kd.V_drewN | apply Kd.V_drew)); exact HO_572001.out) gb584 (Nat.le_of_eq hg.symm)) hb); have n2_ := Aside0.mk (Kd.R_below (by (with_reducible repeat (first | apply Kd.R_alloc | apply Kd.R_drewN | apply Kd.R_drew)); exact HO582.out) hb); have n3_ := Aside0.mk (blk_below (g := gb570) (o := .cells #[.int .i64 a0_0, .slice A0_1 l0_1.length c0_1] 24 (0, 0)) (by (with_reducible repeat (first | refine blk_drewN ?_ _ | refine blk_drew ?_ | refine blk_alloc ?_ _)); exact BK570.out) hb); have n4_ := Aside0.mk (blk_below (g := gb571) (o := .cells #[.int .i64 a1_0, .slice A1_1 l1_1.length c1_1] 24 (0, 0)) (by (with_reducible repeat (first | refine blk_drewN ?_ _ | refine blk_drew ?_ | refine blk_alloc ?_ _)); exact BK571.out) hb); have n5_ := Aside0.mk (below_step (by repeat (first | (with_reducible first | exact HB.out | apply below_alloc | apply pw_below_drewN | apply below_drew1 | refine below_set ?_ GE570.out | refine below_set ?_ GE571.out) | exact HB.out)) hb); have n6_ := Aside0.mk (hbox); have n7_ := Aside0.mk ((by rw [hg]; exact (below_size (by repeat (first | (with_reducible first | exact HB.out | apply below_alloc | apply pw_below_drewN | apply below_drew1 | refine below_set ?_ GE570.out | refine below_set ?_ GE571.out) | exact HB.out))) : w.heap.size ≤ gb584)); have n8_ := Aside0.mk ((by rw [hg]; exact (below_size (by repeat (first | (with_reducible first | exact HB.out | apply below_alloc | apply pw_below_drewN | apply below_drew1 | refine below_set ?_ GE570.out | refine below_set ?_ GE571.out) | exact HB.out))) : w.heap.size ≤ gb584)); have n9_ := Aside0.mk ((by rw [hg]; exact Nat.ne_of_lt (blk_lt (g := gb570) (o := .cells #[.int .i64 a0_0, .slice A0_1 l0_1.length c0_1] 24 (0, 0)) (by (with_reducible repeat (first | refine blk_drewN ?_ _ | refine blk_drew ?_ | refine blk_alloc ?_ _)); exact BK570.out)) : gb570 ≠ gb584)); have n10_ := Aside0.mk ((by rw [hg]; exact Nat.ne_of_gt (blk_lt (g := gb570) (o := .cells #[.int .i64 a0_0, .slice A0_1 l0_1.length c0_1] 24 (0, 0)) (by (with_reducible repeat (first | refine blk_drewN ?_ _ | refine blk_drew ?_ | refine blk_alloc ?_ _)); exact BK570.out)) : gb584 ≠ gb570)); have n11_ := Aside0.mk ((by rw [hg]; exact Nat.ne_of_lt (blk_lt (g := gb571) (o := .cells #[.int .i64 a1_0, .slice A1_1 l1_1.length c1_1] 24 (0, 0)) (by (with_reducible repeat (first | refine blk_drewN ?_ _ | refine blk_drew ?_ | refine blk_alloc ?_ _)); exact BK571.out)) : gb571 ≠ gb584)); have n12_ := Aside0.mk ((by rw [hg]; exact Nat.ne_of_gt (blk_lt (g := gb571) (o := .cells #[.int .i64 a1_0, .slice A1_1 l1_1.length c1_1] 24 (0, 0)) (by (with_reducible repeat (first | refine blk_drewN ?_ _ | refine blk_drew ?_ | refine blk_alloc ?_ _)); exact BK571.out)) : gb584 ≠ gb571)); clear HO_571001; clear HO_572001; clear HO582; clear BK570; clear BK571; clear HB; have HO_571001 := n0_; have HO_572001 := n1_; have HO582 := n2_; have BK570 := n3_; have BK571 := n4_; have HB := n5_; have BK584 := n6_; have GW584 := n7_; have GE584 := n8_; have NB570_584 := n9_; have NB584_570 := n10_; have NB571_584 := n11_; have NB584_571 := n12_; clear n0_ n1_ n2_ n3_ n4_ n5_ n6_ n7_ n8_ n9_ n10_ n11_ n12_; clear hb hbox hg; have hnb61 := NB584_570.out; have hnc61 := NB570_584.out; have hnb62 := NB584_571.out; have hnc62 := NB571_584.out; have hcz63_0 : w60.cell? ⟨gb584, 0, none⟩ = some (.int .i64 0) := (blk_cell BK584.out 0).trans rfl; have hcz63_1 : w60.cell? ⟨gb584, 1, none⟩ = some (.slice none 0 0) := (blk_cell BK584.out 1).trans rfl; have hfz63_0 := blk_frozen BK584.out 0; have hfz63_1 := blk_frozen BK584.out 1; obtain ⟨Ao64, co64, eo64⟩ := Kd.R_slice HO582.out; subst eo64; have hcz65_0 : w60.cell? ⟨gb570, 0, none⟩ = some (.int .i64 a0_0) := (blk_cell BK570.out 0).trans rfl; have hcz65_1 : w60.cell? ⟨gb570, 1, none⟩ = some (.slice A0_1 l0_1.length c0_1) := (blk_cell BK570.out 1).trans rfl; have hfz65_0 := blk_frozen BK570.out 0; have hfz65_1 := blk_frozen BK570.out 1; have hcz66_0 : w60.cell? ⟨gb571, 0, none⟩ = some (.int .i64 a1_0) := (blk_cell BK571.out 0).trans rfl; have hcz66_1 : w60.cell? ⟨gb571, 1, none⟩ = some (.slice A1_1 l1_1.length c1_1) := (blk_cell BK571.out 1).trans rfl; have hfz66_0 := blk_frozen BK571.out 0; have hfz66_1 := blk_frozen BK571.out 1) | ((with_reducible refine gate_callee (f := 35) rfl ?_); refine goesL_ (some 45) rfl rfl Tryd.func35 (by kernel_rfl) rfl #[.agg #[.int .i64 a0_0, .slice A0_1 l0_1.length c0_1], .agg #[.int .i64 a1_0, .slice A1_1 l1_1.length c1_1]] rfl (by (try simp only [List.map_toArray, List.map_cons, List.map_nil]); first | done | rfl | (simp only [List.length_drop, List.length_take]; rfl)) ?_; (with_reducible refine (bAnd.calls a0_0 _ _ l0_1 a1_0 _ _ l1_1 t585 t586 t589 _ ?side1 ?side2 ?side3 ?side4 A52.out).mono ?_); (case side1 => first | (exact (Kd.V_reads' (e := 55) (base := w.heap.size) (n := l0_1.length) (c := c0_1) (by (with_reducible repeat (first | apply Kd.V_alloc | apply Kd.V_drewN | apply Kd.V_drew)); exact (Kd.V_mono (Kd.V_far (p := ⟨gb584, 1, none⟩) (Kd.V_far (p := ⟨gb584, 0, none⟩) (Kd.V_mono HO_571001.out (fun k_ hk => (⟨hk, hk.2⟩ : _ ∧ k_ ≠ gb584))) (fun _ hk => hk.2) (.int .i64 t579)) (fun _ hk => hk.2) (.slice Ao64 t580.length co64)) (fun _ h_ => h_.1)))).2.2) | (refine (Kd.V_reads' (e := 55) (base := w.heap.size) (ok := fun k_ => (((((P0_1_ k_ ∨ P1_1_ k_) ∨ w.heap.size ≤ k_) ∧ (k_ ≠ gb570 ∧ k_ ≠ gb571)) ∧ some k_ ≠ (.slice Ao64 t580.length co64 : Value).ownBlock) ∧ k_ ≠ gb584)) (n := l0_1.length) (c := c0_1) ?_).2.2; exact (by (with_reducible repeat (first | apply Kd.V_alloc | apply Kd.V_drewN | apply Kd.V_drew)); exact (Kd.V_mono (Kd.V_far (p := ⟨gb584, 1, none⟩) (Kd.V_far (p := ⟨gb584, 0, none⟩) (Kd.V_mono HO_571001.out (fun k_ hk => (⟨hk, hk.2⟩ : _ ∧ k_ ≠ gb584))) (fun _ hk => hk.2) (.int .i64 t579)) (fun _ hk => hk.2) (.slice Ao64 t580.length co64)) (fun _ h_ => h_.1))))); (case side2 => exact (Kd.V_reads' HO_571001.out).2.1); (case side3 => first | (exact (Kd.V_reads' (e := 55) (base := w.heap.size) (n := l1_1.length) (c := c1_1) (by (with_reducible repeat (first | apply Kd.V_alloc | apply Kd.V_drewN | apply Kd.V_drew)); exact (Kd.V_mono (Kd.V_far (p := ⟨gb584, 1, none⟩) (Kd.V_far (p := ⟨gb584, 0, none⟩) (Kd.V_mono HO_572001.out (fun k_ hk => (⟨hk, hk.2⟩ : _ ∧ k_ ≠ gb584))) (fun _ hk => hk.2) (.int .i64 t579)) (fun _ hk => hk.2) (.slice Ao64 t580.length co64)) (fun _ h_ => h_.1)))).2.2) | (refine (Kd.V_reads' (e := 55) (base := w.heap.size) (ok := fun k_ => (((((P0_1_ k_ ∨ P1_1_ k_) ∨ w.heap.size ≤ k_) ∧ (k_ ≠ gb570 ∧ k_ ≠ gb571)) ∧ some k_ ≠ (.slice Ao64 t580.length co64 : Value).ownBlock) ∧ k_ ≠ gb584)) (n := l1_1.length) (c := c1_1) ?_).2.2; exact (by (with_reducible repeat (first | apply Kd.V_alloc | apply Kd.V_drewN | apply Kd.V_drew)); exact (Kd.V_mono (Kd.V_far (p := ⟨gb584, 1, none⟩) (Kd.V_far (p := ⟨gb584, 0, none⟩) (Kd.V_mono HO_572001.out (fun k_ hk => (⟨hk, hk.2⟩ : _ ∧ k_ ≠ gb584))) (fun _ hk => hk.2) (.int .i64 t579)) (fun _ hk => hk.2) (.slice Ao64 t580.length co64)) (fun _ h_ => h_.1))))); (case side4 => exact (Kd.V_reads' HO_572001.out).2.1); rintro e w67 ⟨v587, rfl, ho0, hb⟩; refine ⟨_, rfl, ?_⟩; have n0_ := Aside0.mk (Kd.V_elder' (by (with_reducible repeat (first | apply Kd.V_alloc | apply Kd.V_drewN | apply Kd.V_drew)); exact (Kd.V_mono (Kd.V_far (p := ⟨gb584, 1, none⟩) (Kd.V_far (p := ⟨gb584, 0, none⟩) (Kd.V_mono HO_571001.out (fun k_ hk => (⟨hk, hk.2⟩ : _ ∧ k_ ≠ gb584))) (fun _ hk => hk.2) (.int .i64 t579)) (fun _ hk => hk.2) (.slice Ao64 t580.length co64)) (fun _ h_ => h_.1))) (Kd.R_base ho0) hb); have n1_ := Aside0.mk (Kd.V_elder' (by (with_reducible repeat (first | apply Kd.V_alloc | apply Kd.V_drewN | apply Kd.V_drew)); exact (Kd.V_mono (Kd.V_far (p := ⟨gb584, 1, none⟩) (Kd.V_far (p := ⟨gb584, 0, none⟩) (Kd.V_mono HO_572001.out (fun k_ hk => (⟨hk, hk.2⟩ : _ ∧ k_ ≠ gb584))) (fun _ hk => hk.2) (.int .i64 t579)) (fun _ hk => hk.2) (.slice Ao64 t580.length co64)) (fun _ h_ => h_.1))) (Kd.R_base ho0) hb); have n2_ := Aside0.mk (Kd.R_elder' (by (with_reducible repeat (first | apply Kd.R_alloc | apply Kd.R_drewN | apply Kd.R_drew)); exact (Kd.R_mono (Kd.R_far (p := ⟨gb584, 1, none⟩) (Kd.R_far (p := ⟨gb584, 0, none⟩) (Kd.R_types HO582.out BK584.out (by decide)) (fun _ hk => hk.2) (.int .i64 t579)) (fun _ hk => hk.2) (.slice Ao64 t580.length co64)) (fun _ h_ => h_.1))) (Kd.R_base ho0) hb); have n3_ := Aside0.mk (Kd.R_lower (Kd.R_new' (Kd.R_newM (M := fun k_ => (w.heap.size ≤ k_)) ho0 (below_size (by repeat (first | (with_reducible first | exact HB.out | apply below_alloc | apply pw_below_drewN | apply below_drew1 | refine below_set ?_ GE570.out | refine below_set ?_ GE571.out | refine below_set ?_ GE584.out) | exact HB.out))) (fun k_ h_ => h_)) (Kd.R_lt (by (with_reducible repeat (first | apply Kd.R_alloc | apply Kd.R_drewN | apply Kd.R_drew)); exact (Kd.R_mono (Kd.R_far (p := ⟨gb584, 1, none⟩) (Kd.R_far (p := ⟨gb584, 0, none⟩) (Kd.R_types HO582.out BK584.out (by decide)) (fun _ hk => hk.2) (.int .i64 t579)) (fun _ hk => hk.2) (.slice Ao64 t580.length co64)) (fun _ h_ => h_.1))))) (below_size (by repeat (first | (with_reducible first | exact HB.out | apply below_alloc | apply pw_below_drewN | apply below_drew1 | refine below_set ?_ GE570.out | refine below_set ?_ GE571.out | refine below_set ?_ GE584.out) | exact HB.out)))); have n4_ := Aside0.mk (blk_below (g := gb570) (o := .cells #[.int .i64 a0_0, .slice A0_1 l0_1.length c0_1] 24 (0, 0)) (by (with_reducible repeat (first | refine blk_drewN ?_ _ | refine blk_drew ?_ | refine blk_alloc ?_ _)); refine blk_far ?_ NB570_584.out _; (with_reducible repeat (first | refine blk_drewN ?_ _ | refine blk_drew ?_ | refine blk_alloc ?_ _)); refine blk_far ?_ NB570_584.out _; (with_reducible repeat (first | refine blk_drewN ?_ _ | refine blk_drew ?_ | refine blk_alloc ?_ _)); exact BK570.out) hb); have n5_ := Aside0.mk (blk_below (g := gb571) (o := .cells #[.int .i64 a1_0, .slice A1_1 l1_1.length c1_1] 24 (0, 0)) (by (with_reducible repeat (first | refine blk_drewN ?_ _ | refine blk_drew ?_ | refine blk_alloc ?_ _)); refine blk_far ?_ NB571_584.out _; (with_reducible repeat (first | refine blk_drewN ?_ _ | refine blk_drew ?_ | refine blk_alloc ?_ _)); refine blk_far ?_ NB571_584.out _; (with_reducible repeat (first | refine blk_drewN ?_ _ | refine blk_drew ?_ | refine blk_alloc ?_ _)); exact BK571.out) hb); have n6_ := Aside0.mk (blk_below (g := gb584) (o := .cells #[.int .i64 t579, .slice Ao64 t580.length co64] 24 (0, 0)) (by (with_reducible repeat (first | refine blk_drewN ?_ _ | refine blk_drew ?_ | refine blk_alloc ?_ _)); refine blk_put (cs := #[.int .i64 t579, .slice none 0 0]) ?_ 1 _ rfl; (with_reducible repeat (first | refine blk_drewN ?_ _ | refine blk_drew ?_ | refine blk_alloc ?_ _)); refine blk_put (cs := #[.int .i64 0, .slice none 0 0]) ?_ 0 _ rfl; (with_reducible repeat (first | refine blk_drewN ?_ _ | refine blk_drew ?_ | refine blk_alloc ?_ _)); exact BK584.out) hb); have n7_ := Aside0.mk (below_step (by repeat (first | (with_reducible first | exact HB.out | apply below_alloc | apply pw_below_drewN | apply below_drew1 | refine below_set ?_ GE570.out | refine below_set ?_ GE571.out | refine below_set ?_ GE584.out) | exact HB.out)) hb); clear HO_571001; clear HO_572001; clear HO582; clear BK570; clear BK571; clear BK584; clear HB; have HO_571001 := n0_; have HO_572001 := n1_; have HO582 := n2_; have HO588 := n3_; have BK570 := n4_; have BK571 := n5_; have BK584 := n6_; have HB := n7_; clear n0_ n1_ n2_ n3_ n4_ n5_ n6_ n7_; (try clear hb); (try clear hb2); (try clear hk); (try clear hi); (try clear ho0)) | ((with_reducible refine gate_dst (N := 7) rfl ?_); refine box_event ?hg (N := 7) ?hd (cs := #[.int .i64 0, .slice none 0 0]) (t := 24) ?hr ?_; (case hd => rfl); (case hg => rfl); (case hr => first | (go_simp; done) | (go_simp; rfl)); intro gb590 hg w68 hbox hb; have n0_ := Aside0.mk (Kd.V_below (Kd.V_elderB (by (with_reducible repeat (first | apply Kd.V_alloc | apply Kd.V_drewN | apply Kd.V_drew)); exact HO_571001.out) gb590 (Nat.le_of_eq hg.symm)) hb); have n1_ := Aside0.mk (Kd.V_below (Kd.V_elderB (by (with_reducible repeat (first | apply Kd.V_alloc | apply Kd.V_drewN | apply Kd.V_drew)); exact HO_572001.out) gb590 (Nat.le_of_eq hg.symm)) hb); have n2_ := Aside0.mk (Kd.R_below (by (with_reducible repeat (first | apply Kd.R_alloc | apply Kd.R_drewN | apply Kd.R_drew)); exact HO582.out) hb); have n3_ := Aside0.mk (Kd.R_below (by (with_reducible repeat (first | apply Kd.R_alloc | apply Kd.R_drewN | apply Kd.R_drew)); exact HO588.out) hb); have n4_ := Aside0.mk (blk_below (g := gb570) (o := .cells #[.int .i64 a0_0, .slice A0_1 l0_1.length c0_1] 24 (0, 0)) (by (with_reducible repeat (first | refine blk_drewN ?_ _ | refine blk_drew ?_ | refine blk_alloc ?_ _)); exact BK570.out) hb); have n5_ := Aside0.mk (blk_below (g := gb571) (o := .cells #[.int .i64 a1_0, .slice A1_1 l1_1.length c1_1] 24 (0, 0)) (by (with_reducible repeat (first | refine blk_drewN ?_ _ | refine blk_drew ?_ | refine blk_alloc ?_ _)); exact BK571.out) hb); have n6_ := Aside0.mk (blk_below (g := gb584) (o := .cells #[.int .i64 t579, .slice Ao64 t580.length co64] 24 (0, 0)) (by (with_reducible repeat (first | refine blk_drewN ?_ _ | refine blk_drew ?_ | refine blk_alloc ?_ _)); exact BK584.out) hb); have n7_ := Aside0.mk (below_step (by repeat (first | (with_reducible first | exact HB.out | apply below_alloc | apply pw_below_drewN | apply below_drew1 | refine below_set ?_ GE570.out | refine below_set ?_ GE571.out | refine below_set ?_ GE584.out) | exact HB.out)) hb); have n8_ := Aside0.mk (hbox); have n9_ := Aside0.mk ((by rw [hg]; exact (below_size (by repeat (first | (with_reducible first | exact HB.out | apply below_alloc | apply pw_below_drewN | apply below_drew1 | refine below_set ?_ GE570.out | refine below_set ?_ GE571.out | refine below_set ?_ GE584.out) | exact HB.out))) : w.heap.size ≤ gb590)); have n10_ := Aside0.mk ((by rw [hg]; exact (below_size (by repeat (first | (with_reducible first | exact HB.out | apply below_alloc | apply pw_below_drewN | apply below_drew1 | refine below_set ?_ GE570.out | refine below_set ?_ GE571.out | refine below_set ?_ GE584.out) | exact HB.out))) : w.heap.size ≤ gb590)); have n11_ := Aside0.mk ((by rw [hg]; exact Nat.ne_of_lt (blk_lt (g := gb570) (o := .cells #[.int .i64 a0_0, .slice A0_1 l0_1.length c0_1] 24 (0, 0)) (by (with_reducible repeat (first | refine blk_drewN ?_ _ | refine blk_drew ?_ | refine blk_alloc ?_ _)); exact BK570.out)) : gb570 ≠ gb590)); have n12_ := Aside0.mk ((by rw [hg]; exact Nat.ne_of_gt (blk_lt (g := gb570) (o := .cells #[.int .i64 a0_0, .slice A0_1 l0_1.length c0_1] 24 (0, 0)) (by (with_reducible repeat (first | refine blk_drewN ?_ _ | refine blk_drew ?_ | refine blk_alloc ?_ _)); exact BK570.out)) : gb590 ≠ gb570)); have n13_ := Aside0.mk ((by rw [hg]; exact Nat.ne_of_lt (blk_lt (g := gb571) (o := .cells #[.int .i64 a1_0, .slice A1_1 l1_1.length c1_1] 24 (0, 0)) (by (with_reducible repeat (first | refine blk_drewN ?_ _ | refine blk_drew ?_ | refine blk_alloc ?_ _)); exact BK571.out)) : gb571 ≠ gb590)); have n14_ := Aside0.mk ((by rw [hg]; exact Nat.ne_of_gt (blk_lt (g := gb571) (o := .cells #[.int .i64 a1_0, .slice A1_1 l1_1.length c1_1] 24 (0, 0)) (by (with_reducible repeat (first | refine blk_drewN ?_ _ | refine blk_drew ?_ | refine blk_alloc ?_ _)); exact BK571.out)) : gb590 ≠ gb571)); have n15_ := Aside0.mk ((by rw [hg]; exact Nat.ne_of_lt (blk_lt (g := gb584) (o := .cells #[.int .i64 t579, .slice Ao64 t580.length co64] 24 (0, 0)) (by (with_reducible repeat (first | refine blk_drewN ?_ _ | refine blk_drew ?_ | refine blk_alloc ?_ _)); exact BK584.out)) : gb584 ≠ gb590)); have n16_ := Aside0.mk ((by rw [hg]; exact Nat.ne_of_gt (blk_lt (g := gb584) (o := .cells #[.int .i64 t579, .slice Ao64 t580.length co64] 24 (0, 0)) (by (with_reducible repeat (first | refine blk_drewN ?_ _ | refine blk_drew ?_ | refine blk_alloc ?_ _)); exact BK584.out)) : gb590 ≠ gb584)); clear HO_571001; clear HO_572001; clear HO582; clear HO588; clear BK570; clear BK571; clear BK584; clear HB; have HO_571001 := n0_; have HO_572001 := n1_; have HO582 := n2_; have HO588 := n3_; have BK570 := n4_; have BK571 := n5_; have BK584 := n6_; have HB := n7_; have BK590 := n8_; have GW590 := n9_; have GE590 := n10_; have NB570_590 := n11_; have NB590_570 := n12_; have NB571_590 := n13_; have NB590_571 := n14_; have NB584_590 := n15_; have NB590_584 := n16_; clear n0_ n1_ n2_ n3_ n4_ n5_ n6_ n7_ n8_ n9_ n10_ n11_ n12_ n13_ n14_ n15_ n16_; clear hb hbox hg; have hnb69 := NB590_570.out; have hnc69 := NB570_590.out; have hnb70 := NB590_571.out; have hnc70 := NB571_590.out; have hnb71 := NB590_584.out; have hnc71 := NB584_590.out; have hcz72_0 : w68.cell? ⟨gb590, 0, none⟩ = some (.int .i64 0) := (blk_cell BK590.out 0).trans rfl; have hcz72_1 : w68.cell? ⟨gb590, 1, none⟩ = some (.slice none 0 0) := (blk_cell BK590.out 1).trans rfl; have hfz72_0 := blk_frozen BK590.out 0; have hfz72_1 := blk_frozen BK590.out 1; obtain ⟨Ao73, co73, eo73⟩ := Kd.R_slice HO588.out; subst eo73; have hcz74_0 : w68.cell? ⟨gb570, 0, none⟩ = some (.int .i64 a0_0) := (blk_cell BK570.out 0).trans rfl; have hcz74_1 : w68.cell? ⟨gb570, 1, none⟩ = some (.slice A0_1 l0_1.length c0_1) := (blk_cell BK570.out 1).trans rfl; have hfz74_0 := blk_frozen BK570.out 0; have hfz74_1 := blk_frozen BK570.out 1; have hcz75_0 : w68.cell? ⟨gb571, 0, none⟩ = some (.int .i64 a1_0) := (blk_cell BK571.out 0).trans rfl; have hcz75_1 : w68.cell? ⟨gb571, 1, none⟩ = some (.slice A1_1 l1_1.length c1_1) := (blk_cell BK571.out 1).trans rfl; have hfz75_0 := blk_frozen BK571.out 0; have hfz75_1 := blk_frozen BK571.out 1) | ((with_reducible refine gate_callee (f := 37) rfl ?_); refine goesL_ (some 51) rfl rfl Tryd.func37 (by kernel_rfl) rfl #[.agg #[.int .i64 a0_0, .slice A0_1 l0_1.length c0_1], .agg #[.int .i64 a1_0, .slice A1_1 l1_1.length c1_1]] rfl (by (try simp only [List.map_toArray, List.map_cons, List.map_nil]); first | done | rfl | (simp only [List.length_drop, List.length_take]; rfl)) ?_; (with_reducible refine (bAndNot.calls a0_0 _ _ l0_1 a1_0 _ _ l1_1 t591 t592 t595 _ ?side1 ?side2 ?side3 ?side4 A53.out).mono ?_); (case side1 => first | (exact (Kd.V_reads' (e := 55) (base := w.heap.size) (n := l0_1.length) (c := c0_1) (by (with_reducible repeat (first | apply Kd.V_alloc | apply Kd.V_drewN | apply Kd.V_drew)); exact (Kd.V_mono (Kd.V_far (p := ⟨gb590, 1, none⟩) (Kd.V_far (p := ⟨gb590, 0, none⟩) (Kd.V_mono HO_571001.out (fun k_ hk => (⟨hk, hk.2⟩ : _ ∧ k_ ≠ gb590))) (fun _ hk => hk.2) (.int .i64 t585)) (fun _ hk => hk.2) (.slice Ao73 t586.length co73)) (fun _ h_ => h_.1)))).2.2) | (refine (Kd.V_reads' (e := 55) (base := w.heap.size) (ok := fun k_ => (((((((P0_1_ k_ ∨ P1_1_ k_) ∨ w.heap.size ≤ k_) ∧ (k_ ≠ gb570 ∧ k_ ≠ gb571)) ∧ some k_ ≠ (.slice Ao64 t580.length co64 : Value).ownBlock) ∧ k_ ≠ gb584) ∧ some k_ ≠ (.slice Ao73 t586.length co73 : Value).ownBlock) ∧ k_ ≠ gb590)) (n := l0_1.length) (c := c0_1) ?_).2.2; exact (by (with_reducible repeat (first | apply Kd.V_alloc | apply Kd.V_drewN | apply Kd.V_drew)); exact (Kd.V_mono (Kd.V_far (p := ⟨gb590, 1, none⟩) (Kd.V_far (p := ⟨gb590, 0, none⟩) (Kd.V_mono HO_571001.out (fun k_ hk => (⟨hk, hk.2⟩ : _ ∧ k_ ≠ gb590))) (fun _ hk => hk.2) (.int .i64 t585)) (fun _ hk => hk.2) (.slice Ao73 t586.length co73)) (fun _ h_ => h_.1))))); (case side2 => exact (Kd.V_reads' HO_571001.out).2.1); (case side3 => first | (exact (Kd.V_reads' (e := 55) (base := w.heap.size) (n := l1_1.length) (c := c1_1) (by (with_reducible repeat (first | apply Kd.V_alloc | apply Kd.V_drewN | apply Kd.V_drew)); exact (Kd.V_mono (Kd.V_far (p := ⟨gb590, 1, none⟩) (Kd.V_far (p := ⟨gb590, 0, none⟩) (Kd.V_mono HO_572001.out (fun k_ hk => (⟨hk, hk.2⟩ : _ ∧ k_ ≠ gb590))) (fun _ hk => hk.2) (.int .i64 t585)) (fun _ hk => hk.2) (.slice Ao73 t586.length co73)) (fun _ h_ => h_.1)))).2.2) | (refine (Kd.V_reads' (e := 55) (base := w.heap.size) (ok := fun k_ => (((((((P0_1_ k_ ∨ P1_1_ k_) ∨ w.heap.size ≤ k_) ∧ (k_ ≠ gb570 ∧ k_ ≠ gb571)) ∧ some k_ ≠ (.slice Ao64 t580.length co64 : Value).ownBlock) ∧ k_ ≠ gb584) ∧ some k_ ≠ (.slice Ao73 t586.length co73 : Value).ownBlock) ∧ k_ ≠ gb590)) (n := l1_1.length) (c := c1_1) ?_).2.2; exact (by (with_reducible repeat (first | apply Kd.V_alloc | apply Kd.V_drewN | apply Kd.V_drew)); exact (Kd.V_mono (Kd.V_far (p := ⟨gb590, 1, none⟩) (Kd.V_far (p := ⟨gb590, 0, none⟩) (Kd.V_mono HO_572001.out (fun k_ hk => (⟨hk, hk.2⟩ : _ ∧ k_ ≠ gb590))) (fun _ hk => hk.2) (.int .i64 t585)) (fun _ hk => hk.2) (.slice Ao73 t586.length co73)) (fun _ h_ => h_.1))))); (case side4 => exact (Kd.V_reads' HO_572001.out).2.1); rintro e w76 ⟨v593, rfl, ho0, hb⟩; refine ⟨_, rfl, ?_⟩; have n0_ := Aside0.mk (Kd.V_elder' (by (with_reducible repeat (first | apply Kd.V_alloc | apply Kd.V_drewN | apply Kd.V_drew)); exact (Kd.V_mono (Kd.V_far (p := ⟨gb590, 1, none⟩) (Kd.V_far (p := ⟨gb590, 0, none⟩) (Kd.V_mono HO_571001.out (fun k_ hk => (⟨hk, hk.2⟩ : _ ∧ k_ ≠ gb590))) (fun _ hk => hk.2) (.int .i64 t585)) (fun _ hk => hk.2) (.slice Ao73 t586.length co73)) (fun _ h_ => h_.1))) (Kd.R_base ho0) hb); have n1_ := Aside0.mk (Kd.V_elder' (by (with_reducible repeat (first | apply Kd.V_alloc | apply Kd.V_drewN | apply Kd.V_drew)); exact (Kd.V_mono (Kd.V_far (p := ⟨gb590, 1, none⟩) (Kd.V_far (p := ⟨gb590, 0, none⟩) (Kd.V_mono HO_572001.out (fun k_ hk => (⟨hk, hk.2⟩ : _ ∧ k_ ≠ gb590))) (fun _ hk => hk.2) (.int .i64 t585)) (fun _ hk => hk.2) (.slice Ao73 t586.length co73)) (fun _ h_ => h_.1))) (Kd.R_base ho0) hb); have n2_ := Aside0.mk (Kd.R_elder' (by (with_reducible repeat (first | apply Kd.R_alloc | apply Kd.R_drewN | apply Kd.R_drew)); exact (Kd.R_mono (Kd.R_far (p := ⟨gb590, 1, none⟩) (Kd.R_far (p := ⟨gb590, 0, none⟩) (Kd.R_types HO582.out BK590.out (by decide)) (fun _ hk => hk.2) (.int .i64 t585)) (fun _ hk => hk.2) (.slice Ao73 t586.length co73)) (fun _ h_ => h_.1))) (Kd.R_base ho0) hb); have n3_ := Aside0.mk (Kd.R_elder' (by (with_reducible repeat (first | apply Kd.R_alloc | apply Kd.R_drewN | apply Kd.R_drew)); exact (Kd.R_mono (Kd.R_far (p := ⟨gb590, 1, none⟩) (Kd.R_far (p := ⟨gb590, 0, none⟩) (Kd.R_types HO588.out BK590.out (by decide)) (fun _ hk => hk.2) (.int .i64 t585)) (fun _ hk => hk.2) (.slice Ao73 t586.length co73)) (fun _ h_ => h_.1))) (Kd.R_base ho0) hb); have n4_ := Aside0.mk (Kd.R_lower (Kd.R_new' (Kd.R_new' (Kd.R_newM (M := fun k_ => (w.heap.size ≤ k_)) ho0 (below_size (by repeat (first | (with_reducible first | exact HB.out | apply below_alloc | apply pw_below_drewN | apply below_drew1 | refine below_set ?_ GE570.out | refine below_set ?_ GE571.out | refine below_set ?_ GE584.out | refine below_set ?_ GE590.out) | exact HB.out))) (fun k_ h_ => h_)) (Kd.R_lt (by (with_reducible repeat (first | apply Kd.R_alloc | apply Kd.R_drewN | apply Kd.R_drew)); exact (Kd.R_mono (Kd.R_far (p := ⟨gb590, 1, none⟩) (Kd.R_far (p := ⟨gb590, 0, none⟩) (Kd.R_types HO582.out BK590.out (by decide)) (fun _ hk => hk.2) (.int .i64 t585)) (fun _ hk => hk.2) (.slice Ao73 t586.length co73)) (fun _ h_ => h_.1))))) (Kd.R_lt (by (with_reducible repeat (first | apply Kd.R_alloc | apply Kd.R_drewN | apply Kd.R_drew)); exact (Kd.R_mono (Kd.R_far (p := ⟨gb590, 1, none⟩) (Kd.R_far (p := ⟨gb590, 0, none⟩) (Kd.R_types HO588.out BK590.out (by decide)) (fun _ hk => hk.2) (.int .i64 t585)) (fun _ hk => hk.2) (.slice Ao73 t586.length co73)) (fun _ h_ => h_.1))))) (below_size (by repeat (first | (with_reducible first | exact HB.out | apply below_alloc | apply pw_below_drewN | apply below_drew1 | refine below_set ?_ GE570.out | refine below_set ?_ GE571.out | refine below_set ?_ GE584.out | refine below_set ?_ GE590.out) | exact HB.out)))); have n5_ := Aside0.mk (blk_below (g := gb570) (o := .cells #[.int .i64 a0_0, .slice A0_1 l0_1.length c0_1] 24 (0, 0)) (by (with_reducible repeat (first | refine blk_drewN ?_ _ | refine blk_drew ?_ | refine blk_alloc ?_ _)); refine blk_far ?_ NB570_590.out _; (with_reducible repeat (first | refine blk_drewN ?_ _ | refine blk_drew ?_ | refine blk_alloc ?_ _)); refine blk_far ?_ NB570_590.out _; (with_reducible repeat (first | refine blk_drewN ?_ _ | refine blk_drew ?_ | refine blk_alloc ?_ _)); exact BK570.out) hb); have n6_ := Aside0.mk (blk_below (g := gb571) (o := .cells #[.int .i64 a1_0, .slice A1_1 l1_1.length c1_1] 24 (0, 0)) (by (with_reducible repeat (first | refine blk_drewN ?_ _ | refine blk_drew ?_ | refine blk_alloc ?_ _)); refine blk_far ?_ NB571_590.out _; (with_reducible repeat (first | refine blk_drewN ?_ _ | refine blk_drew ?_ | refine blk_alloc ?_ _)); refine blk_far ?_ NB571_590.out _; (with_reducible repeat (first | refine blk_drewN ?_ _ | refine blk_drew ?_ | refine blk_alloc ?_ _)); exact BK571.out) hb); have n7_ := Aside0.mk (blk_below (g := gb584) (o := .cells #[.int .i64 t579, .slice Ao64 t580.length co64] 24 (0, 0)) (by (with_reducible repeat (first | refine blk_drewN ?_ _ | refine blk_drew ?_ | refine blk_alloc ?_ _)); refine blk_far ?_ NB584_590.out _; (with_reducible repeat (first | refine blk_drewN ?_ _ | refine blk_drew ?_ | refine blk_alloc ?_ _)); refine blk_far ?_ NB584_590.out _; (with_reducible repeat (first | refine blk_drewN ?_ _ | refine blk_drew ?_ | refine blk_alloc ?_ _)); exact BK584.out) hb); have n8_ := Aside0.mk (blk_below (g := gb590) (o := .cells #[.int .i64 t585, .slice Ao73 t586.length co73] 24 (0, 0)) (by (with_reducible repeat (first | refine blk_drewN ?_ _ | refine blk_drew ?_ | refine blk_alloc ?_ _)); refine blk_put (cs := #[.int .i64 t585, .slice none 0 0]) ?_ 1 _ rfl; (with_reducible repeat (first | refine blk_drewN ?_ _ | refine blk_drew ?_ | refine blk_alloc ?_ _)); refine blk_put (cs := #[.int .i64 0, .slice none 0 0]) ?_ 0 _ rfl; (with_reducible repeat (first | refine blk_drewN ?_ _ | refine blk_drew ?_ | refine blk_alloc ?_ _)); exact BK590.out) hb); have n9_ := Aside0.mk (below_step (by repeat (first | (with_reducible first | exact HB.out | apply below_alloc | apply pw_below_drewN | apply below_drew1 | refine below_set ?_ GE570.out | refine below_set ?_ GE571.out | refine below_set ?_ GE584.out | refine below_set ?_ GE590.out) | exact HB.out)) hb); clear HO_571001; clear HO_572001; clear HO582; clear HO588; clear BK570; clear BK571; clear BK584; clear BK590; clear HB; have HO_571001 := n0_; have HO_572001 := n1_; have HO582 := n2_; have HO588 := n3_; have HO594 := n4_; have BK570 := n5_; have BK571 := n6_; have BK584 := n7_; have BK590 := n8_; have HB := n9_; clear n0_ n1_ n2_ n3_ n4_ n5_ n6_ n7_ n8_ n9_; (try clear hb); (try clear hb2); (try clear hk); (try clear hi); (try clear ho0)) | ((with_reducible refine gate_dst (N := 9) rfl ?_); refine box_event ?hg (N := 9) ?hd (cs := #[.int .i64 0, .slice none 0 0]) (t := 24) ?hr ?_; (case hd => rfl); (case hg => rfl); (case hr => first | (go_simp; done) | (go_simp; rfl)); intro gb596 hg w77 hbox hb; have n0_ := Aside0.mk (Kd.V_below (Kd.V_elderB (by (with_reducible repeat (first | apply Kd.V_alloc | apply Kd.V_drewN | apply Kd.V_drew)); exact HO_571001.out) gb596 (Nat.le_of_eq hg.symm)) hb); have n1_ := Aside0.mk (Kd.V_below (Kd.V_elderB (by (with_reducible repeat (first | apply Kd.V_alloc | apply Kd.V_drewN | apply Kd.V_drew)); exact HO_572001.out) gb596 (Nat.le_of_eq hg.symm)) hb); have n2_ := Aside0.mk (Kd.R_below (by (with_reducible repeat (first | apply Kd.R_alloc | apply Kd.R_drewN | apply Kd.R_drew)); exact HO582.out) hb); have n3_ := Aside0.mk (Kd.R_below (by (with_reducible repeat (first | apply Kd.R_alloc | apply Kd.R_drewN | apply Kd.R_drew)); exact HO588.out) hb); have n4_ := Aside0.mk (Kd.R_below (by (with_reducible repeat (first | apply Kd.R_alloc | apply Kd.R_drewN | apply Kd.R_drew)); exact HO594.out) hb); have n5_ := Aside0.mk (blk_below (g := gb570) (o := .cells #[.int .i64 a0_0, .slice A0_1 l0_1.length c0_1] 24 (0, 0)) (by (with_reducible repeat (first | refine blk_drewN ?_ _ | refine blk_drew ?_ | refine blk_alloc ?_ _)); exact BK570.out) hb); have n6_ := Aside0.mk (blk_below (g := gb571) (o := .cells #[.int .i64 a1_0, .slice A1_1 l1_1.length c1_1] 24 (0, 0)) (by (with_reducible repeat (first | refine blk_drewN ?_ _ | refine blk_drew ?_ | refine blk_alloc ?_ _)); exact BK571.out) hb); have n7_ := Aside0.mk (blk_below (g := gb584) (o := .cells #[.int .i64 t579, .slice Ao64 t580.length co64] 24 (0, 0)) (by (with_reducible repeat (first | refine blk_drewN ?_ _ | refine blk_drew ?_ | refine blk_alloc ?_ _)); exact BK584.out) hb); have n8_ := Aside0.mk (blk_below (g := gb590) (o := .cells #[.int .i64 t585, .slice Ao73 t586.length co73] 24 (0, 0)) (by (with_reducible repeat (first | refine blk_drewN ?_ _ | refine blk_drew ?_ | refine blk_alloc ?_ _)); exact BK590.out) hb); have n9_ := Aside0.mk (below_step (by repeat (first | (with_reducible first | exact HB.out | apply below_alloc | apply pw_below_drewN | apply below_drew1 | refine below_set ?_ GE570.out | refine below_set ?_ GE571.out | refine below_set ?_ GE584.out | refine below_set ?_ GE590.out) | exact HB.out)) hb); have n10_ := Aside0.mk (hbox); have n11_ := Aside0.mk ((by rw [hg]; exact (below_size (by repeat (first | (with_reducible first | exact HB.out | apply below_alloc | apply pw_below_drewN | apply below_drew1 | refine below_set ?_ GE570.out | refine below_set ?_ GE571.out | refine below_set ?_ GE584.out | refine below_set ?_ GE590.out) | exact HB.out))) : w.heap.size ≤ gb596)); have n12_ := Aside0.mk ((by rw [hg]; exact (below_size (by repeat (first | (with_reducible first | exact HB.out | apply below_alloc | apply pw_below_drewN | apply below_drew1 | refine below_set ?_ GE570.out | refine below_set ?_ GE571.out | refine below_set ?_ GE584.out | refine below_set ?_ GE590.out) | exact HB.out))) : w.heap.size ≤ gb596)); have n13_ := Aside0.mk ((by rw [hg]; exact Nat.ne_of_lt (blk_lt (g := gb570) (o := .cells #[.int .i64 a0_0, .slice A0_1 l0_1.length c0_1] 24 (0, 0)) (by (with_reducible repeat (first | refine blk_drewN ?_ _ | refine blk_drew ?_ | refine blk_alloc ?_ _)); exact BK570.out)) : gb570 ≠ gb596)); have n14_ := Aside0.mk ((by rw [hg]; exact Nat.ne_of_gt (blk_lt (g := gb570) (o := .cells #[.int .i64 a0_0, .slice A0_1 l0_1.length c0_1] 24 (0, 0)) (by (with_reducible repeat (first | refine blk_drewN ?_ _ | refine blk_drew ?_ | refine blk_alloc ?_ _)); exact BK570.out)) : gb596 ≠ gb570)); have n15_ := Aside0.mk ((by rw [hg]; exact Nat.ne_of_lt (blk_lt (g := gb571) (o := .cells #[.int .i64 a1_0, .slice A1_1 l1_1.length c1_1] 24 (0, 0)) (by (with_reducible repeat (first | refine blk_drewN ?_ _ | refine blk_drew ?_ | refine blk_alloc ?_ _)); exact BK571.out)) : gb571 ≠ gb596)); have n16_ := Aside0.mk ((by rw [hg]; exact Nat.ne_of_gt (blk_lt (g := gb571) (o := .cells #[.int .i64 a1_0, .slice A1_1 l1_1.length c1_1] 24 (0, 0)) (by (with_reducible repeat (first | refine blk_drewN ?_ _ | refine blk_drew ?_ | refine blk_alloc ?_ _)); exact BK571.out)) : gb596 ≠ gb571)); have n17_ := Aside0.mk ((by rw [hg]; exact Nat.ne_of_lt (blk_lt (g := gb584) (o := .cells #[.int .i64 t579, .slice Ao64 t580.length co64] 24 (0, 0)) (by (with_reducible repeat (first | refine blk_drewN ?_ _ | refine blk_drew ?_ | refine blk_alloc ?_ _)); exact BK584.out)) : gb584 ≠ gb596)); have n18_ := Aside0.mk ((by rw [hg]; exact Nat.ne_of_gt (blk_lt (g := gb584) (o := .cells #[.int .i64 t579, .slice Ao64 t580.length co64] 24 (0, 0)) (by (with_reducible repeat (first | refine blk_drewN ?_ _ | refine blk_drew ?_ | refine blk_alloc ?_ _)); exact BK584.out)) : gb596 ≠ gb584)); have n19_ := Aside0.mk ((by rw [hg]; exact Nat.ne_of_lt (blk_lt (g := gb590) (o := .cells #[.int .i64 t585, .slice Ao73 t586.length co73] 24 (0, 0)) (by (with_reducible repeat (first | refine blk_drewN ?_ _ | refine blk_drew ?_ | refine blk_alloc ?_ _)); exact BK590.out)) : gb590 ≠ gb596)); have n20_ := Aside0.mk ((by rw [hg]; exact Nat.ne_of_gt (blk_lt (g := gb590) (o := .cells #[.int .i64 t585, .slice Ao73 t586.length co73] 24 (0, 0)) (by (with_reducible repeat (first | refine blk_drewN ?_ _ | refine blk_drew ?_ | refine blk_alloc ?_ _)); exact BK590.out)) : gb596 ≠ gb590)); clear HO_571001; clear HO_572001; clear HO582; clear HO588; clear HO594; clear BK570; clear BK571; clear BK584; clear BK590; clear HB; have HO_571001 := n0_; have HO_572001 := n1_; have HO582 := n2_; have HO588 := n3_; have HO594 := n4_; have BK570 := n5_; have BK571 := n6_; have BK584 := n7_; have BK590 := n8_; have HB := n9_; have BK596 := n10_; have GW596 := n11_; have GE596 := n12_; have NB570_596 := n13_; have NB596_570 := n14_; have NB571_596 := n15_; have NB596_571 := n16_; have NB584_596 := n17_; have NB596_584 := n18_; have NB590_596 := n19_; have NB596_590 := n20_; clear n0_ n1_ n2_ n3_ n4_ n5_ n6_ n7_ n8_ n9_ n10_ n11_ n12_ n13_ n14_ n15_ n16_ n17_ n18_ n19_ n20_; clear hb hbox hg; have hnb78 := NB596_570.out; have hnc78 := NB570_596.out; have hnb79 := NB596_571.out; have hnc79 := NB571_596.out; have hnb80 := NB596_584.out; have hnc80 := NB584_596.out; have hnb81 := NB596_590.out; have hnc81 := NB590_596.out; have hcz82_0 : w77.cell? ⟨gb596, 0, none⟩ = some (.int .i64 0) := (blk_cell BK596.out 0).trans rfl; have hcz82_1 : w77.cell? ⟨gb596, 1, none⟩ = some (.slice none 0 0) := (blk_cell BK596.out 1).trans rfl; have hfz82_0 := blk_frozen BK596.out 0; have hfz82_1 := blk_frozen BK596.out 1; obtain ⟨Ao83, co83, eo83⟩ := Kd.R_slice HO594.out; subst eo83; have hcz84_0 : w77.cell? ⟨gb590, 0, none⟩ = some (.int .i64 t585) := (blk_cell BK590.out 0).trans rfl; have hcz84_1 : w77.cell? ⟨gb590, 1, none⟩ = some (.slice Ao73 t586.length co73) := (blk_cell BK590.out 1).trans rfl; have hfz84_0 := blk_frozen BK590.out 0; have hfz84_1 := blk_frozen BK590.out 1) | ((with_reducible refine gate_callee (f := 33) rfl ?_); refine goesL_ (some 57) rfl rfl Tryd.func33 (by kernel_rfl) rfl #[.agg #[.int .i64 t591, .slice Ao83 t592.length co83], .agg #[.int .i64 t585, .slice Ao73 t586.length co73]] rfl (by (try simp only [List.map_toArray, List.map_cons, List.map_nil]); first | done | rfl | (simp only [List.length_drop, List.length_take]; rfl)) ?_; (with_reducible refine (bOr.calls t591 _ _ t592 t585 _ _ t586 t597 t598 t601 _ ?side1 ?side2 ?side3 ?side4 A54.out).mono ?_); (case side1 => refine (Kd.R_reads' (e := 55) (base := w.heap.size) (ok := fun k_ => ((((w.heap.size ≤ k_) ∧ True) ∧ some k_ ≠ (.slice Ao64 t580.length co64 : Value).ownBlock) ∧ some k_ ≠ (.slice Ao73 t586.length co73 : Value).ownBlock)) (n := t592.length) (c := co83) ?_).2.2; exact (by (with_reducible repeat (first | apply Kd.R_alloc | apply Kd.R_drewN | apply Kd.R_drew)); exact (Kd.R_mono (Kd.R_far (p := ⟨gb596, 1, none⟩) (Kd.R_far (p := ⟨gb596, 0, none⟩) (Kd.R_types HO594.out BK596.out (by decide)) (fun _ hk => hk.2) (.int .i64 t591)) (fun _ hk => hk.2) (.slice Ao83 t592.length co83)) (fun _ h_ => h_.1)))); (case side2 => exact (Kd.R_reads' HO594.out).2.1); (case side3 => refine (Kd.R_reads' (e := 55) (base := w.heap.size) (ok := fun k_ => ((((w.heap.size ≤ k_) ∧ True) ∧ some k_ ≠ (.slice Ao64 t580.length co64 : Value).ownBlock) ∧ some k_ ≠ (.slice Ao83 t592.length co83 : Value).ownBlock)) (n := t586.length) (c := co73) ?_).2.2; exact (by (with_reducible repeat (first | apply Kd.R_alloc | apply Kd.R_drewN | apply Kd.R_drew)); exact (Kd.R_mono (Kd.R_far (p := ⟨gb596, 1, none⟩) (Kd.R_far (p := ⟨gb596, 0, none⟩) (Kd.R_types HO588.out BK596.out (by decide)) (fun _ hk => hk.2) (.int .i64 t591)) (fun _ hk => hk.2) (.slice Ao83 t592.length co83)) (fun _ h_ => h_.1)))); (case side4 => exact (Kd.R_reads' HO588.out).2.1); rintro e w85 ⟨v599, rfl, ho0, hb⟩; refine ⟨_, rfl, ?_⟩; have n0_ := Aside0.mk (Kd.V_elder' (by (with_reducible repeat (first | apply Kd.V_alloc | apply Kd.V_drewN | apply Kd.V_drew)); exact (Kd.V_mono (Kd.V_far (p := ⟨gb596, 1, none⟩) (Kd.V_far (p := ⟨gb596, 0, none⟩) (Kd.V_mono HO_571001.out (fun k_ hk => (⟨hk, hk.2⟩ : _ ∧ k_ ≠ gb596))) (fun _ hk => hk.2) (.int .i64 t591)) (fun _ hk => hk.2) (.slice Ao83 t592.length co83)) (fun _ h_ => h_.1))) (Kd.R_base ho0) hb); have n1_ := Aside0.mk (Kd.V_elder' (by (with_reducible repeat (first | apply Kd.V_alloc | apply Kd.V_drewN | apply Kd.V_drew)); exact (Kd.V_mono (Kd.V_far (p := ⟨gb596, 1, none⟩) (Kd.V_far (p := ⟨gb596, 0, none⟩) (Kd.V_mono HO_572001.out (fun k_ hk => (⟨hk, hk.2⟩ : _ ∧ k_ ≠ gb596))) (fun _ hk => hk.2) (.int .i64 t591)) (fun _ hk => hk.2) (.slice Ao83 t592.length co83)) (fun _ h_ => h_.1))) (Kd.R_base ho0) hb); have n2_ := Aside0.mk (Kd.R_elder' (by (with_reducible repeat (first | apply Kd.R_alloc | apply Kd.R_drewN | apply Kd.R_drew)); exact (Kd.R_mono (Kd.R_far (p := ⟨gb596, 1, none⟩) (Kd.R_far (p := ⟨gb596, 0, none⟩) (Kd.R_types HO582.out BK596.out (by decide)) (fun _ hk => hk.2) (.int .i64 t591)) (fun _ hk => hk.2) (.slice Ao83 t592.length co83)) (fun _ h_ => h_.1))) (Kd.R_base ho0) hb); have n3_ := Aside0.mk (Kd.R_elder' (by (with_reducible repeat (first | apply Kd.R_alloc | apply Kd.R_drewN | apply Kd.R_drew)); exact (Kd.R_mono (Kd.R_far (p := ⟨gb596, 1, none⟩) (Kd.R_far (p := ⟨gb596, 0, none⟩) (Kd.R_types HO588.out BK596.out (by decide)) (fun _ hk => hk.2) (.int .i64 t591)) (fun _ hk => hk.2) (.slice Ao83 t592.length co83)) (fun _ h_ => h_.1))) (Kd.R_base ho0) hb); have n4_ := Aside0.mk (Kd.R_elder' (by (with_reducible repeat (first | apply Kd.R_alloc | apply Kd.R_drewN | apply Kd.R_drew)); exact (Kd.R_mono (Kd.R_far (p := ⟨gb596, 1, none⟩) (Kd.R_far (p := ⟨gb596, 0, none⟩) (Kd.R_types HO594.out BK596.out (by decide)) (fun _ hk => hk.2) (.int .i64 t591)) (fun _ hk => hk.2) (.slice Ao83 t592.length co83)) (fun _ h_ => h_.1))) (Kd.R_base ho0) hb); have n5_ := Aside0.mk (Kd.R_lower (Kd.R_new' (Kd.R_new' (Kd.R_new' (Kd.R_newM (M := fun k_ => (w.heap.size ≤ k_)) ho0 (below_size (by repeat (first | (with_reducible first | exact HB.out | apply below_alloc | apply pw_below_drewN | apply below_drew1 | refine below_set ?_ GE570.out | refine below_set ?_ GE571.out | refine below_set ?_ GE584.out | refine below_set ?_ GE590.out | refine below_set ?_ GE596.out) | exact HB.out))) (fun k_ h_ => h_)) (Kd.R_lt (by (with_reducible repeat (first | apply Kd.R_alloc | apply Kd.R_drewN | apply Kd.R_drew)); exact (Kd.R_mono (Kd.R_far (p := ⟨gb596, 1, none⟩) (Kd.R_far (p := ⟨gb596, 0, none⟩) (Kd.R_types HO582.out BK596.out (by decide)) (fun _ hk => hk.2) (.int .i64 t591)) (fun _ hk => hk.2) (.slice Ao83 t592.length co83)) (fun _ h_ => h_.1))))) (Kd.R_lt (by (with_reducible repeat (first | apply Kd.R_alloc | apply Kd.R_drewN | apply Kd.R_drew)); exact (Kd.R_mono (Kd.R_far (p := ⟨gb596, 1, none⟩) (Kd.R_far (p := ⟨gb596, 0, none⟩) (Kd.R_types HO588.out BK596.out (by decide)) (fun _ hk => hk.2) (.int .i64 t591)) (fun _ hk => hk.2) (.slice Ao83 t592.length co83)) (fun _ h_ => h_.1))))) (Kd.R_lt (by (with_reducible repeat (first | apply Kd.R_alloc | apply Kd.R_drewN | apply Kd.R_drew)); exact (Kd.R_mono (Kd.R_far (p := ⟨gb596, 1, none⟩) (Kd.R_far (p := ⟨gb596, 0, none⟩) (Kd.R_types HO594.out BK596.out (by decide)) (fun _ hk => hk.2) (.int .i64 t591)) (fun _ hk => hk.2) (.slice Ao83 t592.length co83)) (fun _ h_ => h_.1))))) (below_size (by repeat (first | (with_reducible first | exact HB.out | apply below_alloc | apply pw_below_drewN | apply below_drew1 | refine below_set ?_ GE570.out | refine below_set ?_ GE571.out | refine below_set ?_ GE584.out | refine below_set ?_ GE590.out | refine below_set ?_ GE596.out) | exact HB.out)))); have n6_ := Aside0.mk (blk_below (g := gb570) (o := .cells #[.int .i64 a0_0, .slice A0_1 l0_1.length c0_1] 24 (0, 0)) (by (with_reducible repeat (first | refine blk_drewN ?_ _ | refine blk_drew ?_ | refine blk_alloc ?_ _)); refine blk_far ?_ NB570_596.out _; (with_reducible repeat (first | refine blk_drewN ?_ _ | refine blk_drew ?_ | refine blk_alloc ?_ _)); refine blk_far ?_ NB570_596.out _; (with_reducible repeat (first | refine blk_drewN ?_ _ | refine blk_drew ?_ | refine blk_alloc ?_ _)); exact BK570.out) hb); have n7_ := Aside0.mk (blk_below (g := gb571) (o := .cells #[.int .i64 a1_0, .slice A1_1 l1_1.length c1_1] 24 (0, 0)) (by (with_reducible repeat (first | refine blk_drewN ?_ _ | refine blk_drew ?_ | refine blk_alloc ?_ _)); refine blk_far ?_ NB571_596.out _; (with_reducible repeat (first | refine blk_drewN ?_ _ | refine blk_drew ?_ | refine blk_alloc ?_ _)); refine blk_far ?_ NB571_596.out _; (with_reducible repeat (first | refine blk_drewN ?_ _ | refine blk_drew ?_ | refine blk_alloc ?_ _)); exact BK571.out) hb); have n8_ := Aside0.mk (blk_below (g := gb584) (o := .cells #[.int .i64 t579, .slice Ao64 t580.length co64] 24 (0, 0)) (by (with_reducible repeat (first | refine blk_drewN ?_ _ | refine blk_drew ?_ | refine blk_alloc ?_ _)); refine blk_far ?_ NB584_596.out _; (with_reducible repeat (first | refine blk_drewN ?_ _ | refine blk_drew ?_ | refine blk_alloc ?_ _)); refine blk_far ?_ NB584_596.out _; (with_reducible repeat (first | refine blk_drewN ?_ _ | refine blk_drew ?_ | refine blk_alloc ?_ _)); exact BK584.out) hb); have n9_ := Aside0.mk (blk_below (g := gb590) (o := .cells #[.int .i64 t585, .slice Ao73 t586.length co73] 24 (0, 0)) (by (with_reducible repeat (first | refine blk_drewN ?_ _ | refine blk_drew ?_ | refine blk_alloc ?_ _)); refine blk_far ?_ NB590_596.out _; (with_reducible repeat (first | refine blk_drewN ?_ _ | refine blk_drew ?_ | refine blk_alloc ?_ _)); refine blk_far ?_ NB590_596.out _; (with_reducible repeat (first | refine blk_drewN ?_ _ | refine blk_drew ?_ | refine blk_alloc ?_ _)); exact BK590.out) hb); have n10_ := Aside0.mk (blk_below (g := gb596) (o := .cells #[.int .i64 t591, .slice Ao83 t592.length co83] 24 (0, 0)) (by (with_reducible repeat (first | refine blk_drewN ?_ _ | refine blk_drew ?_ | refine blk_alloc ?_ _)); refine blk_put (cs := #[.int .i64 t591, .slice none 0 0]) ?_ 1 _ rfl; (with_reducible repeat (first | refine blk_drewN ?_ _ | refine blk_drew ?_ | refine blk_alloc ?_ _)); refine blk_put (cs := #[.int .i64 0, .slice none 0 0]) ?_ 0 _ rfl; (with_reducible repeat (first | refine blk_drewN ?_ _ | refine blk_drew ?_ | refine blk_alloc ?_ _)); exact BK596.out) hb); have n11_ := Aside0.mk (below_step (by repeat (first | (with_reducible first | exact HB.out | apply below_alloc | apply pw_below_drewN | apply below_drew1 | refine below_set ?_ GE570.out | refine below_set ?_ GE571.out | refine below_set ?_ GE584.out | refine below_set ?_ GE590.out | refine below_set ?_ GE596.out) | exact HB.out)) hb); clear HO_571001; clear HO_572001; clear HO582; clear HO588; clear HO594; clear BK570; clear BK571; clear BK584; clear BK590; clear BK596; clear HB; have HO_571001 := n0_; have HO_572001 := n1_; have HO582 := n2_; have HO588 := n3_; have HO594 := n4_; have HO600 := n5_; have BK570 := n6_; have BK571 := n7_; have BK584 := n8_; have BK590 := n9_; have BK596 := n10_; have HB := n11_; clear n0_ n1_ n2_ n3_ n4_ n5_ n6_ n7_ n8_ n9_ n10_ n11_; (try clear hb); (try clear hb2); (try clear hk); (try clear hi); (try clear ho0)) | ((with_reducible refine gate_dst (N := 11) rfl ?_); refine box_event ?hg (N := 11) ?hd (cs := #[.int .i64 0, .slice none 0 0]) (t := 24) ?hr ?_; (case hd => rfl); (case hg => rfl); (case hr => first | (go_simp; done) | (go_simp; rfl)); intro gb602 hg w86 hbox hb; have n0_ := Aside0.mk (Kd.V_below (Kd.V_elderB (by (with_reducible repeat (first | apply Kd.V_alloc | apply Kd.V_drewN | apply Kd.V_drew)); exact HO_571001.out) gb602 (Nat.le_of_eq hg.symm)) hb); have n1_ := Aside0.mk (Kd.V_below (Kd.V_elderB (by (with_reducible repeat (first | apply Kd.V_alloc | apply Kd.V_drewN | apply Kd.V_drew)); exact HO_572001.out) gb602 (Nat.le_of_eq hg.symm)) hb); have n2_ := Aside0.mk (Kd.R_below (by (with_reducible repeat (first | apply Kd.R_alloc | apply Kd.R_drewN | apply Kd.R_drew)); exact HO582.out) hb); have n3_ := Aside0.mk (Kd.R_below (by (with_reducible repeat (first | apply Kd.R_alloc | apply Kd.R_drewN | apply Kd.R_drew)); exact HO588.out) hb); have n4_ := Aside0.mk (Kd.R_below (by (with_reducible repeat (first | apply Kd.R_alloc | apply Kd.R_drewN | apply Kd.R_drew)); exact HO594.out) hb); have n5_ := Aside0.mk (Kd.R_below (by (with_reducible repeat (first | apply Kd.R_alloc | apply Kd.R_drewN | apply Kd.R_drew)); exact HO600.out) hb); have n6_ := Aside0.mk (blk_below (g := gb570) (o := .cells #[.int .i64 a0_0, .slice A0_1 l0_1.length c0_1] 24 (0, 0)) (by (with_reducible repeat (first | refine blk_drewN ?_ _ | refine blk_drew ?_ | refine blk_alloc ?_ _)); exact BK570.out) hb); have n7_ := Aside0.mk (blk_below (g := gb571) (o := .cells #[.int .i64 a1_0, .slice A1_1 l1_1.length c1_1] 24 (0, 0)) (by (with_reducible repeat (first | refine blk_drewN ?_ _ | refine blk_drew ?_ | refine blk_alloc ?_ _)); exact BK571.out) hb); have n8_ := Aside0.mk (blk_below (g := gb584) (o := .cells #[.int .i64 t579, .slice Ao64 t580.length co64] 24 (0, 0)) (by (with_reducible repeat (first | refine blk_drewN ?_ _ | refine blk_drew ?_ | refine blk_alloc ?_ _)); exact BK584.out) hb); have n9_ := Aside0.mk (blk_below (g := gb590) (o := .cells #[.int .i64 t585, .slice Ao73 t586.length co73] 24 (0, 0)) (by (with_reducible repeat (first | refine blk_drewN ?_ _ | refine blk_drew ?_ | refine blk_alloc ?_ _)); exact BK590.out) hb); have n10_ := Aside0.mk (blk_below (g := gb596) (o := .cells #[.int .i64 t591, .slice Ao83 t592.length co83] 24 (0, 0)) (by (with_reducible repeat (first | refine blk_drewN ?_ _ | refine blk_drew ?_ | refine blk_alloc ?_ _)); exact BK596.out) hb); have n11_ := Aside0.mk (below_step (by repeat (first | (with_reducible first | exact HB.out | apply below_alloc | apply pw_below_drewN | apply below_drew1 | refine below_set ?_ GE570.out | refine below_set ?_ GE571.out | refine below_set ?_ GE584.out | refine below_set ?_ GE590.out | refine below_set ?_ GE596.out) | exact HB.out)) hb); have n12_ := Aside0.mk (hbox); have n13_ := Aside0.mk ((by rw [hg]; exact (below_size (by repeat (first | (with_reducible first | exact HB.out | apply below_alloc | apply pw_below_drewN | apply below_drew1 | refine below_set ?_ GE570.out | refine below_set ?_ GE571.out | refine below_set ?_ GE584.out | refine below_set ?_ GE590.out | refine below_set ?_ GE596.out) | exact HB.out))) : w.heap.size ≤ gb602)); have n14_ := Aside0.mk ((by rw [hg]; exact (below_size (by repeat (first | (with_reducible first | exact HB.out | apply below_alloc | apply pw_below_drewN | apply below_drew1 | refine below_set ?_ GE570.out | refine below_set ?_ GE571.out | refine below_set ?_ GE584.out | refine below_set ?_ GE590.out | refine below_set ?_ GE596.out) | exact HB.out))) : w.heap.size ≤ gb602)); have n15_ := Aside0.mk ((by rw [hg]; exact Nat.ne_of_lt (blk_lt (g := gb570) (o := .cells #[.int .i64 a0_0, .slice A0_1 l0_1.length c0_1] 24 (0, 0)) (by (with_reducible repeat (first | refine blk_drewN ?_ _ | refine blk_drew ?_ | refine blk_alloc ?_ _)); exact BK570.out)) : gb570 ≠ gb602)); have n16_ := Aside0.mk ((by rw [hg]; exact Nat.ne_of_gt (blk_lt (g := gb570) (o := .cells #[.int .i64 a0_0, .slice A0_1 l0_1.length c0_1] 24 (0, 0)) (by (with_reducible repeat (first | refine blk_drewN ?_ _ | refine blk_drew ?_ | refine blk_alloc ?_ _)); exact BK570.out)) : gb602 ≠ gb570)); have n17_ := Aside0.mk ((by rw [hg]; exact Nat.ne_of_lt (blk_lt (g := gb571) (o := .cells #[.int .i64 a1_0, .slice A1_1 l1_1.length c1_1] 24 (0, 0)) (by (with_reducible repeat (first | refine blk_drewN ?_ _ | refine blk_drew ?_ | refine blk_alloc ?_ _)); exact BK571.out)) : gb571 ≠ gb602)); have n18_ := Aside0.mk ((by rw [hg]; exact Nat.ne_of_gt (blk_lt (g := gb571) (o := .cells #[.int .i64 a1_0, .slice A1_1 l1_1.length c1_1] 24 (0, 0)) (by (with_reducible repeat (first | refine blk_drewN ?_ _ | refine blk_drew ?_ | refine blk_alloc ?_ _)); exact BK571.out)) : gb602 ≠ gb571)); have n19_ := Aside0.mk ((by rw [hg]; exact Nat.ne_of_lt (blk_lt (g := gb584) (o := .cells #[.int .i64 t579, .slice Ao64 t580.length co64] 24 (0, 0)) (by (with_reducible repeat (first | refine blk_drewN ?_ _ | refine blk_drew ?_ | refine blk_alloc ?_ _)); exact BK584.out)) : gb584 ≠ gb602)); have n20_ := Aside0.mk ((by rw [hg]; exact Nat.ne_of_gt (blk_lt (g := gb584) (o := .cells #[.int .i64 t579, .slice Ao64 t580.length co64] 24 (0, 0)) (by (with_reducible repeat (first | refine blk_drewN ?_ _ | refine blk_drew ?_ | refine blk_alloc ?_ _)); exact BK584.out)) : gb602 ≠ gb584)); have n21_ := Aside0.mk ((by rw [hg]; exact Nat.ne_of_lt (blk_lt (g := gb590) (o := .cells #[.int .i64 t585, .slice Ao73 t586.length co73] 24 (0, 0)) (by (with_reducible repeat (first | refine blk_drewN ?_ _ | refine blk_drew ?_ | refine blk_alloc ?_ _)); exact BK590.out)) : gb590 ≠ gb602)); have n22_ := Aside0.mk ((by rw [hg]; exact Nat.ne_of_gt (blk_lt (g := gb590) (o := .cells #[.int .i64 t585, .slice Ao73 t586.length co73] 24 (0, 0)) (by (with_reducible repeat (first | refine blk_drewN ?_ _ | refine blk_drew ?_ | refine blk_alloc ?_ _)); exact BK590.out)) : gb602 ≠ gb590)); have n23_ := Aside0.mk ((by rw [hg]; exact Nat.ne_of_lt (blk_lt (g := gb596) (o := .cells #[.int .i64 t591, .slice Ao83 t592.length co83] 24 (0, 0)) (by (with_reducible repeat (first | refine blk_drewN ?_ _ | refine blk_drew ?_ | refine blk_alloc ?_ _)); exact BK596.out)) : gb596 ≠ gb602)); have n24_ := Aside0.mk ((by rw [hg]; exact Nat.ne_of_gt (blk_lt (g := gb596) (o := .cells #[.int .i64 t591, .slice Ao83 t592.length co83] 24 (0, 0)) (by (with_reducible repeat (first | refine blk_drewN ?_ _ | refine blk_drew ?_ | refine blk_alloc ?_ _)); exact BK596.out)) : gb602 ≠ gb596)); clear HO_571001; clear HO_572001; clear HO582; clear HO588; clear HO594; clear HO600; clear BK570; clear BK571; clear BK584; clear BK590; clear BK596; clear HB; have HO_571001 := n0_; have HO_572001 := n1_; have HO582 := n2_; have HO588 := n3_; have HO594 := n4_; have HO600 := n5_; have BK570 := n6_; have BK571 := n7_; have BK584 := n8_; have BK590 := n9_; have BK596 := n10_; have HB := n11_; have BK602 := n12_; have GW602 := n13_; have GE602 := n14_; have NB570_602 := n15_; have NB602_570 := n16_; have NB571_602 := n17_; have NB602_571 := n18_; have NB584_602 := n19_; have NB602_584 := n20_; have NB590_602 := n21_; have NB602_590 := n22_; have NB596_602 := n23_; have NB602_596 := n24_; clear n0_ n1_ n2_ n3_ n4_ n5_ n6_ n7_ n8_ n9_ n10_ n11_ n12_ n13_ n14_ n15_ n16_ n17_ n18_ n19_ n20_ n21_ n22_ n23_ n24_; clear hb hbox hg; have hnb87 := NB602_570.out; have hnc87 := NB570_602.out; have hnb88 := NB602_571.out; have hnc88 := NB571_602.out; have hnb89 := NB602_584.out; have hnc89 := NB584_602.out; have hnb90 := NB602_590.out; have hnc90 := NB590_602.out; have hnb91 := NB602_596.out; have hnc91 := NB596_602.out; have hcz92_0 : w86.cell? ⟨gb602, 0, none⟩ = some (.int .i64 0) := (blk_cell BK602.out 0).trans rfl; have hcz92_1 : w86.cell? ⟨gb602, 1, none⟩ = some (.slice none 0 0) := (blk_cell BK602.out 1).trans rfl; have hfz92_0 := blk_frozen BK602.out 0; have hfz92_1 := blk_frozen BK602.out 1; obtain ⟨Ao93, co93, eo93⟩ := Kd.R_slice HO600.out; subst eo93))
        (try simp only [Act.put, List.setIfInBounds_toArray, List.set_cons_zero, List.set_cons_succ])
        go_cut [73] (fun v73 wc => ∃ (kq : Nat) (x73_54 : Bool), v73 = .bool x73_54 ∧ Aside0 (l02BitmapCounts.j1 kq x73_54 a0_0 l0_1 a1_0 l1_1 t579 t580 t585 t586 t591 t592 t597 t598 = some r) ∧ Aside0 (kq ≤ kj2) ∧ Aside0 (Kd.V (Kd.int .u64) 55 wc w.heap.size (fun k_ => ((P0_1_ k_ ∨ P1_1_ k_) ∨ w.heap.size ≤ k_) ∧ some k_ ≠ ((.slice Ao64 t580.length co64) : Value).ownBlock ∧ some k_ ≠ ((.slice Ao73 t586.length co73) : Value).ownBlock ∧ some k_ ≠ ((.slice Ao83 t592.length co83) : Value).ownBlock ∧ some k_ ≠ ((.slice Ao93 t598.length co93) : Value).ownBlock ∧ k_ ≠ gb570 ∧ k_ ≠ gb571 ∧ k_ ≠ gb584 ∧ k_ ≠ gb590 ∧ k_ ≠ gb596 ∧ k_ ≠ gb602) (.slice A0_1 l0_1.length c0_1) l0_1) ∧ Aside0 (Kd.V (Kd.int .u64) 55 wc w.heap.size (fun k_ => ((P0_1_ k_ ∨ P1_1_ k_) ∨ w.heap.size ≤ k_) ∧ some k_ ≠ ((.slice Ao64 t580.length co64) : Value).ownBlock ∧ some k_ ≠ ((.slice Ao73 t586.length co73) : Value).ownBlock ∧ some k_ ≠ ((.slice Ao83 t592.length co83) : Value).ownBlock ∧ some k_ ≠ ((.slice Ao93 t598.length co93) : Value).ownBlock ∧ k_ ≠ gb570 ∧ k_ ≠ gb571 ∧ k_ ≠ gb584 ∧ k_ ≠ gb590 ∧ k_ ≠ gb596 ∧ k_ ≠ gb602) (.slice A1_1 l1_1.length c1_1) l1_1) ∧ Aside0 (Kd.R (Kd.int .u64) 55 wc w.heap.size (fun k_ => (w.heap.size ≤ k_) ∧ some k_ ≠ ((.slice Ao73 t586.length co73) : Value).ownBlock ∧ some k_ ≠ ((.slice Ao83 t592.length co83) : Value).ownBlock ∧ some k_ ≠ ((.slice Ao93 t598.length co93) : Value).ownBlock) (.slice Ao64 t580.length co64) t580) ∧ Aside0 (Kd.R (Kd.int .u64) 55 wc w.heap.size (fun k_ => (w.heap.size ≤ k_) ∧ some k_ ≠ ((.slice Ao64 t580.length co64) : Value).ownBlock ∧ some k_ ≠ ((.slice Ao83 t592.length co83) : Value).ownBlock ∧ some k_ ≠ ((.slice Ao93 t598.length co93) : Value).ownBlock) (.slice Ao73 t586.length co73) t586) ∧ Aside0 (Kd.R (Kd.int .u64) 55 wc w.heap.size (fun k_ => (w.heap.size ≤ k_) ∧ some k_ ≠ ((.slice Ao64 t580.length co64) : Value).ownBlock ∧ some k_ ≠ ((.slice Ao73 t586.length co73) : Value).ownBlock ∧ some k_ ≠ ((.slice Ao93 t598.length co93) : Value).ownBlock) (.slice Ao83 t592.length co83) t592) ∧ Aside0 (Kd.R (Kd.int .u64) 55 wc w.heap.size (fun k_ => (w.heap.size ≤ k_) ∧ some k_ ≠ ((.slice Ao64 t580.length co64) : Value).ownBlock ∧ some k_ ≠ ((.slice Ao73 t586.length co73) : Value).ownBlock ∧ some k_ ≠ ((.slice Ao83 t592.length co83) : Value).ownBlock) (.slice Ao93 t598.length co93) t598) ∧ Aside0 (wc.heap[gb570]? = some (.cells #[.int .i64 a0_0, (.slice A0_1 l0_1.length c0_1)] 24 (0, 0))) ∧ Aside0 (wc.heap[gb571]? = some (.cells #[.int .i64 a1_0, (.slice A1_1 l1_1.length c1_1)] 24 (0, 0))) ∧ Aside0 (wc.heap[gb584]? = some (.cells #[.int .i64 t579, (.slice Ao64 t580.length co64)] 24 (0, 0))) ∧ Aside0 (wc.heap[gb590]? = some (.cells #[.int .i64 t585, (.slice Ao73 t586.length co73)] 24 (0, 0))) ∧ Aside0 (wc.heap[gb596]? = some (.cells #[.int .i64 t591, (.slice Ao83 t592.length co83)] 24 (0, 0))) ∧ Aside0 (wc.heap[gb602]? = some (.cells #[.int .i64 t597, (.slice Ao93 t598.length co93)] 24 (0, 0))) ∧ Aside0 (Below w.heap.size w wc))
        case first =>
          have H := HC55.out
          clear HC55
          by_cases c94 : t583 = 0
          · rw [if_pos c94] at H
            have c94b0 : (t583 == 0) = true := beq_iff_eq.mpr c94
            have c94b1 : (t583 != 0) = false := bne_eq_false_iff_eq.mpr c94
            clear c94
            (first | rw [c94b0] | (simp only [i64_w, i32_w]; rw [c94b0]) | skip)
            by_cases c95 : t589 = 0
            · rw [if_pos c95] at H
              have c95b0 : (t589 == 0) = true := beq_iff_eq.mpr c95
              have c95b1 : (t589 != 0) = false := bne_eq_false_iff_eq.mpr c95
              clear c95
              by_cases c96 : t595 = 0
              · rw [if_pos c96] at H
                have c96b0 : (t595 == 0) = true := beq_iff_eq.mpr c96
                have c96b1 : (t595 != 0) = false := bne_eq_false_iff_eq.mpr c96
                clear c96
                have H' := Aside0.mk H
                clear H
                go_wp2
                go_meet
                case rel => exact ⟨_, ((t601 != 0)), (by first | rfl | (simp; done) | (simp [*]; done)), H', ⟨by have := HJ2.out; first | omega | exact Nat.le_refl _⟩, ⟨by (with_reducible repeat (first | apply Kd.V_alloc | apply Kd.V_drewN | apply Kd.V_drew)); exact Kd.V_mono (Kd.V_far (p := ⟨gb602, 1, none⟩) (Kd.V_far (p := ⟨gb602, 0, none⟩) (Kd.V_mono HO_571001.out (fun k_ hk => (⟨hk, hk.2⟩ : _ ∧ k_ ≠ gb602))) (fun _ hk => hk.2) (.int .i64 t597)) (fun _ hk => hk.2) (.slice Ao93 t598.length co93)) (fun _ hk => by first | exact ⟨hk.1.1.1.1.1.1.1.1.1.1, ⟨hk.1.1.1.1.1.1.1.1.2, ⟨hk.1.1.1.1.1.1.2, ⟨hk.1.1.1.1.2, ⟨hk.1.1.2, ⟨hk.1.1.1.1.1.1.1.1.1.2.1, ⟨hk.1.1.1.1.1.1.1.1.1.2.2, ⟨hk.1.1.1.1.1.1.1.2, ⟨hk.1.1.1.1.1.2, ⟨hk.1.1.1.2, hk.1.2⟩⟩⟩⟩⟩⟩⟩⟩⟩⟩ | (revert hk; simp only [and_imp]; intros; (repeat' (first | assumption | apply And.intro)); done))⟩, ⟨by (with_reducible repeat (first | apply Kd.V_alloc | apply Kd.V_drewN | apply Kd.V_drew)); exact Kd.V_mono (Kd.V_far (p := ⟨gb602, 1, none⟩) (Kd.V_far (p := ⟨gb602, 0, none⟩) (Kd.V_mono HO_572001.out (fun k_ hk => (⟨hk, hk.2⟩ : _ ∧ k_ ≠ gb602))) (fun _ hk => hk.2) (.int .i64 t597)) (fun _ hk => hk.2) (.slice Ao93 t598.length co93)) (fun _ hk => by first | exact ⟨hk.1.1.1.1.1.1.1.1.1.1, ⟨hk.1.1.1.1.1.1.1.1.2, ⟨hk.1.1.1.1.1.1.2, ⟨hk.1.1.1.1.2, ⟨hk.1.1.2, ⟨hk.1.1.1.1.1.1.1.1.1.2.1, ⟨hk.1.1.1.1.1.1.1.1.1.2.2, ⟨hk.1.1.1.1.1.1.1.2, ⟨hk.1.1.1.1.1.2, ⟨hk.1.1.1.2, hk.1.2⟩⟩⟩⟩⟩⟩⟩⟩⟩⟩ | (revert hk; simp only [and_imp]; intros; (repeat' (first | assumption | apply And.intro)); done))⟩, ⟨by (with_reducible repeat (first | apply Kd.R_alloc | apply Kd.R_drewN | apply Kd.R_drew)); exact Kd.R_mono (Kd.R_far (p := ⟨gb602, 1, none⟩) (Kd.R_far (p := ⟨gb602, 0, none⟩) (Kd.R_types HO582.out BK602.out (by decide)) (fun _ hk => hk.2) (.int .i64 t597)) (fun _ hk => hk.2) (.slice Ao93 t598.length co93)) (fun _ hk => by first | exact ⟨hk.1.1.1.1.1, ⟨hk.1.1.1.2, ⟨hk.1.1.2, hk.1.2⟩⟩⟩ | (revert hk; simp only [and_imp]; intros; (repeat' (first | assumption | apply And.intro)); done))⟩, ⟨by (with_reducible repeat (first | apply Kd.R_alloc | apply Kd.R_drewN | apply Kd.R_drew)); exact Kd.R_mono (Kd.R_far (p := ⟨gb602, 1, none⟩) (Kd.R_far (p := ⟨gb602, 0, none⟩) (Kd.R_types HO588.out BK602.out (by decide)) (fun _ hk => hk.2) (.int .i64 t597)) (fun _ hk => hk.2) (.slice Ao93 t598.length co93)) (fun _ hk => by first | exact ⟨hk.1.1.1.1.1, ⟨hk.1.1.1.2, ⟨hk.1.1.2, hk.1.2⟩⟩⟩ | (revert hk; simp only [and_imp]; intros; (repeat' (first | assumption | apply And.intro)); done))⟩, ⟨by (with_reducible repeat (first | apply Kd.R_alloc | apply Kd.R_drewN | apply Kd.R_drew)); exact Kd.R_mono (Kd.R_far (p := ⟨gb602, 1, none⟩) (Kd.R_far (p := ⟨gb602, 0, none⟩) (Kd.R_types HO594.out BK602.out (by decide)) (fun _ hk => hk.2) (.int .i64 t597)) (fun _ hk => hk.2) (.slice Ao93 t598.length co93)) (fun _ hk => by first | exact ⟨hk.1.1.1.1.1, ⟨hk.1.1.1.2, ⟨hk.1.1.2, hk.1.2⟩⟩⟩ | (revert hk; simp only [and_imp]; intros; (repeat' (first | assumption | apply And.intro)); done))⟩, ⟨by (with_reducible repeat (first | apply Kd.R_alloc | apply Kd.R_drewN | apply Kd.R_drew)); exact Kd.R_mono (Kd.R_far (p := ⟨gb602, 1, none⟩) (Kd.R_far (p := ⟨gb602, 0, none⟩) (Kd.R_types HO600.out BK602.out (by decide)) (fun _ hk => hk.2) (.int .i64 t597)) (fun _ hk => hk.2) (.slice Ao93 t598.length co93)) (fun _ hk => by first | exact ⟨hk.1.1.1.1.1, ⟨hk.1.1.1.2, ⟨hk.1.1.2, hk.1.2⟩⟩⟩ | (revert hk; simp only [and_imp]; intros; (repeat' (first | assumption | apply And.intro)); done))⟩, ⟨by (with_reducible repeat (first | refine blk_drewN ?_ _ | refine blk_drew ?_ | refine blk_alloc ?_ _)); refine blk_far ?_ NB570_602.out _; (with_reducible repeat (first | refine blk_drewN ?_ _ | refine blk_drew ?_ | refine blk_alloc ?_ _)); refine blk_far ?_ NB570_602.out _; (with_reducible repeat (first | refine blk_drewN ?_ _ | refine blk_drew ?_ | refine blk_alloc ?_ _)); exact BK570.out⟩, ⟨by (with_reducible repeat (first | refine blk_drewN ?_ _ | refine blk_drew ?_ | refine blk_alloc ?_ _)); refine blk_far ?_ NB571_602.out _; (with_reducible repeat (first | refine blk_drewN ?_ _ | refine blk_drew ?_ | refine blk_alloc ?_ _)); refine blk_far ?_ NB571_602.out _; (with_reducible repeat (first | refine blk_drewN ?_ _ | refine blk_drew ?_ | refine blk_alloc ?_ _)); exact BK571.out⟩, ⟨by (with_reducible repeat (first | refine blk_drewN ?_ _ | refine blk_drew ?_ | refine blk_alloc ?_ _)); refine blk_far ?_ NB584_602.out _; (with_reducible repeat (first | refine blk_drewN ?_ _ | refine blk_drew ?_ | refine blk_alloc ?_ _)); refine blk_far ?_ NB584_602.out _; (with_reducible repeat (first | refine blk_drewN ?_ _ | refine blk_drew ?_ | refine blk_alloc ?_ _)); exact BK584.out⟩, ⟨by (with_reducible repeat (first | refine blk_drewN ?_ _ | refine blk_drew ?_ | refine blk_alloc ?_ _)); refine blk_far ?_ NB590_602.out _; (with_reducible repeat (first | refine blk_drewN ?_ _ | refine blk_drew ?_ | refine blk_alloc ?_ _)); refine blk_far ?_ NB590_602.out _; (with_reducible repeat (first | refine blk_drewN ?_ _ | refine blk_drew ?_ | refine blk_alloc ?_ _)); exact BK590.out⟩, ⟨by (with_reducible repeat (first | refine blk_drewN ?_ _ | refine blk_drew ?_ | refine blk_alloc ?_ _)); refine blk_far ?_ NB596_602.out _; (with_reducible repeat (first | refine blk_drewN ?_ _ | refine blk_drew ?_ | refine blk_alloc ?_ _)); refine blk_far ?_ NB596_602.out _; (with_reducible repeat (first | refine blk_drewN ?_ _ | refine blk_drew ?_ | refine blk_alloc ?_ _)); exact BK596.out⟩, ⟨by (with_reducible repeat (first | refine blk_drewN ?_ _ | refine blk_drew ?_ | refine blk_alloc ?_ _)); refine blk_put (cs := #[.int .i64 t597, .slice none 0 0]) ?_ 1 _ rfl; (with_reducible repeat (first | refine blk_drewN ?_ _ | refine blk_drew ?_ | refine blk_alloc ?_ _)); refine blk_put (cs := #[.int .i64 0, .slice none 0 0]) ?_ 0 _ rfl; (with_reducible repeat (first | refine blk_drewN ?_ _ | refine blk_drew ?_ | refine blk_alloc ?_ _)); exact BK602.out⟩, ⟨by repeat (first | (with_reducible first | exact HB.out | apply below_alloc | apply pw_below_drewN | apply below_drew1 | refine below_set ?_ GE570.out | refine below_set ?_ GE571.out | refine below_set ?_ GE584.out | refine below_set ?_ GE590.out | refine below_set ?_ GE596.out | refine below_set ?_ GE602.out) | exact HB.out)⟩⟩
              · rw [if_neg c96] at H
                have c96b0 : (t595 == 0) = false := beq_eq_false_iff_ne.mpr c96
                have c96b1 : (t595 != 0) = true := bne_iff_ne.mpr c96
                have H' := Aside0.mk H
                clear H
                go_wp2
                go_meet
                case rel => exact ⟨_, (true), (by first | rfl | (simp; done) | (simp [*]; done)), H', ⟨by have := HJ2.out; first | omega | exact Nat.le_refl _⟩, ⟨by (with_reducible repeat (first | apply Kd.V_alloc | apply Kd.V_drewN | apply Kd.V_drew)); exact Kd.V_mono (Kd.V_far (p := ⟨gb602, 1, none⟩) (Kd.V_far (p := ⟨gb602, 0, none⟩) (Kd.V_mono HO_571001.out (fun k_ hk => (⟨hk, hk.2⟩ : _ ∧ k_ ≠ gb602))) (fun _ hk => hk.2) (.int .i64 t597)) (fun _ hk => hk.2) (.slice Ao93 t598.length co93)) (fun _ hk => by first | exact ⟨hk.1.1.1.1.1.1.1.1.1.1, ⟨hk.1.1.1.1.1.1.1.1.2, ⟨hk.1.1.1.1.1.1.2, ⟨hk.1.1.1.1.2, ⟨hk.1.1.2, ⟨hk.1.1.1.1.1.1.1.1.1.2.1, ⟨hk.1.1.1.1.1.1.1.1.1.2.2, ⟨hk.1.1.1.1.1.1.1.2, ⟨hk.1.1.1.1.1.2, ⟨hk.1.1.1.2, hk.1.2⟩⟩⟩⟩⟩⟩⟩⟩⟩⟩ | (revert hk; simp only [and_imp]; intros; (repeat' (first | assumption | apply And.intro)); done))⟩, ⟨by (with_reducible repeat (first | apply Kd.V_alloc | apply Kd.V_drewN | apply Kd.V_drew)); exact Kd.V_mono (Kd.V_far (p := ⟨gb602, 1, none⟩) (Kd.V_far (p := ⟨gb602, 0, none⟩) (Kd.V_mono HO_572001.out (fun k_ hk => (⟨hk, hk.2⟩ : _ ∧ k_ ≠ gb602))) (fun _ hk => hk.2) (.int .i64 t597)) (fun _ hk => hk.2) (.slice Ao93 t598.length co93)) (fun _ hk => by first | exact ⟨hk.1.1.1.1.1.1.1.1.1.1, ⟨hk.1.1.1.1.1.1.1.1.2, ⟨hk.1.1.1.1.1.1.2, ⟨hk.1.1.1.1.2, ⟨hk.1.1.2, ⟨hk.1.1.1.1.1.1.1.1.1.2.1, ⟨hk.1.1.1.1.1.1.1.1.1.2.2, ⟨hk.1.1.1.1.1.1.1.2, ⟨hk.1.1.1.1.1.2, ⟨hk.1.1.1.2, hk.1.2⟩⟩⟩⟩⟩⟩⟩⟩⟩⟩ | (revert hk; simp only [and_imp]; intros; (repeat' (first | assumption | apply And.intro)); done))⟩, ⟨by (with_reducible repeat (first | apply Kd.R_alloc | apply Kd.R_drewN | apply Kd.R_drew)); exact Kd.R_mono (Kd.R_far (p := ⟨gb602, 1, none⟩) (Kd.R_far (p := ⟨gb602, 0, none⟩) (Kd.R_types HO582.out BK602.out (by decide)) (fun _ hk => hk.2) (.int .i64 t597)) (fun _ hk => hk.2) (.slice Ao93 t598.length co93)) (fun _ hk => by first | exact ⟨hk.1.1.1.1.1, ⟨hk.1.1.1.2, ⟨hk.1.1.2, hk.1.2⟩⟩⟩ | (revert hk; simp only [and_imp]; intros; (repeat' (first | assumption | apply And.intro)); done))⟩, ⟨by (with_reducible repeat (first | apply Kd.R_alloc | apply Kd.R_drewN | apply Kd.R_drew)); exact Kd.R_mono (Kd.R_far (p := ⟨gb602, 1, none⟩) (Kd.R_far (p := ⟨gb602, 0, none⟩) (Kd.R_types HO588.out BK602.out (by decide)) (fun _ hk => hk.2) (.int .i64 t597)) (fun _ hk => hk.2) (.slice Ao93 t598.length co93)) (fun _ hk => by first | exact ⟨hk.1.1.1.1.1, ⟨hk.1.1.1.2, ⟨hk.1.1.2, hk.1.2⟩⟩⟩ | (revert hk; simp only [and_imp]; intros; (repeat' (first | assumption | apply And.intro)); done))⟩, ⟨by (with_reducible repeat (first | apply Kd.R_alloc | apply Kd.R_drewN | apply Kd.R_drew)); exact Kd.R_mono (Kd.R_far (p := ⟨gb602, 1, none⟩) (Kd.R_far (p := ⟨gb602, 0, none⟩) (Kd.R_types HO594.out BK602.out (by decide)) (fun _ hk => hk.2) (.int .i64 t597)) (fun _ hk => hk.2) (.slice Ao93 t598.length co93)) (fun _ hk => by first | exact ⟨hk.1.1.1.1.1, ⟨hk.1.1.1.2, ⟨hk.1.1.2, hk.1.2⟩⟩⟩ | (revert hk; simp only [and_imp]; intros; (repeat' (first | assumption | apply And.intro)); done))⟩, ⟨by (with_reducible repeat (first | apply Kd.R_alloc | apply Kd.R_drewN | apply Kd.R_drew)); exact Kd.R_mono (Kd.R_far (p := ⟨gb602, 1, none⟩) (Kd.R_far (p := ⟨gb602, 0, none⟩) (Kd.R_types HO600.out BK602.out (by decide)) (fun _ hk => hk.2) (.int .i64 t597)) (fun _ hk => hk.2) (.slice Ao93 t598.length co93)) (fun _ hk => by first | exact ⟨hk.1.1.1.1.1, ⟨hk.1.1.1.2, ⟨hk.1.1.2, hk.1.2⟩⟩⟩ | (revert hk; simp only [and_imp]; intros; (repeat' (first | assumption | apply And.intro)); done))⟩, ⟨by (with_reducible repeat (first | refine blk_drewN ?_ _ | refine blk_drew ?_ | refine blk_alloc ?_ _)); refine blk_far ?_ NB570_602.out _; (with_reducible repeat (first | refine blk_drewN ?_ _ | refine blk_drew ?_ | refine blk_alloc ?_ _)); refine blk_far ?_ NB570_602.out _; (with_reducible repeat (first | refine blk_drewN ?_ _ | refine blk_drew ?_ | refine blk_alloc ?_ _)); exact BK570.out⟩, ⟨by (with_reducible repeat (first | refine blk_drewN ?_ _ | refine blk_drew ?_ | refine blk_alloc ?_ _)); refine blk_far ?_ NB571_602.out _; (with_reducible repeat (first | refine blk_drewN ?_ _ | refine blk_drew ?_ | refine blk_alloc ?_ _)); refine blk_far ?_ NB571_602.out _; (with_reducible repeat (first | refine blk_drewN ?_ _ | refine blk_drew ?_ | refine blk_alloc ?_ _)); exact BK571.out⟩, ⟨by (with_reducible repeat (first | refine blk_drewN ?_ _ | refine blk_drew ?_ | refine blk_alloc ?_ _)); refine blk_far ?_ NB584_602.out _; (with_reducible repeat (first | refine blk_drewN ?_ _ | refine blk_drew ?_ | refine blk_alloc ?_ _)); refine blk_far ?_ NB584_602.out _; (with_reducible repeat (first | refine blk_drewN ?_ _ | refine blk_drew ?_ | refine blk_alloc ?_ _)); exact BK584.out⟩, ⟨by (with_reducible repeat (first | refine blk_drewN ?_ _ | refine blk_drew ?_ | refine blk_alloc ?_ _)); refine blk_far ?_ NB590_602.out _; (with_reducible repeat (first | refine blk_drewN ?_ _ | refine blk_drew ?_ | refine blk_alloc ?_ _)); refine blk_far ?_ NB590_602.out _; (with_reducible repeat (first | refine blk_drewN ?_ _ | refine blk_drew ?_ | refine blk_alloc ?_ _)); exact BK590.out⟩, ⟨by (with_reducible repeat (first | refine blk_drewN ?_ _ | refine blk_drew ?_ | refine blk_alloc ?_ _)); refine blk_far ?_ NB596_602.out _; (with_reducible repeat (first | refine blk_drewN ?_ _ | refine blk_drew ?_ | refine blk_alloc ?_ _)); refine blk_far ?_ NB596_602.out _; (with_reducible repeat (first | refine blk_drewN ?_ _ | refine blk_drew ?_ | refine blk_alloc ?_ _)); exact BK596.out⟩, ⟨by (with_reducible repeat (first | refine blk_drewN ?_ _ | refine blk_drew ?_ | refine blk_alloc ?_ _)); refine blk_put (cs := #[.int .i64 t597, .slice none 0 0]) ?_ 1 _ rfl; (with_reducible repeat (first | refine blk_drewN ?_ _ | refine blk_drew ?_ | refine blk_alloc ?_ _)); refine blk_put (cs := #[.int .i64 0, .slice none 0 0]) ?_ 0 _ rfl; (with_reducible repeat (first | refine blk_drewN ?_ _ | refine blk_drew ?_ | refine blk_alloc ?_ _)); exact BK602.out⟩, ⟨by repeat (first | (with_reducible first | exact HB.out | apply below_alloc | apply pw_below_drewN | apply below_drew1 | refine below_set ?_ GE570.out | refine below_set ?_ GE571.out | refine below_set ?_ GE584.out | refine below_set ?_ GE590.out | refine below_set ?_ GE596.out | refine below_set ?_ GE602.out) | exact HB.out)⟩⟩
            · rw [if_neg c95] at H
              have c95b0 : (t589 == 0) = false := beq_eq_false_iff_ne.mpr c95
              have c95b1 : (t589 != 0) = true := bne_iff_ne.mpr c95
              have H' := Aside0.mk H
              clear H
              go_wp2
              go_meet
              case rel => exact ⟨_, (true), (by first | rfl | (simp; done) | (simp [*]; done)), H', ⟨by have := HJ2.out; first | omega | exact Nat.le_refl _⟩, ⟨by (with_reducible repeat (first | apply Kd.V_alloc | apply Kd.V_drewN | apply Kd.V_drew)); exact Kd.V_mono (Kd.V_far (p := ⟨gb602, 1, none⟩) (Kd.V_far (p := ⟨gb602, 0, none⟩) (Kd.V_mono HO_571001.out (fun k_ hk => (⟨hk, hk.2⟩ : _ ∧ k_ ≠ gb602))) (fun _ hk => hk.2) (.int .i64 t597)) (fun _ hk => hk.2) (.slice Ao93 t598.length co93)) (fun _ hk => by first | exact ⟨hk.1.1.1.1.1.1.1.1.1.1, ⟨hk.1.1.1.1.1.1.1.1.2, ⟨hk.1.1.1.1.1.1.2, ⟨hk.1.1.1.1.2, ⟨hk.1.1.2, ⟨hk.1.1.1.1.1.1.1.1.1.2.1, ⟨hk.1.1.1.1.1.1.1.1.1.2.2, ⟨hk.1.1.1.1.1.1.1.2, ⟨hk.1.1.1.1.1.2, ⟨hk.1.1.1.2, hk.1.2⟩⟩⟩⟩⟩⟩⟩⟩⟩⟩ | (revert hk; simp only [and_imp]; intros; (repeat' (first | assumption | apply And.intro)); done))⟩, ⟨by (with_reducible repeat (first | apply Kd.V_alloc | apply Kd.V_drewN | apply Kd.V_drew)); exact Kd.V_mono (Kd.V_far (p := ⟨gb602, 1, none⟩) (Kd.V_far (p := ⟨gb602, 0, none⟩) (Kd.V_mono HO_572001.out (fun k_ hk => (⟨hk, hk.2⟩ : _ ∧ k_ ≠ gb602))) (fun _ hk => hk.2) (.int .i64 t597)) (fun _ hk => hk.2) (.slice Ao93 t598.length co93)) (fun _ hk => by first | exact ⟨hk.1.1.1.1.1.1.1.1.1.1, ⟨hk.1.1.1.1.1.1.1.1.2, ⟨hk.1.1.1.1.1.1.2, ⟨hk.1.1.1.1.2, ⟨hk.1.1.2, ⟨hk.1.1.1.1.1.1.1.1.1.2.1, ⟨hk.1.1.1.1.1.1.1.1.1.2.2, ⟨hk.1.1.1.1.1.1.1.2, ⟨hk.1.1.1.1.1.2, ⟨hk.1.1.1.2, hk.1.2⟩⟩⟩⟩⟩⟩⟩⟩⟩⟩ | (revert hk; simp only [and_imp]; intros; (repeat' (first | assumption | apply And.intro)); done))⟩, ⟨by (with_reducible repeat (first | apply Kd.R_alloc | apply Kd.R_drewN | apply Kd.R_drew)); exact Kd.R_mono (Kd.R_far (p := ⟨gb602, 1, none⟩) (Kd.R_far (p := ⟨gb602, 0, none⟩) (Kd.R_types HO582.out BK602.out (by decide)) (fun _ hk => hk.2) (.int .i64 t597)) (fun _ hk => hk.2) (.slice Ao93 t598.length co93)) (fun _ hk => by first | exact ⟨hk.1.1.1.1.1, ⟨hk.1.1.1.2, ⟨hk.1.1.2, hk.1.2⟩⟩⟩ | (revert hk; simp only [and_imp]; intros; (repeat' (first | assumption | apply And.intro)); done))⟩, ⟨by (with_reducible repeat (first | apply Kd.R_alloc | apply Kd.R_drewN | apply Kd.R_drew)); exact Kd.R_mono (Kd.R_far (p := ⟨gb602, 1, none⟩) (Kd.R_far (p := ⟨gb602, 0, none⟩) (Kd.R_types HO588.out BK602.out (by decide)) (fun _ hk => hk.2) (.int .i64 t597)) (fun _ hk => hk.2) (.slice Ao93 t598.length co93)) (fun _ hk => by first | exact ⟨hk.1.1.1.1.1, ⟨hk.1.1.1.2, ⟨hk.1.1.2, hk.1.2⟩⟩⟩ | (revert hk; simp only [and_imp]; intros; (repeat' (first | assumption | apply And.intro)); done))⟩, ⟨by (with_reducible repeat (first | apply Kd.R_alloc | apply Kd.R_drewN | apply Kd.R_drew)); exact Kd.R_mono (Kd.R_far (p := ⟨gb602, 1, none⟩) (Kd.R_far (p := ⟨gb602, 0, none⟩) (Kd.R_types HO594.out BK602.out (by decide)) (fun _ hk => hk.2) (.int .i64 t597)) (fun _ hk => hk.2) (.slice Ao93 t598.length co93)) (fun _ hk => by first | exact ⟨hk.1.1.1.1.1, ⟨hk.1.1.1.2, ⟨hk.1.1.2, hk.1.2⟩⟩⟩ | (revert hk; simp only [and_imp]; intros; (repeat' (first | assumption | apply And.intro)); done))⟩, ⟨by (with_reducible repeat (first | apply Kd.R_alloc | apply Kd.R_drewN | apply Kd.R_drew)); exact Kd.R_mono (Kd.R_far (p := ⟨gb602, 1, none⟩) (Kd.R_far (p := ⟨gb602, 0, none⟩) (Kd.R_types HO600.out BK602.out (by decide)) (fun _ hk => hk.2) (.int .i64 t597)) (fun _ hk => hk.2) (.slice Ao93 t598.length co93)) (fun _ hk => by first | exact ⟨hk.1.1.1.1.1, ⟨hk.1.1.1.2, ⟨hk.1.1.2, hk.1.2⟩⟩⟩ | (revert hk; simp only [and_imp]; intros; (repeat' (first | assumption | apply And.intro)); done))⟩, ⟨by (with_reducible repeat (first | refine blk_drewN ?_ _ | refine blk_drew ?_ | refine blk_alloc ?_ _)); refine blk_far ?_ NB570_602.out _; (with_reducible repeat (first | refine blk_drewN ?_ _ | refine blk_drew ?_ | refine blk_alloc ?_ _)); refine blk_far ?_ NB570_602.out _; (with_reducible repeat (first | refine blk_drewN ?_ _ | refine blk_drew ?_ | refine blk_alloc ?_ _)); exact BK570.out⟩, ⟨by (with_reducible repeat (first | refine blk_drewN ?_ _ | refine blk_drew ?_ | refine blk_alloc ?_ _)); refine blk_far ?_ NB571_602.out _; (with_reducible repeat (first | refine blk_drewN ?_ _ | refine blk_drew ?_ | refine blk_alloc ?_ _)); refine blk_far ?_ NB571_602.out _; (with_reducible repeat (first | refine blk_drewN ?_ _ | refine blk_drew ?_ | refine blk_alloc ?_ _)); exact BK571.out⟩, ⟨by (with_reducible repeat (first | refine blk_drewN ?_ _ | refine blk_drew ?_ | refine blk_alloc ?_ _)); refine blk_far ?_ NB584_602.out _; (with_reducible repeat (first | refine blk_drewN ?_ _ | refine blk_drew ?_ | refine blk_alloc ?_ _)); refine blk_far ?_ NB584_602.out _; (with_reducible repeat (first | refine blk_drewN ?_ _ | refine blk_drew ?_ | refine blk_alloc ?_ _)); exact BK584.out⟩, ⟨by (with_reducible repeat (first | refine blk_drewN ?_ _ | refine blk_drew ?_ | refine blk_alloc ?_ _)); refine blk_far ?_ NB590_602.out _; (with_reducible repeat (first | refine blk_drewN ?_ _ | refine blk_drew ?_ | refine blk_alloc ?_ _)); refine blk_far ?_ NB590_602.out _; (with_reducible repeat (first | refine blk_drewN ?_ _ | refine blk_drew ?_ | refine blk_alloc ?_ _)); exact BK590.out⟩, ⟨by (with_reducible repeat (first | refine blk_drewN ?_ _ | refine blk_drew ?_ | refine blk_alloc ?_ _)); refine blk_far ?_ NB596_602.out _; (with_reducible repeat (first | refine blk_drewN ?_ _ | refine blk_drew ?_ | refine blk_alloc ?_ _)); refine blk_far ?_ NB596_602.out _; (with_reducible repeat (first | refine blk_drewN ?_ _ | refine blk_drew ?_ | refine blk_alloc ?_ _)); exact BK596.out⟩, ⟨by (with_reducible repeat (first | refine blk_drewN ?_ _ | refine blk_drew ?_ | refine blk_alloc ?_ _)); refine blk_put (cs := #[.int .i64 t597, .slice none 0 0]) ?_ 1 _ rfl; (with_reducible repeat (first | refine blk_drewN ?_ _ | refine blk_drew ?_ | refine blk_alloc ?_ _)); refine blk_put (cs := #[.int .i64 0, .slice none 0 0]) ?_ 0 _ rfl; (with_reducible repeat (first | refine blk_drewN ?_ _ | refine blk_drew ?_ | refine blk_alloc ?_ _)); exact BK602.out⟩, ⟨by repeat (first | (with_reducible first | exact HB.out | apply below_alloc | apply pw_below_drewN | apply below_drew1 | refine below_set ?_ GE570.out | refine below_set ?_ GE571.out | refine below_set ?_ GE584.out | refine below_set ?_ GE590.out | refine below_set ?_ GE596.out | refine below_set ?_ GE602.out) | exact HB.out)⟩⟩
          · rw [if_neg c94] at H
            have c94b0 : (t583 == 0) = false := beq_eq_false_iff_ne.mpr c94
            have c94b1 : (t583 != 0) = true := bne_iff_ne.mpr c94
            (first | rw [c94b0] | (simp only [i64_w, i32_w]; rw [c94b0]) | skip)
            have H' := Aside0.mk H
            clear H
            go_wp2
            go_meet
            case rel => exact ⟨_, (true), (by first | rfl | (simp; done) | (simp [*]; done)), H', ⟨by have := HJ2.out; first | omega | exact Nat.le_refl _⟩, ⟨by (with_reducible repeat (first | apply Kd.V_alloc | apply Kd.V_drewN | apply Kd.V_drew)); exact Kd.V_mono (Kd.V_far (p := ⟨gb602, 1, none⟩) (Kd.V_far (p := ⟨gb602, 0, none⟩) (Kd.V_mono HO_571001.out (fun k_ hk => (⟨hk, hk.2⟩ : _ ∧ k_ ≠ gb602))) (fun _ hk => hk.2) (.int .i64 t597)) (fun _ hk => hk.2) (.slice Ao93 t598.length co93)) (fun _ hk => by first | exact ⟨hk.1.1.1.1.1.1.1.1.1.1, ⟨hk.1.1.1.1.1.1.1.1.2, ⟨hk.1.1.1.1.1.1.2, ⟨hk.1.1.1.1.2, ⟨hk.1.1.2, ⟨hk.1.1.1.1.1.1.1.1.1.2.1, ⟨hk.1.1.1.1.1.1.1.1.1.2.2, ⟨hk.1.1.1.1.1.1.1.2, ⟨hk.1.1.1.1.1.2, ⟨hk.1.1.1.2, hk.1.2⟩⟩⟩⟩⟩⟩⟩⟩⟩⟩ | (revert hk; simp only [and_imp]; intros; (repeat' (first | assumption | apply And.intro)); done))⟩, ⟨by (with_reducible repeat (first | apply Kd.V_alloc | apply Kd.V_drewN | apply Kd.V_drew)); exact Kd.V_mono (Kd.V_far (p := ⟨gb602, 1, none⟩) (Kd.V_far (p := ⟨gb602, 0, none⟩) (Kd.V_mono HO_572001.out (fun k_ hk => (⟨hk, hk.2⟩ : _ ∧ k_ ≠ gb602))) (fun _ hk => hk.2) (.int .i64 t597)) (fun _ hk => hk.2) (.slice Ao93 t598.length co93)) (fun _ hk => by first | exact ⟨hk.1.1.1.1.1.1.1.1.1.1, ⟨hk.1.1.1.1.1.1.1.1.2, ⟨hk.1.1.1.1.1.1.2, ⟨hk.1.1.1.1.2, ⟨hk.1.1.2, ⟨hk.1.1.1.1.1.1.1.1.1.2.1, ⟨hk.1.1.1.1.1.1.1.1.1.2.2, ⟨hk.1.1.1.1.1.1.1.2, ⟨hk.1.1.1.1.1.2, ⟨hk.1.1.1.2, hk.1.2⟩⟩⟩⟩⟩⟩⟩⟩⟩⟩ | (revert hk; simp only [and_imp]; intros; (repeat' (first | assumption | apply And.intro)); done))⟩, ⟨by (with_reducible repeat (first | apply Kd.R_alloc | apply Kd.R_drewN | apply Kd.R_drew)); exact Kd.R_mono (Kd.R_far (p := ⟨gb602, 1, none⟩) (Kd.R_far (p := ⟨gb602, 0, none⟩) (Kd.R_types HO582.out BK602.out (by decide)) (fun _ hk => hk.2) (.int .i64 t597)) (fun _ hk => hk.2) (.slice Ao93 t598.length co93)) (fun _ hk => by first | exact ⟨hk.1.1.1.1.1, ⟨hk.1.1.1.2, ⟨hk.1.1.2, hk.1.2⟩⟩⟩ | (revert hk; simp only [and_imp]; intros; (repeat' (first | assumption | apply And.intro)); done))⟩, ⟨by (with_reducible repeat (first | apply Kd.R_alloc | apply Kd.R_drewN | apply Kd.R_drew)); exact Kd.R_mono (Kd.R_far (p := ⟨gb602, 1, none⟩) (Kd.R_far (p := ⟨gb602, 0, none⟩) (Kd.R_types HO588.out BK602.out (by decide)) (fun _ hk => hk.2) (.int .i64 t597)) (fun _ hk => hk.2) (.slice Ao93 t598.length co93)) (fun _ hk => by first | exact ⟨hk.1.1.1.1.1, ⟨hk.1.1.1.2, ⟨hk.1.1.2, hk.1.2⟩⟩⟩ | (revert hk; simp only [and_imp]; intros; (repeat' (first | assumption | apply And.intro)); done))⟩, ⟨by (with_reducible repeat (first | apply Kd.R_alloc | apply Kd.R_drewN | apply Kd.R_drew)); exact Kd.R_mono (Kd.R_far (p := ⟨gb602, 1, none⟩) (Kd.R_far (p := ⟨gb602, 0, none⟩) (Kd.R_types HO594.out BK602.out (by decide)) (fun _ hk => hk.2) (.int .i64 t597)) (fun _ hk => hk.2) (.slice Ao93 t598.length co93)) (fun _ hk => by first | exact ⟨hk.1.1.1.1.1, ⟨hk.1.1.1.2, ⟨hk.1.1.2, hk.1.2⟩⟩⟩ | (revert hk; simp only [and_imp]; intros; (repeat' (first | assumption | apply And.intro)); done))⟩, ⟨by (with_reducible repeat (first | apply Kd.R_alloc | apply Kd.R_drewN | apply Kd.R_drew)); exact Kd.R_mono (Kd.R_far (p := ⟨gb602, 1, none⟩) (Kd.R_far (p := ⟨gb602, 0, none⟩) (Kd.R_types HO600.out BK602.out (by decide)) (fun _ hk => hk.2) (.int .i64 t597)) (fun _ hk => hk.2) (.slice Ao93 t598.length co93)) (fun _ hk => by first | exact ⟨hk.1.1.1.1.1, ⟨hk.1.1.1.2, ⟨hk.1.1.2, hk.1.2⟩⟩⟩ | (revert hk; simp only [and_imp]; intros; (repeat' (first | assumption | apply And.intro)); done))⟩, ⟨by (with_reducible repeat (first | refine blk_drewN ?_ _ | refine blk_drew ?_ | refine blk_alloc ?_ _)); refine blk_far ?_ NB570_602.out _; (with_reducible repeat (first | refine blk_drewN ?_ _ | refine blk_drew ?_ | refine blk_alloc ?_ _)); refine blk_far ?_ NB570_602.out _; (with_reducible repeat (first | refine blk_drewN ?_ _ | refine blk_drew ?_ | refine blk_alloc ?_ _)); exact BK570.out⟩, ⟨by (with_reducible repeat (first | refine blk_drewN ?_ _ | refine blk_drew ?_ | refine blk_alloc ?_ _)); refine blk_far ?_ NB571_602.out _; (with_reducible repeat (first | refine blk_drewN ?_ _ | refine blk_drew ?_ | refine blk_alloc ?_ _)); refine blk_far ?_ NB571_602.out _; (with_reducible repeat (first | refine blk_drewN ?_ _ | refine blk_drew ?_ | refine blk_alloc ?_ _)); exact BK571.out⟩, ⟨by (with_reducible repeat (first | refine blk_drewN ?_ _ | refine blk_drew ?_ | refine blk_alloc ?_ _)); refine blk_far ?_ NB584_602.out _; (with_reducible repeat (first | refine blk_drewN ?_ _ | refine blk_drew ?_ | refine blk_alloc ?_ _)); refine blk_far ?_ NB584_602.out _; (with_reducible repeat (first | refine blk_drewN ?_ _ | refine blk_drew ?_ | refine blk_alloc ?_ _)); exact BK584.out⟩, ⟨by (with_reducible repeat (first | refine blk_drewN ?_ _ | refine blk_drew ?_ | refine blk_alloc ?_ _)); refine blk_far ?_ NB590_602.out _; (with_reducible repeat (first | refine blk_drewN ?_ _ | refine blk_drew ?_ | refine blk_alloc ?_ _)); refine blk_far ?_ NB590_602.out _; (with_reducible repeat (first | refine blk_drewN ?_ _ | refine blk_drew ?_ | refine blk_alloc ?_ _)); exact BK590.out⟩, ⟨by (with_reducible repeat (first | refine blk_drewN ?_ _ | refine blk_drew ?_ | refine blk_alloc ?_ _)); refine blk_far ?_ NB596_602.out _; (with_reducible repeat (first | refine blk_drewN ?_ _ | refine blk_drew ?_ | refine blk_alloc ?_ _)); refine blk_far ?_ NB596_602.out _; (with_reducible repeat (first | refine blk_drewN ?_ _ | refine blk_drew ?_ | refine blk_alloc ?_ _)); exact BK596.out⟩, ⟨by (with_reducible repeat (first | refine blk_drewN ?_ _ | refine blk_drew ?_ | refine blk_alloc ?_ _)); refine blk_put (cs := #[.int .i64 t597, .slice none 0 0]) ?_ 1 _ rfl; (with_reducible repeat (first | refine blk_drewN ?_ _ | refine blk_drew ?_ | refine blk_alloc ?_ _)); refine blk_put (cs := #[.int .i64 0, .slice none 0 0]) ?_ 0 _ rfl; (with_reducible repeat (first | refine blk_drewN ?_ _ | refine blk_drew ?_ | refine blk_alloc ?_ _)); exact BK602.out⟩, ⟨by repeat (first | (with_reducible first | exact HB.out | apply below_alloc | apply pw_below_drewN | apply below_drew1 | refine below_set ?_ GE570.out | refine below_set ?_ GE571.out | refine below_set ?_ GE584.out | refine below_set ?_ GE590.out | refine below_set ?_ GE596.out | refine below_set ?_ GE602.out) | exact HB.out)⟩⟩
        case rest =>
          clear HC55
          try clear c1
          try clear c2
          try clear p2
          try clear c3
          try clear c4
          try clear c5
          try clear c6
          try clear c7
          try clear c8
          try clear c9
          try clear c9b0
          try clear c9b1
          try clear c10
          try clear c11
          try clear c11b0
          try clear c11b1
          try clear c12
          try clear c24
          try clear c33
          try clear c34
          try clear c35
          try clear c37
          try clear c42
          try clear c48
          try clear c56
          try clear c61
          try clear c62
          try clear c69
          try clear c70
          try clear c71
          try clear c78
          try clear c79
          try clear c80
          try clear c81
          try clear c87
          try clear c88
          try clear c89
          try clear c90
          try clear c91
          try clear c94
          try clear c94b0
          try clear c94b1
          try clear c95
          try clear c95b0
          try clear c95b1
          try clear c96
          try clear c96b0
          try clear c96b1
          try clear hcz13_0
          try clear hcz13_1
          try clear hcz14_0
          try clear hcz14_1
          try clear hcz18_0
          try clear hcz18_1
          try clear hcz20_0
          try clear hcz20_1
          try clear hcz22_0
          try clear hcz22_1
          try clear hcz23_0
          try clear hcz23_1
          try clear hcz25_0
          try clear hcz25_1
          try clear hcz26_0
          try clear hcz26_1
          try clear hcz30_0
          try clear hcz30_1
          try clear hcz32_0
          try clear hcz32_1
          try clear hcz35_0
          try clear hcz35_1
          try clear hcz36_0
          try clear hcz36_1
          try clear hcz40_0
          try clear hcz40_1
          try clear hcz43_0
          try clear hcz43_1
          try clear hcz44_0
          try clear hcz44_1
          try clear hcz57_0
          try clear hcz57_1
          try clear hcz58_0
          try clear hcz58_1
          try clear hcz63_0
          try clear hcz63_1
          try clear hcz65_0
          try clear hcz65_1
          try clear hcz66_0
          try clear hcz66_1
          try clear hcz72_0
          try clear hcz72_1
          try clear hcz74_0
          try clear hcz74_1
          try clear hcz75_0
          try clear hcz75_1
          try clear hcz82_0
          try clear hcz82_1
          try clear hcz84_0
          try clear hcz84_1
          try clear hcz92_0
          try clear hcz92_1
          try clear hfz13_0
          try clear hfz13_1
          try clear hfz14_0
          try clear hfz14_1
          try clear hfz18_0
          try clear hfz18_1
          try clear hfz20_0
          try clear hfz20_1
          try clear hfz22_0
          try clear hfz22_1
          try clear hfz23_0
          try clear hfz23_1
          try clear hfz25_0
          try clear hfz25_1
          try clear hfz26_0
          try clear hfz26_1
          try clear hfz30_0
          try clear hfz30_1
          try clear hfz32_0
          try clear hfz32_1
          try clear hfz35_0
          try clear hfz35_1
          try clear hfz36_0
          try clear hfz36_1
          try clear hfz40_0
          try clear hfz40_1
          try clear hfz43_0
          try clear hfz43_1
          try clear hfz44_0
          try clear hfz44_1
          try clear hfz57_0
          try clear hfz57_1
          try clear hfz58_0
          try clear hfz58_1
          try clear hfz63_0
          try clear hfz63_1
          try clear hfz65_0
          try clear hfz65_1
          try clear hfz66_0
          try clear hfz66_1
          try clear hfz72_0
          try clear hfz72_1
          try clear hfz74_0
          try clear hfz74_1
          try clear hfz75_0
          try clear hfz75_1
          try clear hfz82_0
          try clear hfz82_1
          try clear hfz84_0
          try clear hfz84_1
          try clear hfz92_0
          try clear hfz92_1
          try clear p2
          obtain ⟨kq, x73_54, rfl, HA, HJ54, HO_571001, HO_572001, HO_585001, HO_591001, HO_597001, HO_603001, BK570, BK571, BK584, BK590, BK596, BK602, HB⟩ := hcut
          cases kq with
          | zero => exact absurd HA.out (by simp [l02BitmapCounts.j1])
          | succ kj54 =>
            have H := HA.out
            clear HA
            simp only [l02BitmapCounts.j1] at H
            by_cases c97 : x73_54 = true
            · subst c97
              have H1 : (some false) = some r := by rw [if_pos rfl] at H; exact H
              clear H
              have H := H1
              clear H1
              exact absurd ((Option.some.inj H).trans hT.out) (by decide)
            · replace c97 := Bool.eq_false_iff.mpr c97
              subst c97
              have H1 : ((l02awake.f kj54).bind fun t603 => (if t603 = true then ((bCount.f kj54 t579 t580).bind fun t604 => ((bCount.f kj54 t585 t586).bind fun t605 => ((bCount.f kj54 a0_0 l0_1).bind fun t606 => ((bCount.f kj54 a1_0 l1_1).bind fun t607 => (if (wrap64 (t604 + t605)) = (wrap64 (t606 + t607)) then ((r02Same.f kj54 t597 t598 a0_0 l0_1).bind fun t608 => (if t608 = true then ((bCount.f kj54 t591 t592).bind fun t609 => ((bCount.f kj54 a0_0 l0_1).bind fun t610 => ((bCount.f kj54 t585 t586).bind fun t611 => (some (t609 == (wrap64 (t610 - t611))))))) else (some false))) else (some false)))))) else (some false))) = some r := by rw [if_neg (show ¬ (false = true) by decide)] at H; exact H
              clear H
              have H := H1
              clear H1
              replace H := Option.bind_eq_some_iff.mp H
              obtain ⟨t603, A980, H⟩ := H
              replace H : (if t603 = true then ((bCount.f kj54 t579 t580).bind fun t604 => ((bCount.f kj54 t585 t586).bind fun t605 => ((bCount.f kj54 a0_0 l0_1).bind fun t606 => ((bCount.f kj54 a1_0 l1_1).bind fun t607 => (if (wrap64 (t604 + t605)) = (wrap64 (t606 + t607)) then ((r02Same.f kj54 t597 t598 a0_0 l0_1).bind fun t608 => (if t608 = true then ((bCount.f kj54 t591 t592).bind fun t609 => ((bCount.f kj54 a0_0 l0_1).bind fun t610 => ((bCount.f kj54 t585 t586).bind fun t611 => (some (t609 == (wrap64 (t610 - t611))))))) else (some false))) else (some false)))))) else (some false)) = some r := H
              have A98 := Aside0.mk A980
              clear A980
              by_cases c99 : t603 = true
              · subst c99
                have H1 : ((bCount.f kj54 t579 t580).bind fun t604 => ((bCount.f kj54 t585 t586).bind fun t605 => ((bCount.f kj54 a0_0 l0_1).bind fun t606 => ((bCount.f kj54 a1_0 l1_1).bind fun t607 => (if (wrap64 (t604 + t605)) = (wrap64 (t606 + t607)) then ((r02Same.f kj54 t597 t598 a0_0 l0_1).bind fun t608 => (if t608 = true then ((bCount.f kj54 t591 t592).bind fun t609 => ((bCount.f kj54 a0_0 l0_1).bind fun t610 => ((bCount.f kj54 t585 t586).bind fun t611 => (some (t609 == (wrap64 (t610 - t611))))))) else (some false))) else (some false)))))) = some r := by rw [if_pos rfl] at H; exact H
                clear H
                have H := H1
                clear H1
                replace H := Option.bind_eq_some_iff.mp H
                obtain ⟨t604, A1000, H⟩ := H
                replace H : ((bCount.f kj54 t585 t586).bind fun t605 => ((bCount.f kj54 a0_0 l0_1).bind fun t606 => ((bCount.f kj54 a1_0 l1_1).bind fun t607 => (if (wrap64 (t604 + t605)) = (wrap64 (t606 + t607)) then ((r02Same.f kj54 t597 t598 a0_0 l0_1).bind fun t608 => (if t608 = true then ((bCount.f kj54 t591 t592).bind fun t609 => ((bCount.f kj54 a0_0 l0_1).bind fun t610 => ((bCount.f kj54 t585 t586).bind fun t611 => (some (t609 == (wrap64 (t610 - t611))))))) else (some false))) else (some false))))) = some r := H
                have A100 := Aside0.mk A1000
                clear A1000
                replace H := Option.bind_eq_some_iff.mp H
                obtain ⟨t605, A1010, H⟩ := H
                replace H : ((bCount.f kj54 a0_0 l0_1).bind fun t606 => ((bCount.f kj54 a1_0 l1_1).bind fun t607 => (if (wrap64 (t604 + t605)) = (wrap64 (t606 + t607)) then ((r02Same.f kj54 t597 t598 a0_0 l0_1).bind fun t608 => (if t608 = true then ((bCount.f kj54 t591 t592).bind fun t609 => ((bCount.f kj54 a0_0 l0_1).bind fun t610 => ((bCount.f kj54 t585 t586).bind fun t611 => (some (t609 == (wrap64 (t610 - t611))))))) else (some false))) else (some false)))) = some r := H
                have A101 := Aside0.mk A1010
                clear A1010
                replace H := Option.bind_eq_some_iff.mp H
                obtain ⟨t606, A1020, H⟩ := H
                replace H : ((bCount.f kj54 a1_0 l1_1).bind fun t607 => (if (wrap64 (t604 + t605)) = (wrap64 (t606 + t607)) then ((r02Same.f kj54 t597 t598 a0_0 l0_1).bind fun t608 => (if t608 = true then ((bCount.f kj54 t591 t592).bind fun t609 => ((bCount.f kj54 a0_0 l0_1).bind fun t610 => ((bCount.f kj54 t585 t586).bind fun t611 => (some (t609 == (wrap64 (t610 - t611))))))) else (some false))) else (some false))) = some r := H
                have A102 := Aside0.mk A1020
                clear A1020
                replace H := Option.bind_eq_some_iff.mp H
                obtain ⟨t607, A1030, H⟩ := H
                replace H : (if (wrap64 (t604 + t605)) = (wrap64 (t606 + t607)) then ((r02Same.f kj54 t597 t598 a0_0 l0_1).bind fun t608 => (if t608 = true then ((bCount.f kj54 t591 t592).bind fun t609 => ((bCount.f kj54 a0_0 l0_1).bind fun t610 => ((bCount.f kj54 t585 t586).bind fun t611 => (some (t609 == (wrap64 (t610 - t611))))))) else (some false))) else (some false)) = some r := H
                have A103 := Aside0.mk A1030
                clear A1030
                by_cases c104 : (wrap64 (t604 + t605)) = (wrap64 (t606 + t607))
                · rw [if_pos c104] at H
                  have c104b0 : ((wrap64 (t604 + t605)) == (wrap64 (t606 + t607))) = true := beq_iff_eq.mpr c104
                  have c104b1 : ((wrap64 (t604 + t605)) != (wrap64 (t606 + t607))) = false := bne_eq_false_iff_eq.mpr c104
                  clear c104
                  replace H := Option.bind_eq_some_iff.mp H
                  obtain ⟨t608, A1050, H⟩ := H
                  replace H : (if t608 = true then ((bCount.f kj54 t591 t592).bind fun t609 => ((bCount.f kj54 a0_0 l0_1).bind fun t610 => ((bCount.f kj54 t585 t586).bind fun t611 => (some (t609 == (wrap64 (t610 - t611))))))) else (some false)) = some r := H
                  have A105 := Aside0.mk A1050
                  clear A1050
                  by_cases c106 : t608 = true
                  · subst c106
                    have H1 : ((bCount.f kj54 t591 t592).bind fun t609 => ((bCount.f kj54 a0_0 l0_1).bind fun t610 => ((bCount.f kj54 t585 t586).bind fun t611 => (some (t609 == (wrap64 (t610 - t611))))))) = some r := by rw [if_pos rfl] at H; exact H
                    clear H
                    have H := H1
                    clear H1
                    replace H := Option.bind_eq_some_iff.mp H
                    obtain ⟨t609, A1070, H⟩ := H
                    replace H : ((bCount.f kj54 a0_0 l0_1).bind fun t610 => ((bCount.f kj54 t585 t586).bind fun t611 => (some (t609 == (wrap64 (t610 - t611)))))) = some r := H
                    have A107 := Aside0.mk A1070
                    clear A1070
                    replace H := Option.bind_eq_some_iff.mp H
                    obtain ⟨t610, A1080, H⟩ := H
                    replace H : ((bCount.f kj54 t585 t586).bind fun t611 => (some (t609 == (wrap64 (t610 - t611))))) = some r := H
                    have A108 := Aside0.mk A1080
                    clear A1080
                    replace H := Option.bind_eq_some_iff.mp H
                    obtain ⟨t611, A1090, H⟩ := H
                    replace H : (some (t609 == (wrap64 (t610 - t611)))) = some r := H
                    have A109 := Aside0.mk A1090
                    clear A1090
                    obtain rfl := Option.some.inj H
                    try go_wp2
                    have n0_ := Aside0.mk (Kd.V_drew HO_571001.out)
                    have n1_ := Aside0.mk (Kd.V_drew HO_572001.out)
                    have n2_ := Aside0.mk (Kd.R_drew HO_585001.out)
                    have n3_ := Aside0.mk (Kd.R_drew HO_591001.out)
                    have n4_ := Aside0.mk (Kd.R_drew HO_597001.out)
                    have n5_ := Aside0.mk (Kd.R_drew HO_603001.out)
                    have n6_ := Aside0.mk (blk_drew BK570.out)
                    have n7_ := Aside0.mk (blk_drew BK571.out)
                    have n8_ := Aside0.mk (blk_drew BK584.out)
                    have n9_ := Aside0.mk (blk_drew BK590.out)
                    have n10_ := Aside0.mk (blk_drew BK596.out)
                    have n11_ := Aside0.mk (blk_drew BK602.out)
                    have n12_ := Aside0.mk (below_drew1 HB.out)
                    clear HO_571001
                    clear HO_572001
                    clear HO_585001
                    clear HO_591001
                    clear HO_597001
                    clear HO_603001
                    clear BK570
                    clear BK571
                    clear BK584
                    clear BK590
                    clear BK596
                    clear BK602
                    clear HB
                    have HO_571001 := n0_
                    have HO_572001 := n1_
                    have HO_585001 := n2_
                    have HO_591001 := n3_
                    have HO_597001 := n4_
                    have HO_603001 := n5_
                    have BK570 := n6_
                    have BK571 := n7_
                    have BK584 := n8_
                    have BK590 := n9_
                    have BK596 := n10_
                    have BK602 := n11_
                    have HB := n12_
                    clear n0_ n1_ n2_ n3_ n4_ n5_ n6_ n7_ n8_ n9_ n10_ n11_ n12_
                    refine start_ (n := 30) (S := fun w' => w'.cell? ⟨gb584, 0, none⟩ = some (.int .i64 t579) ∧ w'.cell? ⟨gb584, 1, none⟩ = some (.slice Ao64 t580.length co64) ∧ w'.cell? ⟨gb590, 0, none⟩ = some (.int .i64 t585) ∧ w'.cell? ⟨gb590, 1, none⟩ = some (.slice Ao73 t586.length co73) ∧ w'.cell? ⟨gb570, 0, none⟩ = some (.int .i64 a0_0) ∧ w'.cell? ⟨gb570, 1, none⟩ = some (.slice A0_1 l0_1.length c0_1) ∧ w'.cell? ⟨gb571, 0, none⟩ = some (.int .i64 a1_0) ∧ w'.cell? ⟨gb571, 1, none⟩ = some (.slice A1_1 l1_1.length c1_1) ∧ w'.cell? ⟨gb602, 0, none⟩ = some (.int .i64 t597) ∧ w'.cell? ⟨gb602, 1, none⟩ = some (.slice Ao93 t598.length co93) ∧ w'.cell? ⟨gb596, 0, none⟩ = some (.int .i64 t591) ∧ w'.cell? ⟨gb596, 1, none⟩ = some (.slice Ao83 t592.length co83)) (ds := []) #[false, false, false, false, false, false, false, false, false, false, false, false, false, false, false, false, false, false, false, false, false, false, false, false, false, false, false, false, false, false] (by kernel_rfl) rfl rfl ⟨(blk_cell BK584.out 0).trans rfl, (blk_cell BK584.out 1).trans rfl, (blk_cell BK590.out 0).trans rfl, (blk_cell BK590.out 1).trans rfl, (blk_cell BK570.out 0).trans rfl, (blk_cell BK570.out 1).trans rfl, (blk_cell BK571.out 0).trans rfl, (blk_cell BK571.out 1).trans rfl, (blk_cell BK602.out 0).trans rfl, (blk_cell BK602.out 1).trans rfl, (blk_cell BK596.out 0).trans rfl, (blk_cell BK596.out 1).trans rfl⟩ (fun hHeld => ?_); refine with_tabW l02BitmapCounts.tab9 l02BitmapCounts.bits9 (fun HT_ HW_ => ?_)
                    generalize wc.drew = w110 at HO_571001 HO_572001 HO_585001 HO_591001 HO_597001 HO_603001 BK570 BK571 BK584 BK590 BK596 BK602 HB hHeld ⊢
                    refine one_ (i := 0) (N := some 74) #[true, false, false, false, false, false, false, false, false, false, false, false, false, false, false, false, false, false, false, false, false, false, false, false, false, false, false, false, false, false] rfl rfl (one_of HT_.out (by kernel_rfl)) (by decide) (fun K hK => ?_)
                    refine goes_ Tryd.func12 (by kernel_rfl) rfl #[] (by rfl) rfl rfl (by (try simp only [List.map_toArray, List.map_cons, List.map_nil]); first | done | rfl | (simp only [List.length_drop, List.length_take]; rfl)) ?_
                    with_reducible refine (l02awake.calls kj54  true _ ?side1 A98.out).mono ?_
                    (case side1 => exact TabOK.below hG (by repeat (first | (with_reducible first | exact HB.out | apply below_alloc | apply pw_below_drewN | apply below_drew1 | refine below_set ?_ GE570.out | refine below_set ?_ GE571.out | refine below_set ?_ GE584.out | refine below_set ?_ GE590.out | refine below_set ?_ GE596.out | refine below_set ?_ GE602.out) | exact HB.out)))
                    rintro e w111 ⟨rfl, hb⟩
                    refine ⟨_, rfl, ?_⟩
                    have n0_ := Aside0.mk (Kd.V_below (by (with_reducible repeat (first | apply Kd.V_alloc | apply Kd.V_drewN | apply Kd.V_drew)); exact HO_571001.out) hb)
                    have n1_ := Aside0.mk (Kd.V_below (by (with_reducible repeat (first | apply Kd.V_alloc | apply Kd.V_drewN | apply Kd.V_drew)); exact HO_572001.out) hb)
                    have n2_ := Aside0.mk (Kd.R_below (by (with_reducible repeat (first | apply Kd.R_alloc | apply Kd.R_drewN | apply Kd.R_drew)); exact HO_585001.out) hb)
                    have n3_ := Aside0.mk (Kd.R_below (by (with_reducible repeat (first | apply Kd.R_alloc | apply Kd.R_drewN | apply Kd.R_drew)); exact HO_591001.out) hb)
                    have n4_ := Aside0.mk (Kd.R_below (by (with_reducible repeat (first | apply Kd.R_alloc | apply Kd.R_drewN | apply Kd.R_drew)); exact HO_597001.out) hb)
                    have n5_ := Aside0.mk (Kd.R_below (by (with_reducible repeat (first | apply Kd.R_alloc | apply Kd.R_drewN | apply Kd.R_drew)); exact HO_603001.out) hb)
                    have n6_ := Aside0.mk (blk_below (g := gb570) (o := .cells #[.int .i64 a0_0, .slice A0_1 l0_1.length c0_1] 24 (0, 0)) (by (with_reducible repeat (first | refine blk_drewN ?_ _ | refine blk_drew ?_ | refine blk_alloc ?_ _)); exact BK570.out) hb)
                    have n7_ := Aside0.mk (blk_below (g := gb571) (o := .cells #[.int .i64 a1_0, .slice A1_1 l1_1.length c1_1] 24 (0, 0)) (by (with_reducible repeat (first | refine blk_drewN ?_ _ | refine blk_drew ?_ | refine blk_alloc ?_ _)); exact BK571.out) hb)
                    have n8_ := Aside0.mk (blk_below (g := gb584) (o := .cells #[.int .i64 t579, .slice Ao64 t580.length co64] 24 (0, 0)) (by (with_reducible repeat (first | refine blk_drewN ?_ _ | refine blk_drew ?_ | refine blk_alloc ?_ _)); exact BK584.out) hb)
                    have n9_ := Aside0.mk (blk_below (g := gb590) (o := .cells #[.int .i64 t585, .slice Ao73 t586.length co73] 24 (0, 0)) (by (with_reducible repeat (first | refine blk_drewN ?_ _ | refine blk_drew ?_ | refine blk_alloc ?_ _)); exact BK590.out) hb)
                    have n10_ := Aside0.mk (blk_below (g := gb596) (o := .cells #[.int .i64 t591, .slice Ao83 t592.length co83] 24 (0, 0)) (by (with_reducible repeat (first | refine blk_drewN ?_ _ | refine blk_drew ?_ | refine blk_alloc ?_ _)); exact BK596.out) hb)
                    have n11_ := Aside0.mk (blk_below (g := gb602) (o := .cells #[.int .i64 t597, .slice Ao93 t598.length co93] 24 (0, 0)) (by (with_reducible repeat (first | refine blk_drewN ?_ _ | refine blk_drew ?_ | refine blk_alloc ?_ _)); exact BK602.out) hb)
                    have n12_ := Aside0.mk (below_step (by repeat (first | (with_reducible first | exact HB.out | apply below_alloc | apply pw_below_drewN | apply below_drew1 | refine below_set ?_ GE570.out | refine below_set ?_ GE571.out | refine below_set ?_ GE584.out | refine below_set ?_ GE590.out | refine below_set ?_ GE596.out | refine below_set ?_ GE602.out) | exact HB.out)) hb)
                    clear HO_571001
                    clear HO_572001
                    clear HO_585001
                    clear HO_591001
                    clear HO_597001
                    clear HO_603001
                    clear BK570
                    clear BK571
                    clear BK584
                    clear BK590
                    clear BK596
                    clear BK602
                    clear HB
                    have HO_571001 := n0_
                    have HO_572001 := n1_
                    have HO_585001 := n2_
                    have HO_591001 := n3_
                    have HO_597001 := n4_
                    have HO_603001 := n5_
                    have BK570 := n6_
                    have BK571 := n7_
                    have BK584 := n8_
                    have BK590 := n9_
                    have BK596 := n10_
                    have BK602 := n11_
                    have HB := n12_
                    clear n0_ n1_ n2_ n3_ n4_ n5_ n6_ n7_ n8_ n9_ n10_ n11_ n12_
                    (try clear hb)
                    (try clear hb2)
                    (try clear hk)
                    (try clear hi)
                    refine hK.out _ _ ⟨(blk_cell BK584.out 0).trans rfl, (blk_cell BK584.out 1).trans rfl, (blk_cell BK590.out 0).trans rfl, (blk_cell BK590.out 1).trans rfl, (blk_cell BK570.out 0).trans rfl, (blk_cell BK570.out 1).trans rfl, (blk_cell BK571.out 0).trans rfl, (blk_cell BK571.out 1).trans rfl, (blk_cell BK602.out 0).trans rfl, (blk_cell BK602.out 1).trans rfl, (blk_cell BK596.out 0).trans rfl, (blk_cell BK596.out 1).trans rfl⟩ (fun hHeld => ?_)
                    clear hK K
                    refine norm_ (a' := ?_) ?_ ?_
                    rotate_left
                    · show Act.put _ (some 74) _ = _
                      simp only [Act.put, List.setIfInBounds_toArray, List.set_cons_zero, List.set_cons_succ, i64_w, i32_w]
                      rfl
                    refine pure_ (i := 1) (N := some 75) (v := ?_) (a' := ?_) #[true, true, false, false, false, false, false, false, false, false, false, false, false, false, false, false, false, false, false, false, false, false, false, false, false, false, false, false, false, false] rfl rfl (any_of HT_.out (by kernel_rfl)) (fun _ _ _ h => h) (Or.inl ⟨by rfl, ?_⟩) ?_ ?_
                    rotate_left
                    · intro w'
                      go_simp
                      with_reducible rfl
                    rotate_left
                    · simp only [Act.put, List.setIfInBounds_toArray, List.set_cons_zero, List.set_cons_succ, i64_w, i32_w]
                      rfl
                    refine take_ (i := 2) (N := some 76) (v := ?_) (a' := ?_) #[true, true, true, false, false, false, false, false, false, false, false, false, false, false, false, false, false, false, false, false, false, false, false, false, false, false, false, false, false, false] rfl rfl (take_ofW HT_.out HW_.out (by kernel_rfl)) (fun _ _ _ h => h) (Or.inl ⟨by rfl, ?_⟩) hHeld ?_ ?_
                    rotate_left
                    · rintro w' ⟨s0, s1, s2, s3, s4, s5, s6, s7, s8, s9, s10, s11⟩
                      go_simp
                      with_reducible rfl
                    rotate_left
                    · simp only [Act.put, List.setIfInBounds_toArray, List.set_cons_zero, List.set_cons_succ, i64_w, i32_w]
                      rfl
                    refine take_ (i := 4) (N := some 78) (v := ?_) (a' := ?_) #[true, true, true, false, true, false, false, false, false, false, false, false, false, false, false, false, false, false, false, false, false, false, false, false, false, false, false, false, false, false] rfl rfl (take_ofW HT_.out HW_.out (by kernel_rfl)) (fun _ _ _ h => h) (Or.inl ⟨by rfl, ?_⟩) hHeld ?_ ?_
                    rotate_left
                    · rintro w' ⟨s0, s1, s2, s3, s4, s5, s6, s7, s8, s9, s10, s11⟩
                      go_simp
                      with_reducible rfl
                    rotate_left
                    · simp only [Act.put, List.setIfInBounds_toArray, List.set_cons_zero, List.set_cons_succ, i64_w, i32_w]
                      rfl
                    refine take_ (i := 7) (N := some 81) (v := ?_) (a' := ?_) #[true, true, true, false, true, false, false, true, false, false, false, false, false, false, false, false, false, false, false, false, false, false, false, false, false, false, false, false, false, false] rfl rfl (take_ofW HT_.out HW_.out (by kernel_rfl)) (fun _ _ _ h => h) (Or.inl ⟨by rfl, ?_⟩) hHeld ?_ ?_
                    rotate_left
                    · rintro w' ⟨s0, s1, s2, s3, s4, s5, s6, s7, s8, s9, s10, s11⟩
                      go_simp
                      with_reducible rfl
                    rotate_left
                    · simp only [Act.put, List.setIfInBounds_toArray, List.set_cons_zero, List.set_cons_succ, i64_w, i32_w]
                      rfl
                    refine take_ (i := 9) (N := some 83) (v := ?_) (a' := ?_) #[true, true, true, false, true, false, false, true, false, true, false, false, false, false, false, false, false, false, false, false, false, false, false, false, false, false, false, false, false, false] rfl rfl (take_ofW HT_.out HW_.out (by kernel_rfl)) (fun _ _ _ h => h) (Or.inl ⟨by rfl, ?_⟩) hHeld ?_ ?_
                    rotate_left
                    · rintro w' ⟨s0, s1, s2, s3, s4, s5, s6, s7, s8, s9, s10, s11⟩
                      go_simp
                      with_reducible rfl
                    rotate_left
                    · simp only [Act.put, List.setIfInBounds_toArray, List.set_cons_zero, List.set_cons_succ, i64_w, i32_w]
                      rfl
                    refine one_ (i := 3) (N := some 77) #[true, true, true, true, true, false, false, true, false, true, false, false, false, false, false, false, false, false, false, false, false, false, false, false, false, false, false, false, false, false] rfl rfl (one_of HT_.out (by kernel_rfl)) (by decide) (fun K hK => ?_)
                    refine goes_ Tryd.func24 (by kernel_rfl) rfl #[.agg #[.int .i64 t579, .slice Ao64 t580.length co64]] (by rfl) rfl rfl (by (try simp only [List.map_toArray, List.map_cons, List.map_nil]); first | done | rfl | (simp only [List.length_drop, List.length_take]; rfl)) ?_
                    with_reducible refine (bCount.calls kj54 t579 _ _ t580 t604 _ ?side1 ?side2 A100.out).mono ?_
                    (case side1 => repeat (first | exact (Kd.R_reads' HO_585001.out).2.2 | (with_reducible refine Kd.C_alloc ?_ _) | (with_reducible refine Kd.C_drewN ?_ _) | (with_reducible refine Kd.C_drew ?_)))
                    (case side2 => exact (Kd.R_reads' HO_585001.out).2.1)
                    rintro e w112 ⟨rfl, hb⟩
                    refine ⟨_, rfl, ?_⟩
                    have n0_ := Aside0.mk (Kd.V_below (by (with_reducible repeat (first | apply Kd.V_alloc | apply Kd.V_drewN | apply Kd.V_drew)); exact HO_571001.out) hb)
                    have n1_ := Aside0.mk (Kd.V_below (by (with_reducible repeat (first | apply Kd.V_alloc | apply Kd.V_drewN | apply Kd.V_drew)); exact HO_572001.out) hb)
                    have n2_ := Aside0.mk (Kd.R_below (by (with_reducible repeat (first | apply Kd.R_alloc | apply Kd.R_drewN | apply Kd.R_drew)); exact HO_585001.out) hb)
                    have n3_ := Aside0.mk (Kd.R_below (by (with_reducible repeat (first | apply Kd.R_alloc | apply Kd.R_drewN | apply Kd.R_drew)); exact HO_591001.out) hb)
                    have n4_ := Aside0.mk (Kd.R_below (by (with_reducible repeat (first | apply Kd.R_alloc | apply Kd.R_drewN | apply Kd.R_drew)); exact HO_597001.out) hb)
                    have n5_ := Aside0.mk (Kd.R_below (by (with_reducible repeat (first | apply Kd.R_alloc | apply Kd.R_drewN | apply Kd.R_drew)); exact HO_603001.out) hb)
                    have n6_ := Aside0.mk (blk_below (g := gb570) (o := .cells #[.int .i64 a0_0, .slice A0_1 l0_1.length c0_1] 24 (0, 0)) (by (with_reducible repeat (first | refine blk_drewN ?_ _ | refine blk_drew ?_ | refine blk_alloc ?_ _)); exact BK570.out) hb)
                    have n7_ := Aside0.mk (blk_below (g := gb571) (o := .cells #[.int .i64 a1_0, .slice A1_1 l1_1.length c1_1] 24 (0, 0)) (by (with_reducible repeat (first | refine blk_drewN ?_ _ | refine blk_drew ?_ | refine blk_alloc ?_ _)); exact BK571.out) hb)
                    have n8_ := Aside0.mk (blk_below (g := gb584) (o := .cells #[.int .i64 t579, .slice Ao64 t580.length co64] 24 (0, 0)) (by (with_reducible repeat (first | refine blk_drewN ?_ _ | refine blk_drew ?_ | refine blk_alloc ?_ _)); exact BK584.out) hb)
                    have n9_ := Aside0.mk (blk_below (g := gb590) (o := .cells #[.int .i64 t585, .slice Ao73 t586.length co73] 24 (0, 0)) (by (with_reducible repeat (first | refine blk_drewN ?_ _ | refine blk_drew ?_ | refine blk_alloc ?_ _)); exact BK590.out) hb)
                    have n10_ := Aside0.mk (blk_below (g := gb596) (o := .cells #[.int .i64 t591, .slice Ao83 t592.length co83] 24 (0, 0)) (by (with_reducible repeat (first | refine blk_drewN ?_ _ | refine blk_drew ?_ | refine blk_alloc ?_ _)); exact BK596.out) hb)
                    have n11_ := Aside0.mk (blk_below (g := gb602) (o := .cells #[.int .i64 t597, .slice Ao93 t598.length co93] 24 (0, 0)) (by (with_reducible repeat (first | refine blk_drewN ?_ _ | refine blk_drew ?_ | refine blk_alloc ?_ _)); exact BK602.out) hb)
                    have n12_ := Aside0.mk (below_step (by repeat (first | (with_reducible first | exact HB.out | apply below_alloc | apply pw_below_drewN | apply below_drew1 | refine below_set ?_ GE570.out | refine below_set ?_ GE571.out | refine below_set ?_ GE584.out | refine below_set ?_ GE590.out | refine below_set ?_ GE596.out | refine below_set ?_ GE602.out) | exact HB.out)) hb)
                    clear HO_571001
                    clear HO_572001
                    clear HO_585001
                    clear HO_591001
                    clear HO_597001
                    clear HO_603001
                    clear BK570
                    clear BK571
                    clear BK584
                    clear BK590
                    clear BK596
                    clear BK602
                    clear HB
                    have HO_571001 := n0_
                    have HO_572001 := n1_
                    have HO_585001 := n2_
                    have HO_591001 := n3_
                    have HO_597001 := n4_
                    have HO_603001 := n5_
                    have BK570 := n6_
                    have BK571 := n7_
                    have BK584 := n8_
                    have BK590 := n9_
                    have BK596 := n10_
                    have BK602 := n11_
                    have HB := n12_
                    clear n0_ n1_ n2_ n3_ n4_ n5_ n6_ n7_ n8_ n9_ n10_ n11_ n12_
                    (try clear hb)
                    (try clear hb2)
                    (try clear hk)
                    (try clear hi)
                    refine hK.out _ _ ⟨(blk_cell BK584.out 0).trans rfl, (blk_cell BK584.out 1).trans rfl, (blk_cell BK590.out 0).trans rfl, (blk_cell BK590.out 1).trans rfl, (blk_cell BK570.out 0).trans rfl, (blk_cell BK570.out 1).trans rfl, (blk_cell BK571.out 0).trans rfl, (blk_cell BK571.out 1).trans rfl, (blk_cell BK602.out 0).trans rfl, (blk_cell BK602.out 1).trans rfl, (blk_cell BK596.out 0).trans rfl, (blk_cell BK596.out 1).trans rfl⟩ (fun hHeld => ?_)
                    clear hK K
                    refine norm_ (a' := ?_) ?_ ?_
                    rotate_left
                    · show Act.put _ (some 77) _ = _
                      simp only [Act.put, List.setIfInBounds_toArray, List.set_cons_zero, List.set_cons_succ, i64_w, i32_w]
                      rfl
                    refine one_ (i := 5) (N := some 79) #[true, true, true, true, true, true, false, true, false, true, false, false, false, false, false, false, false, false, false, false, false, false, false, false, false, false, false, false, false, false] rfl rfl (one_of HT_.out (by kernel_rfl)) (by decide) (fun K hK => ?_)
                    refine goes_ Tryd.func24 (by kernel_rfl) rfl #[.agg #[.int .i64 t585, .slice Ao73 t586.length co73]] (by rfl) rfl rfl (by (try simp only [List.map_toArray, List.map_cons, List.map_nil]); first | done | rfl | (simp only [List.length_drop, List.length_take]; rfl)) ?_
                    with_reducible refine (bCount.calls kj54 t585 _ _ t586 t605 _ ?side1 ?side2 A101.out).mono ?_
                    (case side1 => repeat (first | exact (Kd.R_reads' HO_591001.out).2.2 | (with_reducible refine Kd.C_alloc ?_ _) | (with_reducible refine Kd.C_drewN ?_ _) | (with_reducible refine Kd.C_drew ?_)))
                    (case side2 => exact (Kd.R_reads' HO_591001.out).2.1)
                    rintro e w113 ⟨rfl, hb⟩
                    refine ⟨_, rfl, ?_⟩
                    have n0_ := Aside0.mk (Kd.V_below (by (with_reducible repeat (first | apply Kd.V_alloc | apply Kd.V_drewN | apply Kd.V_drew)); exact HO_571001.out) hb)
                    have n1_ := Aside0.mk (Kd.V_below (by (with_reducible repeat (first | apply Kd.V_alloc | apply Kd.V_drewN | apply Kd.V_drew)); exact HO_572001.out) hb)
                    have n2_ := Aside0.mk (Kd.R_below (by (with_reducible repeat (first | apply Kd.R_alloc | apply Kd.R_drewN | apply Kd.R_drew)); exact HO_585001.out) hb)
                    have n3_ := Aside0.mk (Kd.R_below (by (with_reducible repeat (first | apply Kd.R_alloc | apply Kd.R_drewN | apply Kd.R_drew)); exact HO_591001.out) hb)
                    have n4_ := Aside0.mk (Kd.R_below (by (with_reducible repeat (first | apply Kd.R_alloc | apply Kd.R_drewN | apply Kd.R_drew)); exact HO_597001.out) hb)
                    have n5_ := Aside0.mk (Kd.R_below (by (with_reducible repeat (first | apply Kd.R_alloc | apply Kd.R_drewN | apply Kd.R_drew)); exact HO_603001.out) hb)
                    have n6_ := Aside0.mk (blk_below (g := gb570) (o := .cells #[.int .i64 a0_0, .slice A0_1 l0_1.length c0_1] 24 (0, 0)) (by (with_reducible repeat (first | refine blk_drewN ?_ _ | refine blk_drew ?_ | refine blk_alloc ?_ _)); exact BK570.out) hb)
                    have n7_ := Aside0.mk (blk_below (g := gb571) (o := .cells #[.int .i64 a1_0, .slice A1_1 l1_1.length c1_1] 24 (0, 0)) (by (with_reducible repeat (first | refine blk_drewN ?_ _ | refine blk_drew ?_ | refine blk_alloc ?_ _)); exact BK571.out) hb)
                    have n8_ := Aside0.mk (blk_below (g := gb584) (o := .cells #[.int .i64 t579, .slice Ao64 t580.length co64] 24 (0, 0)) (by (with_reducible repeat (first | refine blk_drewN ?_ _ | refine blk_drew ?_ | refine blk_alloc ?_ _)); exact BK584.out) hb)
                    have n9_ := Aside0.mk (blk_below (g := gb590) (o := .cells #[.int .i64 t585, .slice Ao73 t586.length co73] 24 (0, 0)) (by (with_reducible repeat (first | refine blk_drewN ?_ _ | refine blk_drew ?_ | refine blk_alloc ?_ _)); exact BK590.out) hb)
                    have n10_ := Aside0.mk (blk_below (g := gb596) (o := .cells #[.int .i64 t591, .slice Ao83 t592.length co83] 24 (0, 0)) (by (with_reducible repeat (first | refine blk_drewN ?_ _ | refine blk_drew ?_ | refine blk_alloc ?_ _)); exact BK596.out) hb)
                    have n11_ := Aside0.mk (blk_below (g := gb602) (o := .cells #[.int .i64 t597, .slice Ao93 t598.length co93] 24 (0, 0)) (by (with_reducible repeat (first | refine blk_drewN ?_ _ | refine blk_drew ?_ | refine blk_alloc ?_ _)); exact BK602.out) hb)
                    have n12_ := Aside0.mk (below_step (by repeat (first | (with_reducible first | exact HB.out | apply below_alloc | apply pw_below_drewN | apply below_drew1 | refine below_set ?_ GE570.out | refine below_set ?_ GE571.out | refine below_set ?_ GE584.out | refine below_set ?_ GE590.out | refine below_set ?_ GE596.out | refine below_set ?_ GE602.out) | exact HB.out)) hb)
                    clear HO_571001
                    clear HO_572001
                    clear HO_585001
                    clear HO_591001
                    clear HO_597001
                    clear HO_603001
                    clear BK570
                    clear BK571
                    clear BK584
                    clear BK590
                    clear BK596
                    clear BK602
                    clear HB
                    have HO_571001 := n0_
                    have HO_572001 := n1_
                    have HO_585001 := n2_
                    have HO_591001 := n3_
                    have HO_597001 := n4_
                    have HO_603001 := n5_
                    have BK570 := n6_
                    have BK571 := n7_
                    have BK584 := n8_
                    have BK590 := n9_
                    have BK596 := n10_
                    have BK602 := n11_
                    have HB := n12_
                    clear n0_ n1_ n2_ n3_ n4_ n5_ n6_ n7_ n8_ n9_ n10_ n11_ n12_
                    (try clear hb)
                    (try clear hb2)
                    (try clear hk)
                    (try clear hi)
                    refine hK.out _ _ ⟨(blk_cell BK584.out 0).trans rfl, (blk_cell BK584.out 1).trans rfl, (blk_cell BK590.out 0).trans rfl, (blk_cell BK590.out 1).trans rfl, (blk_cell BK570.out 0).trans rfl, (blk_cell BK570.out 1).trans rfl, (blk_cell BK571.out 0).trans rfl, (blk_cell BK571.out 1).trans rfl, (blk_cell BK602.out 0).trans rfl, (blk_cell BK602.out 1).trans rfl, (blk_cell BK596.out 0).trans rfl, (blk_cell BK596.out 1).trans rfl⟩ (fun hHeld => ?_)
                    clear hK K
                    refine norm_ (a' := ?_) ?_ ?_
                    rotate_left
                    · show Act.put _ (some 79) _ = _
                      simp only [Act.put, List.setIfInBounds_toArray, List.set_cons_zero, List.set_cons_succ, i64_w, i32_w]
                      rfl
                    refine pure_ (i := 6) (N := some 80) (v := ?_) (a' := ?_) #[true, true, true, true, true, true, true, true, false, true, false, false, false, false, false, false, false, false, false, false, false, false, false, false, false, false, false, false, false, false] rfl rfl (any_of HT_.out (by kernel_rfl)) (fun _ _ _ h => h) (Or.inl ⟨by rfl, ?_⟩) ?_ ?_
                    rotate_left
                    · intro w'
                      go_simp
                      with_reducible rfl
                    rotate_left
                    · simp only [Act.put, List.setIfInBounds_toArray, List.set_cons_zero, List.set_cons_succ, i64_w, i32_w]
                      rfl
                    refine one_ (i := 8) (N := some 82) #[true, true, true, true, true, true, true, true, true, true, false, false, false, false, false, false, false, false, false, false, false, false, false, false, false, false, false, false, false, false] rfl rfl (one_of HT_.out (by kernel_rfl)) (by decide) (fun K hK => ?_)
                    refine goes_ Tryd.func24 (by kernel_rfl) rfl #[.agg #[.int .i64 a0_0, .slice A0_1 l0_1.length c0_1]] (by rfl) rfl rfl (by (try simp only [List.map_toArray, List.map_cons, List.map_nil]); first | done | rfl | (simp only [List.length_drop, List.length_take]; rfl)) ?_
                    with_reducible refine (bCount.calls kj54 a0_0 _ _ l0_1 t606 _ ?side1 ?side2 A102.out).mono ?_
                    (case side1 => repeat (first | exact (Kd.V_reads' HO_571001.out).2.2 | (with_reducible refine Kd.C_alloc ?_ _) | (with_reducible refine Kd.C_drewN ?_ _) | (with_reducible refine Kd.C_drew ?_)))
                    (case side2 => exact (Kd.V_reads' HO_571001.out).2.1)
                    rintro e w114 ⟨rfl, hb⟩
                    refine ⟨_, rfl, ?_⟩
                    have n0_ := Aside0.mk (Kd.V_below (by (with_reducible repeat (first | apply Kd.V_alloc | apply Kd.V_drewN | apply Kd.V_drew)); exact HO_571001.out) hb)
                    have n1_ := Aside0.mk (Kd.V_below (by (with_reducible repeat (first | apply Kd.V_alloc | apply Kd.V_drewN | apply Kd.V_drew)); exact HO_572001.out) hb)
                    have n2_ := Aside0.mk (Kd.R_below (by (with_reducible repeat (first | apply Kd.R_alloc | apply Kd.R_drewN | apply Kd.R_drew)); exact HO_585001.out) hb)
                    have n3_ := Aside0.mk (Kd.R_below (by (with_reducible repeat (first | apply Kd.R_alloc | apply Kd.R_drewN | apply Kd.R_drew)); exact HO_591001.out) hb)
                    have n4_ := Aside0.mk (Kd.R_below (by (with_reducible repeat (first | apply Kd.R_alloc | apply Kd.R_drewN | apply Kd.R_drew)); exact HO_597001.out) hb)
                    have n5_ := Aside0.mk (Kd.R_below (by (with_reducible repeat (first | apply Kd.R_alloc | apply Kd.R_drewN | apply Kd.R_drew)); exact HO_603001.out) hb)
                    have n6_ := Aside0.mk (blk_below (g := gb570) (o := .cells #[.int .i64 a0_0, .slice A0_1 l0_1.length c0_1] 24 (0, 0)) (by (with_reducible repeat (first | refine blk_drewN ?_ _ | refine blk_drew ?_ | refine blk_alloc ?_ _)); exact BK570.out) hb)
                    have n7_ := Aside0.mk (blk_below (g := gb571) (o := .cells #[.int .i64 a1_0, .slice A1_1 l1_1.length c1_1] 24 (0, 0)) (by (with_reducible repeat (first | refine blk_drewN ?_ _ | refine blk_drew ?_ | refine blk_alloc ?_ _)); exact BK571.out) hb)
                    have n8_ := Aside0.mk (blk_below (g := gb584) (o := .cells #[.int .i64 t579, .slice Ao64 t580.length co64] 24 (0, 0)) (by (with_reducible repeat (first | refine blk_drewN ?_ _ | refine blk_drew ?_ | refine blk_alloc ?_ _)); exact BK584.out) hb)
                    have n9_ := Aside0.mk (blk_below (g := gb590) (o := .cells #[.int .i64 t585, .slice Ao73 t586.length co73] 24 (0, 0)) (by (with_reducible repeat (first | refine blk_drewN ?_ _ | refine blk_drew ?_ | refine blk_alloc ?_ _)); exact BK590.out) hb)
                    have n10_ := Aside0.mk (blk_below (g := gb596) (o := .cells #[.int .i64 t591, .slice Ao83 t592.length co83] 24 (0, 0)) (by (with_reducible repeat (first | refine blk_drewN ?_ _ | refine blk_drew ?_ | refine blk_alloc ?_ _)); exact BK596.out) hb)
                    have n11_ := Aside0.mk (blk_below (g := gb602) (o := .cells #[.int .i64 t597, .slice Ao93 t598.length co93] 24 (0, 0)) (by (with_reducible repeat (first | refine blk_drewN ?_ _ | refine blk_drew ?_ | refine blk_alloc ?_ _)); exact BK602.out) hb)
                    have n12_ := Aside0.mk (below_step (by repeat (first | (with_reducible first | exact HB.out | apply below_alloc | apply pw_below_drewN | apply below_drew1 | refine below_set ?_ GE570.out | refine below_set ?_ GE571.out | refine below_set ?_ GE584.out | refine below_set ?_ GE590.out | refine below_set ?_ GE596.out | refine below_set ?_ GE602.out) | exact HB.out)) hb)
                    clear HO_571001
                    clear HO_572001
                    clear HO_585001
                    clear HO_591001
                    clear HO_597001
                    clear HO_603001
                    clear BK570
                    clear BK571
                    clear BK584
                    clear BK590
                    clear BK596
                    clear BK602
                    clear HB
                    have HO_571001 := n0_
                    have HO_572001 := n1_
                    have HO_585001 := n2_
                    have HO_591001 := n3_
                    have HO_597001 := n4_
                    have HO_603001 := n5_
                    have BK570 := n6_
                    have BK571 := n7_
                    have BK584 := n8_
                    have BK590 := n9_
                    have BK596 := n10_
                    have BK602 := n11_
                    have HB := n12_
                    clear n0_ n1_ n2_ n3_ n4_ n5_ n6_ n7_ n8_ n9_ n10_ n11_ n12_
                    (try clear hb)
                    (try clear hb2)
                    (try clear hk)
                    (try clear hi)
                    refine hK.out _ _ ⟨(blk_cell BK584.out 0).trans rfl, (blk_cell BK584.out 1).trans rfl, (blk_cell BK590.out 0).trans rfl, (blk_cell BK590.out 1).trans rfl, (blk_cell BK570.out 0).trans rfl, (blk_cell BK570.out 1).trans rfl, (blk_cell BK571.out 0).trans rfl, (blk_cell BK571.out 1).trans rfl, (blk_cell BK602.out 0).trans rfl, (blk_cell BK602.out 1).trans rfl, (blk_cell BK596.out 0).trans rfl, (blk_cell BK596.out 1).trans rfl⟩ (fun hHeld => ?_)
                    clear hK K
                    refine norm_ (a' := ?_) ?_ ?_
                    rotate_left
                    · show Act.put _ (some 82) _ = _
                      simp only [Act.put, List.setIfInBounds_toArray, List.set_cons_zero, List.set_cons_succ, i64_w, i32_w]
                      rfl
                    refine one_ (i := 10) (N := some 84) #[true, true, true, true, true, true, true, true, true, true, true, false, false, false, false, false, false, false, false, false, false, false, false, false, false, false, false, false, false, false] rfl rfl (one_of HT_.out (by kernel_rfl)) (by decide) (fun K hK => ?_)
                    refine goes_ Tryd.func24 (by kernel_rfl) rfl #[.agg #[.int .i64 a1_0, .slice A1_1 l1_1.length c1_1]] (by rfl) rfl rfl (by (try simp only [List.map_toArray, List.map_cons, List.map_nil]); first | done | rfl | (simp only [List.length_drop, List.length_take]; rfl)) ?_
                    with_reducible refine (bCount.calls kj54 a1_0 _ _ l1_1 t607 _ ?side1 ?side2 A103.out).mono ?_
                    (case side1 => repeat (first | exact (Kd.V_reads' HO_572001.out).2.2 | (with_reducible refine Kd.C_alloc ?_ _) | (with_reducible refine Kd.C_drewN ?_ _) | (with_reducible refine Kd.C_drew ?_)))
                    (case side2 => exact (Kd.V_reads' HO_572001.out).2.1)
                    rintro e w115 ⟨rfl, hb⟩
                    refine ⟨_, rfl, ?_⟩
                    have n0_ := Aside0.mk (Kd.V_below (by (with_reducible repeat (first | apply Kd.V_alloc | apply Kd.V_drewN | apply Kd.V_drew)); exact HO_571001.out) hb)
                    have n1_ := Aside0.mk (Kd.V_below (by (with_reducible repeat (first | apply Kd.V_alloc | apply Kd.V_drewN | apply Kd.V_drew)); exact HO_572001.out) hb)
                    have n2_ := Aside0.mk (Kd.R_below (by (with_reducible repeat (first | apply Kd.R_alloc | apply Kd.R_drewN | apply Kd.R_drew)); exact HO_585001.out) hb)
                    have n3_ := Aside0.mk (Kd.R_below (by (with_reducible repeat (first | apply Kd.R_alloc | apply Kd.R_drewN | apply Kd.R_drew)); exact HO_591001.out) hb)
                    have n4_ := Aside0.mk (Kd.R_below (by (with_reducible repeat (first | apply Kd.R_alloc | apply Kd.R_drewN | apply Kd.R_drew)); exact HO_597001.out) hb)
                    have n5_ := Aside0.mk (Kd.R_below (by (with_reducible repeat (first | apply Kd.R_alloc | apply Kd.R_drewN | apply Kd.R_drew)); exact HO_603001.out) hb)
                    have n6_ := Aside0.mk (blk_below (g := gb570) (o := .cells #[.int .i64 a0_0, .slice A0_1 l0_1.length c0_1] 24 (0, 0)) (by (with_reducible repeat (first | refine blk_drewN ?_ _ | refine blk_drew ?_ | refine blk_alloc ?_ _)); exact BK570.out) hb)
                    have n7_ := Aside0.mk (blk_below (g := gb571) (o := .cells #[.int .i64 a1_0, .slice A1_1 l1_1.length c1_1] 24 (0, 0)) (by (with_reducible repeat (first | refine blk_drewN ?_ _ | refine blk_drew ?_ | refine blk_alloc ?_ _)); exact BK571.out) hb)
                    have n8_ := Aside0.mk (blk_below (g := gb584) (o := .cells #[.int .i64 t579, .slice Ao64 t580.length co64] 24 (0, 0)) (by (with_reducible repeat (first | refine blk_drewN ?_ _ | refine blk_drew ?_ | refine blk_alloc ?_ _)); exact BK584.out) hb)
                    have n9_ := Aside0.mk (blk_below (g := gb590) (o := .cells #[.int .i64 t585, .slice Ao73 t586.length co73] 24 (0, 0)) (by (with_reducible repeat (first | refine blk_drewN ?_ _ | refine blk_drew ?_ | refine blk_alloc ?_ _)); exact BK590.out) hb)
                    have n10_ := Aside0.mk (blk_below (g := gb596) (o := .cells #[.int .i64 t591, .slice Ao83 t592.length co83] 24 (0, 0)) (by (with_reducible repeat (first | refine blk_drewN ?_ _ | refine blk_drew ?_ | refine blk_alloc ?_ _)); exact BK596.out) hb)
                    have n11_ := Aside0.mk (blk_below (g := gb602) (o := .cells #[.int .i64 t597, .slice Ao93 t598.length co93] 24 (0, 0)) (by (with_reducible repeat (first | refine blk_drewN ?_ _ | refine blk_drew ?_ | refine blk_alloc ?_ _)); exact BK602.out) hb)
                    have n12_ := Aside0.mk (below_step (by repeat (first | (with_reducible first | exact HB.out | apply below_alloc | apply pw_below_drewN | apply below_drew1 | refine below_set ?_ GE570.out | refine below_set ?_ GE571.out | refine below_set ?_ GE584.out | refine below_set ?_ GE590.out | refine below_set ?_ GE596.out | refine below_set ?_ GE602.out) | exact HB.out)) hb)
                    clear HO_571001
                    clear HO_572001
                    clear HO_585001
                    clear HO_591001
                    clear HO_597001
                    clear HO_603001
                    clear BK570
                    clear BK571
                    clear BK584
                    clear BK590
                    clear BK596
                    clear BK602
                    clear HB
                    have HO_571001 := n0_
                    have HO_572001 := n1_
                    have HO_585001 := n2_
                    have HO_591001 := n3_
                    have HO_597001 := n4_
                    have HO_603001 := n5_
                    have BK570 := n6_
                    have BK571 := n7_
                    have BK584 := n8_
                    have BK590 := n9_
                    have BK596 := n10_
                    have BK602 := n11_
                    have HB := n12_
                    clear n0_ n1_ n2_ n3_ n4_ n5_ n6_ n7_ n8_ n9_ n10_ n11_ n12_
                    (try clear hb)
                    (try clear hb2)
                    (try clear hk)
                    (try clear hi)
                    refine hK.out _ _ ⟨(blk_cell BK584.out 0).trans rfl, (blk_cell BK584.out 1).trans rfl, (blk_cell BK590.out 0).trans rfl, (blk_cell BK590.out 1).trans rfl, (blk_cell BK570.out 0).trans rfl, (blk_cell BK570.out 1).trans rfl, (blk_cell BK571.out 0).trans rfl, (blk_cell BK571.out 1).trans rfl, (blk_cell BK602.out 0).trans rfl, (blk_cell BK602.out 1).trans rfl, (blk_cell BK596.out 0).trans rfl, (blk_cell BK596.out 1).trans rfl⟩ (fun hHeld => ?_)
                    clear hK K
                    refine norm_ (a' := ?_) ?_ ?_
                    rotate_left
                    · show Act.put _ (some 84) _ = _
                      simp only [Act.put, List.setIfInBounds_toArray, List.set_cons_zero, List.set_cons_succ, i64_w, i32_w]
                      rfl
                    refine pure_ (i := 11) (N := some 85) (v := ?_) (a' := ?_) #[true, true, true, true, true, true, true, true, true, true, true, true, false, false, false, false, false, false, false, false, false, false, false, false, false, false, false, false, false, false] rfl rfl (any_of HT_.out (by kernel_rfl)) (fun _ _ _ h => h) (Or.inl ⟨by rfl, ?_⟩) ?_ ?_
                    rotate_left
                    · intro w'
                      go_simp
                      with_reducible rfl
                    rotate_left
                    · simp only [Act.put, List.setIfInBounds_toArray, List.set_cons_zero, List.set_cons_succ, i64_w, i32_w]
                      rfl
                    refine pure_ (i := 12) (N := some 86) (v := ?_) (a' := ?_) #[true, true, true, true, true, true, true, true, true, true, true, true, true, false, false, false, false, false, false, false, false, false, false, false, false, false, false, false, false, false] rfl rfl (any_of HT_.out (by kernel_rfl)) (fun _ _ _ h => h) (Or.inl ⟨by rfl, ?_⟩) ?_ ?_
                    rotate_left
                    · intro w'
                      go_simp
                      with_reducible rfl
                    rotate_left
                    · simp only [Act.put, List.setIfInBounds_toArray, List.set_cons_zero, List.set_cons_succ, i64_w, i32_w]
                      rfl
                    refine pure_ (i := 13) (N := some 87) (v := ?_) (a' := ?_) #[true, true, true, true, true, true, true, true, true, true, true, true, true, true, false, false, false, false, false, false, false, false, false, false, false, false, false, false, false, false] rfl rfl (any_of HT_.out (by kernel_rfl)) (fun _ _ _ h => h) (Or.inl ⟨by rfl, ?_⟩) ?_ ?_
                    rotate_left
                    · intro w'
                      go_simp
                      with_reducible rfl
                    rotate_left
                    · simp only [Act.put, List.setIfInBounds_toArray, List.set_cons_zero, List.set_cons_succ, i64_w, i32_w]
                      rfl
                    refine pure_ (i := 14) (N := some 88) (v := ?_) (a' := ?_) #[true, true, true, true, true, true, true, true, true, true, true, true, true, true, true, false, false, false, false, false, false, false, false, false, false, false, false, false, false, false] rfl rfl (any_of HT_.out (by kernel_rfl)) (fun _ _ _ h => h) (Or.inl ⟨by rfl, ?_⟩) ?_ ?_
                    rotate_left
                    · intro w'
                      go_simp
                      with_reducible rfl
                    rotate_left
                    · simp only [Act.put, List.setIfInBounds_toArray, List.set_cons_zero, List.set_cons_succ, i64_w, i32_w]
                      rfl
                    refine take_ (i := 15) (N := some 89) (v := ?_) (a' := ?_) #[true, true, true, true, true, true, true, true, true, true, true, true, true, true, true, true, false, false, false, false, false, false, false, false, false, false, false, false, false, false] rfl rfl (take_ofW HT_.out HW_.out (by kernel_rfl)) (fun _ _ _ h => h) (Or.inl ⟨by rfl, ?_⟩) hHeld ?_ ?_
                    rotate_left
                    · rintro w' ⟨s0, s1, s2, s3, s4, s5, s6, s7, s8, s9, s10, s11⟩
                      go_simp
                      with_reducible rfl
                    rotate_left
                    · simp only [Act.put, List.setIfInBounds_toArray, List.set_cons_zero, List.set_cons_succ, i64_w, i32_w]
                      rfl
                    refine take_ (i := 16) (N := some 90) (v := ?_) (a' := ?_) #[true, true, true, true, true, true, true, true, true, true, true, true, true, true, true, true, true, false, false, false, false, false, false, false, false, false, false, false, false, false] rfl rfl (take_ofW HT_.out HW_.out (by kernel_rfl)) (fun _ _ _ h => h) (Or.inl ⟨by rfl, ?_⟩) hHeld ?_ ?_
                    rotate_left
                    · rintro w' ⟨s0, s1, s2, s3, s4, s5, s6, s7, s8, s9, s10, s11⟩
                      go_simp
                      with_reducible rfl
                    rotate_left
                    · simp only [Act.put, List.setIfInBounds_toArray, List.set_cons_zero, List.set_cons_succ, i64_w, i32_w]
                      rfl
                    refine one_ (i := 17) (N := some 91) #[true, true, true, true, true, true, true, true, true, true, true, true, true, true, true, true, true, true, false, false, false, false, false, false, false, false, false, false, false, false] rfl rfl (one_of HT_.out (by kernel_rfl)) (by decide) (fun K hK => ?_)
                    refine goes_ Tryd.func17 (by kernel_rfl) rfl #[.agg #[.int .i64 t597, .slice Ao93 t598.length co93], .agg #[.int .i64 a0_0, .slice A0_1 l0_1.length c0_1]] (by rfl) rfl rfl (by (try simp only [List.map_toArray, List.map_cons, List.map_nil]); first | done | rfl | (simp only [List.length_drop, List.length_take]; rfl)) ?_
                    with_reducible refine (r02Same.calls kj54 t597 _ _ t598 a0_0 _ _ l0_1 true _ ?side1 ?side2 ?side3 ?side4 A105.out).mono ?_
                    (case side1 => repeat (first | exact (Kd.R_reads' HO_603001.out).2.2 | (with_reducible refine Kd.C_alloc ?_ _) | (with_reducible refine Kd.C_drewN ?_ _) | (with_reducible refine Kd.C_drew ?_)))
                    (case side2 => exact (Kd.R_reads' HO_603001.out).2.1)
                    (case side3 => repeat (first | exact (Kd.V_reads' HO_571001.out).2.2 | (with_reducible refine Kd.C_alloc ?_ _) | (with_reducible refine Kd.C_drewN ?_ _) | (with_reducible refine Kd.C_drew ?_)))
                    (case side4 => exact (Kd.V_reads' HO_571001.out).2.1)
                    rintro e w116 ⟨rfl, hb⟩
                    refine ⟨_, rfl, ?_⟩
                    have n0_ := Aside0.mk (Kd.V_below (by (with_reducible repeat (first | apply Kd.V_alloc | apply Kd.V_drewN | apply Kd.V_drew)); exact HO_571001.out) hb)
                    have n1_ := Aside0.mk (Kd.V_below (by (with_reducible repeat (first | apply Kd.V_alloc | apply Kd.V_drewN | apply Kd.V_drew)); exact HO_572001.out) hb)
                    have n2_ := Aside0.mk (Kd.R_below (by (with_reducible repeat (first | apply Kd.R_alloc | apply Kd.R_drewN | apply Kd.R_drew)); exact HO_585001.out) hb)
                    have n3_ := Aside0.mk (Kd.R_below (by (with_reducible repeat (first | apply Kd.R_alloc | apply Kd.R_drewN | apply Kd.R_drew)); exact HO_591001.out) hb)
                    have n4_ := Aside0.mk (Kd.R_below (by (with_reducible repeat (first | apply Kd.R_alloc | apply Kd.R_drewN | apply Kd.R_drew)); exact HO_597001.out) hb)
                    have n5_ := Aside0.mk (Kd.R_below (by (with_reducible repeat (first | apply Kd.R_alloc | apply Kd.R_drewN | apply Kd.R_drew)); exact HO_603001.out) hb)
                    have n6_ := Aside0.mk (blk_below (g := gb570) (o := .cells #[.int .i64 a0_0, .slice A0_1 l0_1.length c0_1] 24 (0, 0)) (by (with_reducible repeat (first | refine blk_drewN ?_ _ | refine blk_drew ?_ | refine blk_alloc ?_ _)); exact BK570.out) hb)
                    have n7_ := Aside0.mk (blk_below (g := gb571) (o := .cells #[.int .i64 a1_0, .slice A1_1 l1_1.length c1_1] 24 (0, 0)) (by (with_reducible repeat (first | refine blk_drewN ?_ _ | refine blk_drew ?_ | refine blk_alloc ?_ _)); exact BK571.out) hb)
                    have n8_ := Aside0.mk (blk_below (g := gb584) (o := .cells #[.int .i64 t579, .slice Ao64 t580.length co64] 24 (0, 0)) (by (with_reducible repeat (first | refine blk_drewN ?_ _ | refine blk_drew ?_ | refine blk_alloc ?_ _)); exact BK584.out) hb)
                    have n9_ := Aside0.mk (blk_below (g := gb590) (o := .cells #[.int .i64 t585, .slice Ao73 t586.length co73] 24 (0, 0)) (by (with_reducible repeat (first | refine blk_drewN ?_ _ | refine blk_drew ?_ | refine blk_alloc ?_ _)); exact BK590.out) hb)
                    have n10_ := Aside0.mk (blk_below (g := gb596) (o := .cells #[.int .i64 t591, .slice Ao83 t592.length co83] 24 (0, 0)) (by (with_reducible repeat (first | refine blk_drewN ?_ _ | refine blk_drew ?_ | refine blk_alloc ?_ _)); exact BK596.out) hb)
                    have n11_ := Aside0.mk (blk_below (g := gb602) (o := .cells #[.int .i64 t597, .slice Ao93 t598.length co93] 24 (0, 0)) (by (with_reducible repeat (first | refine blk_drewN ?_ _ | refine blk_drew ?_ | refine blk_alloc ?_ _)); exact BK602.out) hb)
                    have n12_ := Aside0.mk (below_step (by repeat (first | (with_reducible first | exact HB.out | apply below_alloc | apply pw_below_drewN | apply below_drew1 | refine below_set ?_ GE570.out | refine below_set ?_ GE571.out | refine below_set ?_ GE584.out | refine below_set ?_ GE590.out | refine below_set ?_ GE596.out | refine below_set ?_ GE602.out) | exact HB.out)) hb)
                    clear HO_571001
                    clear HO_572001
                    clear HO_585001
                    clear HO_591001
                    clear HO_597001
                    clear HO_603001
                    clear BK570
                    clear BK571
                    clear BK584
                    clear BK590
                    clear BK596
                    clear BK602
                    clear HB
                    have HO_571001 := n0_
                    have HO_572001 := n1_
                    have HO_585001 := n2_
                    have HO_591001 := n3_
                    have HO_597001 := n4_
                    have HO_603001 := n5_
                    have BK570 := n6_
                    have BK571 := n7_
                    have BK584 := n8_
                    have BK590 := n9_
                    have BK596 := n10_
                    have BK602 := n11_
                    have HB := n12_
                    clear n0_ n1_ n2_ n3_ n4_ n5_ n6_ n7_ n8_ n9_ n10_ n11_ n12_
                    (try clear hb)
                    (try clear hb2)
                    (try clear hk)
                    (try clear hi)
                    refine hK.out _ _ ⟨(blk_cell BK584.out 0).trans rfl, (blk_cell BK584.out 1).trans rfl, (blk_cell BK590.out 0).trans rfl, (blk_cell BK590.out 1).trans rfl, (blk_cell BK570.out 0).trans rfl, (blk_cell BK570.out 1).trans rfl, (blk_cell BK571.out 0).trans rfl, (blk_cell BK571.out 1).trans rfl, (blk_cell BK602.out 0).trans rfl, (blk_cell BK602.out 1).trans rfl, (blk_cell BK596.out 0).trans rfl, (blk_cell BK596.out 1).trans rfl⟩ (fun hHeld => ?_)
                    clear hK K
                    refine norm_ (a' := ?_) ?_ ?_
                    rotate_left
                    · show Act.put _ (some 91) _ = _
                      simp only [Act.put, List.setIfInBounds_toArray, List.set_cons_zero, List.set_cons_succ, i64_w, i32_w]
                      rfl
                    refine pure_ (i := 18) (N := some 92) (v := ?_) (a' := ?_) #[true, true, true, true, true, true, true, true, true, true, true, true, true, true, true, true, true, true, true, false, false, false, false, false, false, false, false, false, false, false] rfl rfl (any_of HT_.out (by kernel_rfl)) (fun _ _ _ h => h) (Or.inl ⟨by rfl, ?_⟩) ?_ ?_
                    rotate_left
                    · intro w'
                      go_simp
                      with_reducible rfl
                    rotate_left
                    · simp only [Act.put, List.setIfInBounds_toArray, List.set_cons_zero, List.set_cons_succ, i64_w, i32_w]
                      rfl
                    refine pure_ (i := 19) (N := some 93) (v := ?_) (a' := ?_) #[true, true, true, true, true, true, true, true, true, true, true, true, true, true, true, true, true, true, true, true, false, false, false, false, false, false, false, false, false, false] rfl rfl (any_of HT_.out (by kernel_rfl)) (fun _ _ _ h => h) (Or.inl ⟨by rfl, ?_⟩) ?_ ?_
                    rotate_left
                    · intro w'
                      go_simp
                      with_reducible rfl
                    rotate_left
                    · simp only [Act.put, List.setIfInBounds_toArray, List.set_cons_zero, List.set_cons_succ, i64_w, i32_w]
                      rfl
                    refine take_ (i := 20) (N := some 94) (v := ?_) (a' := ?_) #[true, true, true, true, true, true, true, true, true, true, true, true, true, true, true, true, true, true, true, true, true, false, false, false, false, false, false, false, false, false] rfl rfl (take_ofW HT_.out HW_.out (by kernel_rfl)) (fun _ _ _ h => h) (Or.inl ⟨by rfl, ?_⟩) hHeld ?_ ?_
                    rotate_left
                    · rintro w' ⟨s0, s1, s2, s3, s4, s5, s6, s7, s8, s9, s10, s11⟩
                      go_simp
                      with_reducible rfl
                    rotate_left
                    · simp only [Act.put, List.setIfInBounds_toArray, List.set_cons_zero, List.set_cons_succ, i64_w, i32_w]
                      rfl
                    refine take_ (i := 22) (N := some 96) (v := ?_) (a' := ?_) #[true, true, true, true, true, true, true, true, true, true, true, true, true, true, true, true, true, true, true, true, true, false, true, false, false, false, false, false, false, false] rfl rfl (take_ofW HT_.out HW_.out (by kernel_rfl)) (fun _ _ _ h => h) (Or.inl ⟨by rfl, ?_⟩) hHeld ?_ ?_
                    rotate_left
                    · rintro w' ⟨s0, s1, s2, s3, s4, s5, s6, s7, s8, s9, s10, s11⟩
                      go_simp
                      with_reducible rfl
                    rotate_left
                    · simp only [Act.put, List.setIfInBounds_toArray, List.set_cons_zero, List.set_cons_succ, i64_w, i32_w]
                      rfl
                    refine take_ (i := 24) (N := some 98) (v := ?_) (a' := ?_) #[true, true, true, true, true, true, true, true, true, true, true, true, true, true, true, true, true, true, true, true, true, false, true, false, true, false, false, false, false, false] rfl rfl (take_ofW HT_.out HW_.out (by kernel_rfl)) (fun _ _ _ h => h) (Or.inl ⟨by rfl, ?_⟩) hHeld ?_ ?_
                    rotate_left
                    · rintro w' ⟨s0, s1, s2, s3, s4, s5, s6, s7, s8, s9, s10, s11⟩
                      go_simp
                      with_reducible rfl
                    rotate_left
                    · simp only [Act.put, List.setIfInBounds_toArray, List.set_cons_zero, List.set_cons_succ, i64_w, i32_w]
                      rfl
                    refine one_ (i := 21) (N := some 95) #[true, true, true, true, true, true, true, true, true, true, true, true, true, true, true, true, true, true, true, true, true, true, true, false, true, false, false, false, false, false] rfl rfl (one_of HT_.out (by kernel_rfl)) (by decide) (fun K hK => ?_)
                    refine goes_ Tryd.func24 (by kernel_rfl) rfl #[.agg #[.int .i64 t591, .slice Ao83 t592.length co83]] (by rfl) rfl rfl (by (try simp only [List.map_toArray, List.map_cons, List.map_nil]); first | done | rfl | (simp only [List.length_drop, List.length_take]; rfl)) ?_
                    with_reducible refine (bCount.calls kj54 t591 _ _ t592 t609 _ ?side1 ?side2 A107.out).mono ?_
                    (case side1 => repeat (first | exact (Kd.R_reads' HO_597001.out).2.2 | (with_reducible refine Kd.C_alloc ?_ _) | (with_reducible refine Kd.C_drewN ?_ _) | (with_reducible refine Kd.C_drew ?_)))
                    (case side2 => exact (Kd.R_reads' HO_597001.out).2.1)
                    rintro e w117 ⟨rfl, hb⟩
                    refine ⟨_, rfl, ?_⟩
                    have n0_ := Aside0.mk (Kd.V_below (by (with_reducible repeat (first | apply Kd.V_alloc | apply Kd.V_drewN | apply Kd.V_drew)); exact HO_571001.out) hb)
                    have n1_ := Aside0.mk (Kd.V_below (by (with_reducible repeat (first | apply Kd.V_alloc | apply Kd.V_drewN | apply Kd.V_drew)); exact HO_572001.out) hb)
                    have n2_ := Aside0.mk (Kd.R_below (by (with_reducible repeat (first | apply Kd.R_alloc | apply Kd.R_drewN | apply Kd.R_drew)); exact HO_585001.out) hb)
                    have n3_ := Aside0.mk (Kd.R_below (by (with_reducible repeat (first | apply Kd.R_alloc | apply Kd.R_drewN | apply Kd.R_drew)); exact HO_591001.out) hb)
                    have n4_ := Aside0.mk (Kd.R_below (by (with_reducible repeat (first | apply Kd.R_alloc | apply Kd.R_drewN | apply Kd.R_drew)); exact HO_597001.out) hb)
                    have n5_ := Aside0.mk (Kd.R_below (by (with_reducible repeat (first | apply Kd.R_alloc | apply Kd.R_drewN | apply Kd.R_drew)); exact HO_603001.out) hb)
                    have n6_ := Aside0.mk (blk_below (g := gb570) (o := .cells #[.int .i64 a0_0, .slice A0_1 l0_1.length c0_1] 24 (0, 0)) (by (with_reducible repeat (first | refine blk_drewN ?_ _ | refine blk_drew ?_ | refine blk_alloc ?_ _)); exact BK570.out) hb)
                    have n7_ := Aside0.mk (blk_below (g := gb571) (o := .cells #[.int .i64 a1_0, .slice A1_1 l1_1.length c1_1] 24 (0, 0)) (by (with_reducible repeat (first | refine blk_drewN ?_ _ | refine blk_drew ?_ | refine blk_alloc ?_ _)); exact BK571.out) hb)
                    have n8_ := Aside0.mk (blk_below (g := gb584) (o := .cells #[.int .i64 t579, .slice Ao64 t580.length co64] 24 (0, 0)) (by (with_reducible repeat (first | refine blk_drewN ?_ _ | refine blk_drew ?_ | refine blk_alloc ?_ _)); exact BK584.out) hb)
                    have n9_ := Aside0.mk (blk_below (g := gb590) (o := .cells #[.int .i64 t585, .slice Ao73 t586.length co73] 24 (0, 0)) (by (with_reducible repeat (first | refine blk_drewN ?_ _ | refine blk_drew ?_ | refine blk_alloc ?_ _)); exact BK590.out) hb)
                    have n10_ := Aside0.mk (blk_below (g := gb596) (o := .cells #[.int .i64 t591, .slice Ao83 t592.length co83] 24 (0, 0)) (by (with_reducible repeat (first | refine blk_drewN ?_ _ | refine blk_drew ?_ | refine blk_alloc ?_ _)); exact BK596.out) hb)
                    have n11_ := Aside0.mk (blk_below (g := gb602) (o := .cells #[.int .i64 t597, .slice Ao93 t598.length co93] 24 (0, 0)) (by (with_reducible repeat (first | refine blk_drewN ?_ _ | refine blk_drew ?_ | refine blk_alloc ?_ _)); exact BK602.out) hb)
                    have n12_ := Aside0.mk (below_step (by repeat (first | (with_reducible first | exact HB.out | apply below_alloc | apply pw_below_drewN | apply below_drew1 | refine below_set ?_ GE570.out | refine below_set ?_ GE571.out | refine below_set ?_ GE584.out | refine below_set ?_ GE590.out | refine below_set ?_ GE596.out | refine below_set ?_ GE602.out) | exact HB.out)) hb)
                    clear HO_571001
                    clear HO_572001
                    clear HO_585001
                    clear HO_591001
                    clear HO_597001
                    clear HO_603001
                    clear BK570
                    clear BK571
                    clear BK584
                    clear BK590
                    clear BK596
                    clear BK602
                    clear HB
                    have HO_571001 := n0_
                    have HO_572001 := n1_
                    have HO_585001 := n2_
                    have HO_591001 := n3_
                    have HO_597001 := n4_
                    have HO_603001 := n5_
                    have BK570 := n6_
                    have BK571 := n7_
                    have BK584 := n8_
                    have BK590 := n9_
                    have BK596 := n10_
                    have BK602 := n11_
                    have HB := n12_
                    clear n0_ n1_ n2_ n3_ n4_ n5_ n6_ n7_ n8_ n9_ n10_ n11_ n12_
                    (try clear hb)
                    (try clear hb2)
                    (try clear hk)
                    (try clear hi)
                    refine hK.out _ _ ⟨(blk_cell BK584.out 0).trans rfl, (blk_cell BK584.out 1).trans rfl, (blk_cell BK590.out 0).trans rfl, (blk_cell BK590.out 1).trans rfl, (blk_cell BK570.out 0).trans rfl, (blk_cell BK570.out 1).trans rfl, (blk_cell BK571.out 0).trans rfl, (blk_cell BK571.out 1).trans rfl, (blk_cell BK602.out 0).trans rfl, (blk_cell BK602.out 1).trans rfl, (blk_cell BK596.out 0).trans rfl, (blk_cell BK596.out 1).trans rfl⟩ (fun hHeld => ?_)
                    clear hK K
                    refine norm_ (a' := ?_) ?_ ?_
                    rotate_left
                    · show Act.put _ (some 95) _ = _
                      simp only [Act.put, List.setIfInBounds_toArray, List.set_cons_zero, List.set_cons_succ, i64_w, i32_w]
                      rfl
                    refine one_ (i := 23) (N := some 97) #[true, true, true, true, true, true, true, true, true, true, true, true, true, true, true, true, true, true, true, true, true, true, true, true, true, false, false, false, false, false] rfl rfl (one_of HT_.out (by kernel_rfl)) (by decide) (fun K hK => ?_)
                    refine goes_ Tryd.func24 (by kernel_rfl) rfl #[.agg #[.int .i64 a0_0, .slice A0_1 l0_1.length c0_1]] (by rfl) rfl rfl (by (try simp only [List.map_toArray, List.map_cons, List.map_nil]); first | done | rfl | (simp only [List.length_drop, List.length_take]; rfl)) ?_
                    with_reducible refine (bCount.calls kj54 a0_0 _ _ l0_1 t610 _ ?side1 ?side2 A108.out).mono ?_
                    (case side1 => repeat (first | exact (Kd.V_reads' HO_571001.out).2.2 | (with_reducible refine Kd.C_alloc ?_ _) | (with_reducible refine Kd.C_drewN ?_ _) | (with_reducible refine Kd.C_drew ?_)))
                    (case side2 => exact (Kd.V_reads' HO_571001.out).2.1)
                    rintro e w118 ⟨rfl, hb⟩
                    refine ⟨_, rfl, ?_⟩
                    have n0_ := Aside0.mk (Kd.V_below (by (with_reducible repeat (first | apply Kd.V_alloc | apply Kd.V_drewN | apply Kd.V_drew)); exact HO_571001.out) hb)
                    have n1_ := Aside0.mk (Kd.V_below (by (with_reducible repeat (first | apply Kd.V_alloc | apply Kd.V_drewN | apply Kd.V_drew)); exact HO_572001.out) hb)
                    have n2_ := Aside0.mk (Kd.R_below (by (with_reducible repeat (first | apply Kd.R_alloc | apply Kd.R_drewN | apply Kd.R_drew)); exact HO_585001.out) hb)
                    have n3_ := Aside0.mk (Kd.R_below (by (with_reducible repeat (first | apply Kd.R_alloc | apply Kd.R_drewN | apply Kd.R_drew)); exact HO_591001.out) hb)
                    have n4_ := Aside0.mk (Kd.R_below (by (with_reducible repeat (first | apply Kd.R_alloc | apply Kd.R_drewN | apply Kd.R_drew)); exact HO_597001.out) hb)
                    have n5_ := Aside0.mk (Kd.R_below (by (with_reducible repeat (first | apply Kd.R_alloc | apply Kd.R_drewN | apply Kd.R_drew)); exact HO_603001.out) hb)
                    have n6_ := Aside0.mk (blk_below (g := gb570) (o := .cells #[.int .i64 a0_0, .slice A0_1 l0_1.length c0_1] 24 (0, 0)) (by (with_reducible repeat (first | refine blk_drewN ?_ _ | refine blk_drew ?_ | refine blk_alloc ?_ _)); exact BK570.out) hb)
                    have n7_ := Aside0.mk (blk_below (g := gb571) (o := .cells #[.int .i64 a1_0, .slice A1_1 l1_1.length c1_1] 24 (0, 0)) (by (with_reducible repeat (first | refine blk_drewN ?_ _ | refine blk_drew ?_ | refine blk_alloc ?_ _)); exact BK571.out) hb)
                    have n8_ := Aside0.mk (blk_below (g := gb584) (o := .cells #[.int .i64 t579, .slice Ao64 t580.length co64] 24 (0, 0)) (by (with_reducible repeat (first | refine blk_drewN ?_ _ | refine blk_drew ?_ | refine blk_alloc ?_ _)); exact BK584.out) hb)
                    have n9_ := Aside0.mk (blk_below (g := gb590) (o := .cells #[.int .i64 t585, .slice Ao73 t586.length co73] 24 (0, 0)) (by (with_reducible repeat (first | refine blk_drewN ?_ _ | refine blk_drew ?_ | refine blk_alloc ?_ _)); exact BK590.out) hb)
                    have n10_ := Aside0.mk (blk_below (g := gb596) (o := .cells #[.int .i64 t591, .slice Ao83 t592.length co83] 24 (0, 0)) (by (with_reducible repeat (first | refine blk_drewN ?_ _ | refine blk_drew ?_ | refine blk_alloc ?_ _)); exact BK596.out) hb)
                    have n11_ := Aside0.mk (blk_below (g := gb602) (o := .cells #[.int .i64 t597, .slice Ao93 t598.length co93] 24 (0, 0)) (by (with_reducible repeat (first | refine blk_drewN ?_ _ | refine blk_drew ?_ | refine blk_alloc ?_ _)); exact BK602.out) hb)
                    have n12_ := Aside0.mk (below_step (by repeat (first | (with_reducible first | exact HB.out | apply below_alloc | apply pw_below_drewN | apply below_drew1 | refine below_set ?_ GE570.out | refine below_set ?_ GE571.out | refine below_set ?_ GE584.out | refine below_set ?_ GE590.out | refine below_set ?_ GE596.out | refine below_set ?_ GE602.out) | exact HB.out)) hb)
                    clear HO_571001
                    clear HO_572001
                    clear HO_585001
                    clear HO_591001
                    clear HO_597001
                    clear HO_603001
                    clear BK570
                    clear BK571
                    clear BK584
                    clear BK590
                    clear BK596
                    clear BK602
                    clear HB
                    have HO_571001 := n0_
                    have HO_572001 := n1_
                    have HO_585001 := n2_
                    have HO_591001 := n3_
                    have HO_597001 := n4_
                    have HO_603001 := n5_
                    have BK570 := n6_
                    have BK571 := n7_
                    have BK584 := n8_
                    have BK590 := n9_
                    have BK596 := n10_
                    have BK602 := n11_
                    have HB := n12_
                    clear n0_ n1_ n2_ n3_ n4_ n5_ n6_ n7_ n8_ n9_ n10_ n11_ n12_
                    (try clear hb)
                    (try clear hb2)
                    (try clear hk)
                    (try clear hi)
                    refine hK.out _ _ ⟨(blk_cell BK584.out 0).trans rfl, (blk_cell BK584.out 1).trans rfl, (blk_cell BK590.out 0).trans rfl, (blk_cell BK590.out 1).trans rfl, (blk_cell BK570.out 0).trans rfl, (blk_cell BK570.out 1).trans rfl, (blk_cell BK571.out 0).trans rfl, (blk_cell BK571.out 1).trans rfl, (blk_cell BK602.out 0).trans rfl, (blk_cell BK602.out 1).trans rfl, (blk_cell BK596.out 0).trans rfl, (blk_cell BK596.out 1).trans rfl⟩ (fun hHeld => ?_)
                    clear hK K
                    refine norm_ (a' := ?_) ?_ ?_
                    rotate_left
                    · show Act.put _ (some 97) _ = _
                      simp only [Act.put, List.setIfInBounds_toArray, List.set_cons_zero, List.set_cons_succ, i64_w, i32_w]
                      rfl
                    refine one_ (i := 25) (N := some 99) #[true, true, true, true, true, true, true, true, true, true, true, true, true, true, true, true, true, true, true, true, true, true, true, true, true, true, false, false, false, false] rfl rfl (one_of HT_.out (by kernel_rfl)) (by decide) (fun K hK => ?_)
                    refine goes_ Tryd.func24 (by kernel_rfl) rfl #[.agg #[.int .i64 t585, .slice Ao73 t586.length co73]] (by rfl) rfl rfl (by (try simp only [List.map_toArray, List.map_cons, List.map_nil]); first | done | rfl | (simp only [List.length_drop, List.length_take]; rfl)) ?_
                    with_reducible refine (bCount.calls kj54 t585 _ _ t586 t611 _ ?side1 ?side2 A109.out).mono ?_
                    (case side1 => repeat (first | exact (Kd.R_reads' HO_591001.out).2.2 | (with_reducible refine Kd.C_alloc ?_ _) | (with_reducible refine Kd.C_drewN ?_ _) | (with_reducible refine Kd.C_drew ?_)))
                    (case side2 => exact (Kd.R_reads' HO_591001.out).2.1)
                    rintro e w119 ⟨rfl, hb⟩
                    refine ⟨_, rfl, ?_⟩
                    have n0_ := Aside0.mk (Kd.V_below (by (with_reducible repeat (first | apply Kd.V_alloc | apply Kd.V_drewN | apply Kd.V_drew)); exact HO_571001.out) hb)
                    have n1_ := Aside0.mk (Kd.V_below (by (with_reducible repeat (first | apply Kd.V_alloc | apply Kd.V_drewN | apply Kd.V_drew)); exact HO_572001.out) hb)
                    have n2_ := Aside0.mk (Kd.R_below (by (with_reducible repeat (first | apply Kd.R_alloc | apply Kd.R_drewN | apply Kd.R_drew)); exact HO_585001.out) hb)
                    have n3_ := Aside0.mk (Kd.R_below (by (with_reducible repeat (first | apply Kd.R_alloc | apply Kd.R_drewN | apply Kd.R_drew)); exact HO_591001.out) hb)
                    have n4_ := Aside0.mk (Kd.R_below (by (with_reducible repeat (first | apply Kd.R_alloc | apply Kd.R_drewN | apply Kd.R_drew)); exact HO_597001.out) hb)
                    have n5_ := Aside0.mk (Kd.R_below (by (with_reducible repeat (first | apply Kd.R_alloc | apply Kd.R_drewN | apply Kd.R_drew)); exact HO_603001.out) hb)
                    have n6_ := Aside0.mk (blk_below (g := gb570) (o := .cells #[.int .i64 a0_0, .slice A0_1 l0_1.length c0_1] 24 (0, 0)) (by (with_reducible repeat (first | refine blk_drewN ?_ _ | refine blk_drew ?_ | refine blk_alloc ?_ _)); exact BK570.out) hb)
                    have n7_ := Aside0.mk (blk_below (g := gb571) (o := .cells #[.int .i64 a1_0, .slice A1_1 l1_1.length c1_1] 24 (0, 0)) (by (with_reducible repeat (first | refine blk_drewN ?_ _ | refine blk_drew ?_ | refine blk_alloc ?_ _)); exact BK571.out) hb)
                    have n8_ := Aside0.mk (blk_below (g := gb584) (o := .cells #[.int .i64 t579, .slice Ao64 t580.length co64] 24 (0, 0)) (by (with_reducible repeat (first | refine blk_drewN ?_ _ | refine blk_drew ?_ | refine blk_alloc ?_ _)); exact BK584.out) hb)
                    have n9_ := Aside0.mk (blk_below (g := gb590) (o := .cells #[.int .i64 t585, .slice Ao73 t586.length co73] 24 (0, 0)) (by (with_reducible repeat (first | refine blk_drewN ?_ _ | refine blk_drew ?_ | refine blk_alloc ?_ _)); exact BK590.out) hb)
                    have n10_ := Aside0.mk (blk_below (g := gb596) (o := .cells #[.int .i64 t591, .slice Ao83 t592.length co83] 24 (0, 0)) (by (with_reducible repeat (first | refine blk_drewN ?_ _ | refine blk_drew ?_ | refine blk_alloc ?_ _)); exact BK596.out) hb)
                    have n11_ := Aside0.mk (blk_below (g := gb602) (o := .cells #[.int .i64 t597, .slice Ao93 t598.length co93] 24 (0, 0)) (by (with_reducible repeat (first | refine blk_drewN ?_ _ | refine blk_drew ?_ | refine blk_alloc ?_ _)); exact BK602.out) hb)
                    have n12_ := Aside0.mk (below_step (by repeat (first | (with_reducible first | exact HB.out | apply below_alloc | apply pw_below_drewN | apply below_drew1 | refine below_set ?_ GE570.out | refine below_set ?_ GE571.out | refine below_set ?_ GE584.out | refine below_set ?_ GE590.out | refine below_set ?_ GE596.out | refine below_set ?_ GE602.out) | exact HB.out)) hb)
                    clear HO_571001
                    clear HO_572001
                    clear HO_585001
                    clear HO_591001
                    clear HO_597001
                    clear HO_603001
                    clear BK570
                    clear BK571
                    clear BK584
                    clear BK590
                    clear BK596
                    clear BK602
                    clear HB
                    have HO_571001 := n0_
                    have HO_572001 := n1_
                    have HO_585001 := n2_
                    have HO_591001 := n3_
                    have HO_597001 := n4_
                    have HO_603001 := n5_
                    have BK570 := n6_
                    have BK571 := n7_
                    have BK584 := n8_
                    have BK590 := n9_
                    have BK596 := n10_
                    have BK602 := n11_
                    have HB := n12_
                    clear n0_ n1_ n2_ n3_ n4_ n5_ n6_ n7_ n8_ n9_ n10_ n11_ n12_
                    (try clear hb)
                    (try clear hb2)
                    (try clear hk)
                    (try clear hi)
                    refine hK.out _ _ ⟨(blk_cell BK584.out 0).trans rfl, (blk_cell BK584.out 1).trans rfl, (blk_cell BK590.out 0).trans rfl, (blk_cell BK590.out 1).trans rfl, (blk_cell BK570.out 0).trans rfl, (blk_cell BK570.out 1).trans rfl, (blk_cell BK571.out 0).trans rfl, (blk_cell BK571.out 1).trans rfl, (blk_cell BK602.out 0).trans rfl, (blk_cell BK602.out 1).trans rfl, (blk_cell BK596.out 0).trans rfl, (blk_cell BK596.out 1).trans rfl⟩ (fun hHeld => ?_)
                    clear hK K
                    refine norm_ (a' := ?_) ?_ ?_
                    rotate_left
                    · show Act.put _ (some 99) _ = _
                      simp only [Act.put, List.setIfInBounds_toArray, List.set_cons_zero, List.set_cons_succ, i64_w, i32_w]
                      rfl
                    refine pure_ (i := 26) (N := some 100) (v := ?_) (a' := ?_) #[true, true, true, true, true, true, true, true, true, true, true, true, true, true, true, true, true, true, true, true, true, true, true, true, true, true, true, false, false, false] rfl rfl (any_of HT_.out (by kernel_rfl)) (fun _ _ _ h => h) (Or.inl ⟨by rfl, ?_⟩) ?_ ?_
                    rotate_left
                    · intro w'
                      go_simp
                      with_reducible rfl
                    rotate_left
                    · simp only [Act.put, List.setIfInBounds_toArray, List.set_cons_zero, List.set_cons_succ, i64_w, i32_w]
                      rfl
                    refine pure_ (i := 27) (N := some 101) (v := ?_) (a' := ?_) #[true, true, true, true, true, true, true, true, true, true, true, true, true, true, true, true, true, true, true, true, true, true, true, true, true, true, true, true, false, false] rfl rfl (any_of HT_.out (by kernel_rfl)) (fun _ _ _ h => h) (Or.inl ⟨by rfl, ?_⟩) ?_ ?_
                    rotate_left
                    · intro w'
                      go_simp
                      with_reducible rfl
                    rotate_left
                    · simp only [Act.put, List.setIfInBounds_toArray, List.set_cons_zero, List.set_cons_succ, i64_w, i32_w]
                      rfl
                    refine pure_ (i := 28) (N := some 102) (v := ?_) (a' := ?_) #[true, true, true, true, true, true, true, true, true, true, true, true, true, true, true, true, true, true, true, true, true, true, true, true, true, true, true, true, true, false] rfl rfl (any_of HT_.out (by kernel_rfl)) (fun _ _ _ h => h) (Or.inl ⟨by rfl, ?_⟩) ?_ ?_
                    rotate_left
                    · intro w'
                      go_simp
                      with_reducible rfl
                    rotate_left
                    · simp only [Act.put, List.setIfInBounds_toArray, List.set_cons_zero, List.set_cons_succ, i64_w, i32_w]
                      rfl
                    refine pure_ (i := 29) (N := some 4) (v := ?_) (a' := ?_) #[true, true, true, true, true, true, true, true, true, true, true, true, true, true, true, true, true, true, true, true, true, true, true, true, true, true, true, true, true, true] rfl rfl (any_of HT_.out (by kernel_rfl)) (fun _ _ _ h => h) (Or.inl ⟨by rfl, ?_⟩) ?_ ?_
                    rotate_left
                    · intro w'
                      go_simp
                      with_reducible rfl
                    rotate_left
                    · simp only [Act.put, List.setIfInBounds_toArray, List.set_cons_zero, List.set_cons_succ, i64_w, i32_w]
                      rfl
                    refine done_ (done_of HT_.out (by kernel_rfl)) ?_
                    try go_wp2
                    go_ret
                    exact ⟨by first | rfl | (simp [errW_none, errW_some] <;> rfl) | (simp [*, errW_none, errW_some] <;> rfl), by repeat (first | (with_reducible first | exact HB.out | apply below_alloc | apply pw_below_drewN | apply below_drew1 | refine below_set ?_ GE570.out | refine below_set ?_ GE571.out | refine below_set ?_ GE584.out | refine below_set ?_ GE590.out | refine below_set ?_ GE596.out | refine below_set ?_ GE602.out) | exact HB.out)⟩
                  · replace c106 := Bool.eq_false_iff.mpr c106
                    subst c106
                    have H1 : (some false) = some r := by rw [if_neg (show ¬ (false = true) by decide)] at H; exact H
                    clear H
                    have H := H1
                    clear H1
                    exact absurd ((Option.some.inj H).trans hT.out) (by decide)
                · rw [if_neg c104] at H
                  have c104b0 : ((wrap64 (t604 + t605)) == (wrap64 (t606 + t607))) = false := beq_eq_false_iff_ne.mpr c104
                  have c104b1 : ((wrap64 (t604 + t605)) != (wrap64 (t606 + t607))) = true := bne_iff_ne.mpr c104
                  exact absurd ((Option.some.inj H).trans hT.out) (by decide)
              · replace c99 := Bool.eq_false_iff.mpr c99
                subst c99
                have H1 : (some false) = some r := by rw [if_neg (show ¬ (false = true) by decide)] at H; exact H
                clear H
                have H := H1
                clear H1
                exact absurd ((Option.some.inj H).trans hT.out) (by decide)
end Go.Proofs.YthpldfjjdmjcoaaDoor.P

namespace Go.Proofs.YthpldfjjdmjcoaaDoor.P
open Go.RowKit Go.Proofs.YthpldfjjdmjcoaaDoorW.PrintWords Go.Proofs.YthpldfjjdmjcoaaDoorW.PrintLast Go.Proofs.YthpldfjjdmjcoaaDoorW.PrintMore
def zipB (op : BinOp) (xs ys : List Int) : List Int := List.zipWith (Go.bits op .u64) xs ys
theorem zipB_length (op : BinOp) {xs ys : List Int} (h : xs.length = ys.length) : (zipB op xs ys).length = xs.length := by unfold zipB; rw [List.length_zipWith]; omega
theorem zipB_U {op : BinOp} (hop : OpOK op) (xs ys : List Int) : U (zipB op xs ys) := by
  intro x hx
  unfold zipB at hx
  rw [List.mem_iff_getElem] at hx
  obtain ⟨n, hn, rfl⟩ := hx
  rw [List.getElem_zipWith]
  exact bits_U1 hop _ _
theorem tb_zipB {op : BinOp} (hop : OpOK op) {xs ys : List Int} (hx : U xs) (hy : U ys) (hl : xs.length = ys.length) {j : Nat} (hj : j < 64 * xs.length) : tb (zipB op xs ys) j = opb op (tb xs j) (tb ys j) := by
  unfold tb zipB
  have h1 : j / 64 < xs.length := by omega
  have h2 : j / 64 < ys.length := by omega
  rw [List.getD_eq_getElem?_getD, List.getElem?_zipWith, List.getElem?_eq_getElem h1, List.getElem?_eq_getElem h2]
  simp only [Option.getD_some]
  rw [bits_wbit hop (hx _ (List.getElem_mem h1)) (hy _ (List.getElem_mem h2)) (by omega)]
  congr 1
  · rw [List.getD_eq_getElem?_getD, List.getElem?_eq_getElem h1, Option.getD_some]
  · rw [List.getD_eq_getElem?_getD, List.getElem?_eq_getElem h2, Option.getD_some]
theorem good_zipB {op : BinOp} (hop : OpOK op) {n : Int} {xs ys : List Int} (hx : U xs) (hy : U ys) (gx : Good n xs) (gy : Good n ys) : Good n (zipB op xs ys) := by
  have h0 := gx.lo
  have h1 := gx.hi
  have h2 := gx.len
  have h3 := gy.len
  have hl : xs.length = ys.length := by omega
  refine Good.mk' (zipB_U hop _ _) h0 h1 (by rw [zipB_length op hl]; exact h2) fun i hi hi2 => ?_
  rw [zipB_length op hl] at hi2
  rw [tb_zipB hop hx hy hl hi2, gx.clear hx hi, gy.clear hy hi]
  rcases hop with rfl | rfl | rfl <;> rfl
theorem bBoth_good {op : BinOp} {n : Int} {xs ys : List Int} (gx : Good n xs) (gy : Good n ys) : bBoth op n xs n ys = (n, zipB op xs ys, 0) := by
  unfold bBoth
  rw [if_pos ((good_iff _ _).2 gx), if_pos ((good_iff _ _).2 gy), if_pos rfl]; rfl
theorem cnt_or_and {xs ys : List Int} (hx : U xs) (hy : U ys) (hl : xs.length = ys.length) : ∀ n, n ≤ 64 * xs.length → cntR (zipB .or xs ys) n + cntR (zipB .and xs ys) n = cntR xs n + cntR ys n
  | 0, _ => rfl
  | n + 1, h => by
    have ih := cnt_or_and hx hy hl n (by omega)
    rw [cntR, cntR, cntR, cntR, tb_zipB (.inl rfl) hx hy hl (by omega), tb_zipB (.inr (.inl rfl)) hx hy hl (by omega)]
    cases tb xs n <;> cases tb ys n <;> simp [opb] <;> omega
theorem cnt_andNot {xs ys : List Int} (hx : U xs) (hy : U ys) (hl : xs.length = ys.length) : ∀ n, n ≤ 64 * xs.length → cntR (zipB .andNot xs ys) n + cntR (zipB .and xs ys) n = cntR xs n
  | 0, _ => rfl
  | n + 1, h => by
    have ih := cnt_andNot hx hy hl n (by omega)
    rw [cntR, cntR, cntR, tb_zipB (.inr (.inr rfl)) hx hy hl (by omega), tb_zipB (.inr (.inl rfl)) hx hy hl (by omega)]
    cases tb xs n <;> cases tb ys n <;> simp [opb] <;> omega
theorem back_eq {xs ys : List Int} (hx : U xs) (hy : U ys) (hl : xs.length = ys.length) : zipB .or (zipB .andNot xs ys) (zipB .and xs ys) = xs := by
  have h1 := zipB_length .andNot hl
  have h2 := zipB_length .and hl
  refine tb_ext (zipB_U (.inl rfl) _ _) hx (by rw [zipB_length _ (by omega)]; omega) fun j hj => ?_
  rw [zipB_length _ (by omega), h1] at hj
  rw [tb_zipB (.inl rfl) (zipB_U (.inr (.inr rfl)) _ _) (zipB_U (.inr (.inl rfl)) _ _) (by omega) (by omega), tb_zipB (.inr (.inr rfl)) hx hy hl hj, tb_zipB (.inr (.inl rfl)) hx hy hl hj]
  cases tb xs j <;> cases tb ys j <;> rfl
theorem counts_true {n m : Int} {xs ys : List Int} (hx : U xs) (hy : U ys) {k : Nat} (hk : 20000 ≤ k) : l02BitmapCounts.f k n xs m ys = some true := by
  obtain ⟨k, rfl⟩ : ∃ q, k = q + 2 := ⟨k - 2, by omega⟩
  have hj : l02BitmapCounts.j0 (k + 2) true n xs m ys = some true := by
    rw [l02BitmapCounts.j0, if_pos rfl, awake_eq (by omega)]; rfl
  unfold l02BitmapCounts.f
  rw [few_two _ _ (by omega), Option.bind_some]
  by_cases hl : xs.length ≤ 20 ∧ ys.length ≤ 20
  rotate_left
  · rw [if_neg (by simpa using hl), hj]
  rw [if_pos (by simpa using hl), rcheck_eq hx (by omega), Option.bind_some]
  by_cases h1 : good n xs = true
  rotate_left
  · rw [if_neg h1, if_neg (by decide), hj]
  rw [if_pos h1, if_pos rfl, rcheck_eq hy (by omega), Option.bind_some]
  by_cases h2 : good m ys = true
  rotate_left
  · rw [if_neg h2, if_neg (by decide), hj]
  rw [if_pos h2, if_pos rfl]
  by_cases h3 : n = m
  rotate_left
  · rw [show (n != m) = true by simpa using h3, hj]
  subst h3
  have gx := (good_iff _ _).1 h1
  have gy := (good_iff _ _).1 h2
  have hll : xs.length = ys.length := by have := gx.len; have := gy.len; omega
  have go := good_zipB (op := .or) (.inl rfl) hx hy gx gy
  have ga := good_zipB (op := .and) (.inr (.inl rfl)) hx hy gx gy
  have gn := good_zipB (op := .andNot) (.inr (.inr rfl)) hx hy gx gy
  have e1 : bOr.f n xs n ys = some (n, zipB .or xs ys, 0) := by rw [← bBoth_good gx gy]; rfl
  have e2 : bAnd.f n xs n ys = some (n, zipB .and xs ys, 0) := by rw [← bBoth_good gx gy]; rfl
  have e3 : bAndNot.f n xs n ys = some (n, zipB .andNot xs ys, 0) := by rw [← bBoth_good gx gy]; rfl
  have e4 : bOr.f n (zipB .andNot xs ys) n (zipB .and xs ys) = some (n, xs, 0) := by
    have := bBoth_good (op := .or) gn ga
    rw [back_eq hx hy hll] at this
    rw [← this]; rfl
  have le := gx.le
  have c1 := cnt_or_and hx hy hll n.toNat (by omega)
  have c2 := cnt_andNot hx hy hll n.toNat (by omega)
  have b1 := cntR_le xs n.toNat
  have b2 := cntR_le ys n.toNat
  have hi := gx.hi
  have k1 : ∀ {q}, 5000 ≤ q → ∀ zs, U zs → Good n zs → bCount.f q n zs = some (cntR zs n.toNat : Int) := fun hq zs hz gz => by
    rw [bcount_eq hz hq]; unfold countS; rw [if_pos ((good_iff _ _).2 gz)]
  rw [show (n != n) = false by simp, l02BitmapCounts.j0, if_neg (by decide), e1, Option.bind_some, e2, Option.bind_some, e3, Option.bind_some]
  simp only
  rw [e4, Option.bind_some]
  simp only
  rw [if_pos trivial, if_pos trivial, if_pos trivial, show ((0 : Int) != 0) = false from rfl, l02BitmapCounts.j1, if_neg (by decide), awake_eq (by omega), Option.bind_some, if_pos rfl,
    k1 (by omega) _ (zipB_U (.inl rfl) _ _) go, Option.bind_some, k1 (by omega) _ (zipB_U (.inr (.inl rfl)) _ _) ga, Option.bind_some, k1 (by omega) _ hx gx, Option.bind_some, k1 (by omega) _ hy gy, Option.bind_some,
    if_pos (by congr 1; omega), same_eq _ _ (by omega) (by omega), Option.bind_some, if_pos rfl, k1 (by omega) _ (zipB_U (.inr (.inr rfl)) _ _) gn, Option.bind_some, Option.bind_some, Option.bind_some]
  rw [w64 _ (by omega) (by omega)]
  congr 1
  rw [beq_iff_eq]
  omega
end Go.Proofs.YthpldfjjdmjcoaaDoor.P

namespace Go.Proofs.YthpldfjjdmjcoaaDoor.P
open Go.ChangeShapes Go.WideShapes Go.ChangeAt Go.RowKit
theorem gTab : Tryd.prog.globalNamed "math/bits.deBruijn64tab" = some 0 := by kernel_rfl
theorem gTabType : (Tryd.prog.globals[0]?).map (·.type) = some 72 := by kernel_rfl
theorem cells72 : Tryd.prog.cellsOf 72 = 64 := by kernel_rfl
theorem cells5 : Tryd.prog.cellsOf 5 = 1 := by kernel_rfl
theorem table {W : World} (h : laidMetH Tryd.prog [("math/bits.deBruijn64tab", Rows.laid_math_bits_deBruijn64tab)] W) : Lib.TabIs Tryd.prog W "math/bits.deBruijn64tab" .u8 (Lib.deBruijn64tab.map Int.ofNat) :=
  Lib.tabIs_of_head (rest := []) gTab gTabType Tryd.underlying72 Tryd.underlying5 cells5 cells72 h
theorem tabOK {W : World} (h : laidMetH Tryd.prog [("math/bits.deBruijn64tab", Rows.laid_math_bits_deBruijn64tab)] W) : TabOK W := by
  have hc : ∀ j, j < Lib.deBruijn64tab.length → W.cell? ⟨0, j, none⟩ = some (.int .u8 (Lib.deBruijn64tab.getD j 0)) := fun j hj => by
    have := (table h).cell gTab j (by rw [List.length_map]; exact hj)
    rw [this, List.getD_eq_getElem?_getD, List.getElem?_map, List.getElem?_eq_getElem hj, List.getD_eq_getElem?_getD, List.getElem?_eq_getElem hj]
    rfl
  exact ⟨World.block_lt_of_cell? W _ (hc 0 (by decide)), hc⟩
/-- A world for the witness: the settled one, the table (block 0) holding what its initialiser lays. -/
noncomputable def laidWorld (os : Os) : World :=
  { World.holding Tryd.prog os ⟨#[], #[], []⟩ with heap := (World.holding Tryd.prog os ⟨#[], #[], []⟩).heap.modify 0 fun
      | .cells _ t frozen => .cells (Lib.deBruijn64tab.map fun n => Value.int .u8 (Int.ofNat n)).toArray t frozen
      | o => o }
end Go.Proofs.YthpldfjjdmjcoaaDoor.P
