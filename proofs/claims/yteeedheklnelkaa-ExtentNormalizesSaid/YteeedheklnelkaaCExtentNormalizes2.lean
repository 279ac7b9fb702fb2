/-
  Parts of the proof of the law ExtentNormalizes (part 2): what the functions it reaches come to, and the plain law. Conditions: those that each theorem names.
-/
import Derived.Test.YteeedheklnelkaaCExtentNormalizes1
namespace Go.Proofs.Yteeedheklnelkaa.P
open Go.RowKit Go.Proofs.YteeedheklnelkaaW.PrintWords Go.Proofs.YteeedheklnelkaaW.PrintLast Go.Proofs.YteeedheklnelkaaW.PrintMore
attribute [local go_sem] max2_int min2_int max_two min_two max_three min_three max_four min_four   -- for this text's walks alone
set_option linter.unusedVariables false
set_option linter.unusedSimpArgs false
mutual
def xSplit.l0 : Nat → Int → List (S40) → List (S40) → Int → Int → Option ((List (S40)) × Int)
  | 0, _, _, _, _, _ => none
  | k + 1, x1, x6, x12, x13, x14 => if x14 < x13 then (if 0 ≤ x14 then (if x14 < (x12.length : Int) then (xSplit.l1 k x1 x6 x12 x13 x14 ((rd_T40 x12 x14).f0) ((rd_T40 x12 x14).f1)) else (none)) else (none)) else (some (x6, 0))
def xSplit.l1 : Nat → Int → List (S40) → List (S40) → Int → Int → Int → Int → Option ((List (S40)) × Int)
  | 0, _, _, _, _, _, _, _ => none
  | k + 1, x1, x6, x12, x13, x14, x199000, x199001 => if x199001 > x1 then (if x6.length < 8796093022208 then (xSplit.l1 k x1 (x6 ++ [(⟨x199000, x1⟩ : S40)]) x12 x13 x14 (wrap64 (x199000 + x1)) (wrap64 (x199001 - x1))) else (none)) else (if x6.length < 8796093022208 then (xSplit.l0 k x1 (x6 ++ [(⟨x199000, x199001⟩ : S40)]) x12 x13 (wrap64 (x14 + 1))) else (none))
end
def xSplit.f (k : Nat) (l0 : List (S40)) (a1 : Int) : Option ((List (S40)) × Int) := if a1 ≤ 0 then (some (([] : List (S40)), 1)) else ((xUnion.f l0 ([] : List (S40))).bind fun t194 => (xSplit.l0 k a1 ([] : List (S40)) t194 (t194.length : Int) 0))
theorem xSplit.mono_l : ∀ k, (∀ y0 y1 y2 y3 y4, LeO (xSplit.l0 k y0 y1 y2 y3 y4) (xSplit.l0 (k + 1) y0 y1 y2 y3 y4)) ∧ (∀ y0 y1 y2 y3 y4 y5 y6, LeO (xSplit.l1 k y0 y1 y2 y3 y4 y5 y6) (xSplit.l1 (k + 1) y0 y1 y2 y3 y4 y5 y6))
  | 0 => ⟨fun _ _ _ _ _ r h => by simp [xSplit.l0] at h, fun _ _ _ _ _ _ _ r h => by simp [xSplit.l1] at h⟩
  | k + 1 => by
    obtain ⟨ih0, ih1⟩ := xSplit.mono_l k
    refine ⟨?_, ?_⟩
    · intro y0 y1 y2 y3 y4
      unfold xSplit.l0
      repeat' first
      | (with_reducible exact ih0 _ _ _ _ _)
      | (with_reducible exact ih1 _ _ _ _ _ _ _)
      | (with_reducible exact LeO.refl _)
      | (with_reducible exact LeO.none _)
      | (with_reducible refine LeO.ite ?_ ?_)
      | (with_reducible refine LeO.bind ?_ (fun _ => ?_))
      | exact ih0 _ _ _ _ _
      | exact ih1 _ _ _ _ _ _ _
      | exact LeO.none _
      | refine LeO.ite ?_ ?_
      | refine LeO.bind ?_ (fun _ => ?_)
    · intro y0 y1 y2 y3 y4 y5 y6
      unfold xSplit.l1
      repeat' first
      | (with_reducible exact ih0 _ _ _ _ _)
      | (with_reducible exact ih1 _ _ _ _ _ _ _)
      | (with_reducible exact LeO.refl _)
      | (with_reducible exact LeO.none _)
      | (with_reducible refine LeO.ite ?_ ?_)
      | (with_reducible refine LeO.bind ?_ (fun _ => ?_))
      | exact ih0 _ _ _ _ _
      | exact ih1 _ _ _ _ _ _ _
      | exact LeO.none _
      | refine LeO.ite ?_ ?_
      | refine LeO.bind ?_ (fun _ => ?_)
theorem xSplit.mono : ∀ a0 a1 k, LeO (xSplit.f k a0 a1) (xSplit.f (k + 1) a0 a1) := by
  intro a0 a1 k
  obtain ⟨ih0, ih1⟩ := xSplit.mono_l k
  unfold xSplit.f
  repeat' first
      | (with_reducible exact ih0 _ _ _ _ _)
      | (with_reducible exact ih1 _ _ _ _ _ _ _)
      | (with_reducible exact LeO.refl _)
      | (with_reducible exact LeO.none _)
      | (with_reducible refine LeO.ite ?_ ?_)
      | (with_reducible refine LeO.bind ?_ (fun _ => ?_))
      | exact ih0 _ _ _ _ _
      | exact ih1 _ _ _ _ _ _ _
      | exact LeO.none _
      | refine LeO.ite ?_ ?_
      | refine LeO.bind ?_ (fun _ => ?_)
set_option maxHeartbeats 8000000 in
set_option maxRecDepth 100000 in
theorem xSplit.calls (k : Nat) (A0 : Option Addr) (c0 : Nat) (l0 : List (S40)) (a1 : Int) (r1 : List (S40)) (r2 : Int) (w : World) (hr0 : Kd.C k40 w A0 l0.length l0) (hc0 : l0.length ≤ c0) (h : xSplit.f k l0 a1 = some (r1, r2)) :
    Calls Try.prog 23 #[.slice A0 l0.length c0, .int .i64 a1] w fun e w' => ∃ v0_ : Value, e = .returned (.tuple #[v0_, .int .i64 r2]) ∧ Kd.R k40 40 w' w.heap.size (fun _ => True) v0_ r1 ∧ Below w.heap.size w w' := by
  have hu40 := Try.underlying40
  have HR0 := Aside0.mk hr0
  have HC0 := Aside0.mk hc0
  clear hr0 hc0
  have HB := Aside0.mk (Below.refl w.heap.size w)
  have H : (if a1 ≤ 0 then (some (([] : List (S40)), 1)) else ((xUnion.f l0 ([] : List (S40))).bind fun t194 => (xSplit.l0 k a1 ([] : List (S40)) t194 (t194.length : Int) 0))) = some (r1, r2) := h
  clear h
  by_cases c3 : a1 ≤ 0
  · rw [if_pos c3] at H
    have c3b0 : decide (a1 ≤ 0) = true := decide_eq_true c3
    clear c3
    simp only [Option.some.injEq, Prod.mk.injEq] at H
    obtain ⟨rfl, rfl⟩ := H
    go_enter Try.func23, Try.ntmps23
    go_wp2
    go_ret2
    exact ⟨_, by first | rfl | (simp [errW_none, errW_some] <;> rfl) | (simp [*, errW_none, errW_some] <;> rfl), by first | exact Kd.R_nil _ _ _ _ _ | exact Kd.N_nil _ _ _ _ _ | exact Kd.V_nil _ _ _ _ _ | exact Kd.Q_nil _ _ _ _ _ | exact Kd.S_nil _ _ _ _ _, by repeat (first | (with_reducible first | exact HB.out | apply below_alloc | apply pw_below_drewN | apply below_drew1) | exact HB.out)⟩
  · rw [if_neg c3] at H
    have c3b0 : decide (a1 ≤ 0) = false := decide_eq_false c3
    clear c3
    replace H := Option.bind_eq_some_iff.mp H
    obtain ⟨t194, A40, H⟩ := H
    replace H : (xSplit.l0 k a1 ([] : List (S40)) t194 (t194.length : Int) 0) = some (r1, r2) := H
    have A4 := Aside0.mk A40
    clear A40
    have H' := Aside0.mk H
    clear H
    go_enter Try.func23, Try.ntmps23
    go_wp2_with (first | ((with_reducible refine gate_callee (f := 25) rfl ?_); refine goesL_ (some 12) rfl rfl Try.func25 (by kernel_rfl) rfl #[.slice A0 l0.length c0, .slice none 0 0] rfl (by (try simp only [List.map_toArray, List.map_cons, List.map_nil]); first | done | rfl | (simp only [List.length_drop, List.length_take]; rfl)) ?_; (refine (xUnion.calls _ _ l0 _ _ ([] : List (S40)) t194 _ ?side1 ?side2 ?side3 ?side4 A4.out).mono ?_); (case side1 => repeat (first | exact HR0.out | (with_reducible refine Kd.C_alloc ?_ _) | (with_reducible refine Kd.C_drewN ?_ _) | (with_reducible refine Kd.C_drew ?_))); (case side2 => exact HC0.out); (case side3 => exact Kd.C_nil _ _); (case side4 => exact Nat.le_refl _); rintro e w5 ⟨v195, rfl, ho0, hb⟩; refine ⟨_, rfl, ?_⟩; have n0_ := Aside0.mk (Kd.R_lower ho0 (below_size (by repeat (first | (with_reducible first | exact HB.out | apply below_alloc | apply pw_below_drewN | apply below_drew1) | exact HB.out)))); have n1_ := Aside0.mk (below_step (by repeat (first | (with_reducible first | exact HB.out | apply below_alloc | apply pw_below_drewN | apply below_drew1) | exact HB.out)) hb); clear HB; have HO196 := n0_; have HB := n1_; clear n0_ n1_; (try clear hb); (try clear hb2); (try clear hk); (try clear hi); (try clear ho0); obtain ⟨Ao6, co6, eo6⟩ := Kd.R_slice HO196.out; subst eo6))
    go_loopg [6, 14] k (fun kq v6 v14 w' => ∃ (x6_1 : List (S40)) (x14_1 : Int), v14 = .int .i64 x14_1 ∧ Aside0 (xSplit.l0 kq a1 x6_1 t194 (t194.length : Int) x14_1 = some (r1, r2)) ∧ Aside0 (kq ≤ k) ∧ Aside0 (Kd.R k40 40 w' w.heap.size (fun k_ => some k_ ≠ ((.slice Ao6 t194.length co6) : Value).ownBlock) v6 x6_1) ∧ Aside0 (Kd.R k40 40 w' w.heap.size (fun k_ => some k_ ≠ (v6 : Value).ownBlock) (.slice Ao6 t194.length co6) t194) ∧ Aside0 (Below w.heap.size w w'))
    case atStart => exact ⟨(([] : List (S40))), (0), (by first | rfl | (simp; done) | (simp [*]; done)), H', ⟨Nat.le_refl _⟩, ⟨by first | exact Kd.R_nil _ _ _ _ _ | exact Kd.N_nil _ _ _ _ _ | exact Kd.V_nil _ _ _ _ _ | exact Kd.Q_nil _ _ _ _ _ | exact Kd.S_nil _ _ _ _ _⟩, ⟨by (with_reducible repeat (first | apply Kd.R_alloc | apply Kd.R_drewN | apply Kd.R_drew)); exact Kd.R_mono HO196.out (fun _ hk => (by simp [Value.ownBlock]))⟩, ⟨by repeat (first | (with_reducible first | exact HB.out | apply below_alloc | apply pw_below_drewN | apply below_drew1) | exact HB.out)⟩⟩
    case round =>
      clear H'
      try clear c2
      try clear p2
      try clear c3
      try clear c3b0
      obtain ⟨x6_1, x14_1, rfl, HA, HK1, HO_6, HO_12, HB⟩ := hrel
      cases gk with
      | zero => exact absurd HA.out (by simp [xSplit.l0])
      | succ k1 =>
        have H := HA.out
        clear HA
        simp only [xSplit.l0] at H
        by_cases c7 : x14_1 < (t194.length : Int)
        · rw [if_pos c7] at H
          have c7b0 : decide (x14_1 < (t194.length : Int)) = true := decide_eq_true c7
          clear c7
          by_cases c8 : 0 ≤ x14_1
          · rw [if_pos c8] at H
            have c8b0 : decide (0 ≤ x14_1) = true := decide_eq_true c8
            clear c8
            by_cases c9 : x14_1 < (t194.length : Int)
            · rw [if_pos c9] at H
              have c9b0 : decide (x14_1 < (t194.length : Int)) = true := decide_eq_true c9
              clear c9
              have H' := Aside0.mk H
              clear H
              have p197 : 0 ≤ (x14_1 : Int) := of_decide_eq_true (by first | (with_reducible assumption) | assumption)
              have q197 : x14_1 < (t194.length : Int) := of_decide_eq_true (by first | (with_reducible assumption) | assumption)
              obtain ⟨ad197, e197, hx197_0, hx197_1⟩ := at_T40 (Kd.R_reads' HO_12.out).2.2 x14_1 p197 q197
              cases e197
              replace p197 := eq_true p197
              replace q197 := eq_true q197
              go_wp2_with (first | ((with_reducible refine gate_dst (N := 8) rfl ?_); refine box_event ?hg (N := 8) ?hd (cs := #[.int .i64 0, .int .i64 0]) (t := 40) ?hr ?_; (case hd => rfl); (case hg => rfl); (case hr => first | (go_simp; done) | (go_simp; rfl)); intro gb198 hg w10 hbox hb; have n0_ := Aside0.mk (Kd.R_below (Kd.R_elderB (by (with_reducible repeat (first | apply Kd.R_alloc | apply Kd.R_drewN | apply Kd.R_drew)); exact HO_6.out) gb198 (Nat.le_of_eq hg.symm)) hb); have n1_ := Aside0.mk (Kd.R_below (Kd.R_elderB (by (with_reducible repeat (first | apply Kd.R_alloc | apply Kd.R_drewN | apply Kd.R_drew)); exact HO_12.out) gb198 (Nat.le_of_eq hg.symm)) hb); have n2_ := Aside0.mk (below_step (by repeat (first | (with_reducible first | exact HB.out | apply below_alloc | apply pw_below_drewN | apply below_drew1) | exact HB.out)) hb); have n3_ := Aside0.mk (hbox); have n4_ := Aside0.mk ((by rw [hg]; exact (below_size (by repeat (first | (with_reducible first | exact HB.out | apply below_alloc | apply pw_below_drewN | apply below_drew1) | exact HB.out))) : w.heap.size ≤ gb198)); have n5_ := Aside0.mk ((by rw [hg]; exact (below_size (by repeat (first | (with_reducible first | exact HB.out | apply below_alloc | apply pw_below_drewN | apply below_drew1) | exact HB.out))) : w.heap.size ≤ gb198)); clear HO_6; clear HO_12; clear HB; have HO_6 := n0_; have HO_12 := n1_; have HB := n2_; have BK198 := n3_; have GW198 := n4_; have GE198 := n5_; clear n0_ n1_ n2_ n3_ n4_ n5_; clear hb hbox hg; have hcz11_0 : w10.cell? ⟨gb198, 0, none⟩ = some (.int .i64 0) := (blk_cell BK198.out 0).trans rfl; have hcz11_1 : w10.cell? ⟨gb198, 1, none⟩ = some (.int .i64 0) := (blk_cell BK198.out 1).trans rfl; have hfz11_0 := blk_frozen BK198.out 0; have hfz11_1 := blk_frozen BK198.out 1))
              go_loopg [6] k1 (fun kq v6 w' => ∃ (x6_2 : List (S40)) (x199000_2 : Int) (x199001_2 : Int), Aside0 (xSplit.l1 kq a1 x6_2 t194 (t194.length : Int) x14_1 x199000_2 x199001_2 = some (r1, r2)) ∧ Aside0 (kq ≤ k1) ∧ Aside0 (Kd.R k40 40 w' w.heap.size (fun k_ => some k_ ≠ ((.slice (some ad197) t194.length co6) : Value).ownBlock ∧ k_ ≠ gb198) v6 x6_2) ∧ Aside0 (Kd.R k40 40 w' w.heap.size (fun k_ => some k_ ≠ (v6 : Value).ownBlock ∧ k_ ≠ gb198) (.slice (some ad197) t194.length co6) t194) ∧ Aside0 (w'.heap[gb198]? = some (.cells #[.int .i64 x199000_2, .int .i64 x199001_2] 40 (0, 0))) ∧ Aside0 (Below w.heap.size w w'))
              case atStart => exact ⟨(x6_1), ((rd_T40 t194 x14_1).f0), ((rd_T40 t194 x14_1).f1), H', ⟨Nat.le_refl _⟩, ⟨by (with_reducible repeat (first | apply Kd.R_alloc | apply Kd.R_drewN | apply Kd.R_drew)); exact Kd.R_mono (Kd.R_far (p := ⟨gb198, 1, none⟩) (Kd.R_far (p := ⟨gb198, 0, none⟩) (Kd.R_mono HO_6.out (fun k_ hk => (⟨hk, hk.2⟩ : _ ∧ k_ ≠ gb198))) (fun _ hk => hk.2) (.int .i64 ((rd_T40 t194 x14_1).f0))) (fun _ hk => hk.2) (.int .i64 ((rd_T40 t194 x14_1).f1))) (fun _ hk => by first | exact ⟨hk.1.1, hk.1.2⟩ | (revert hk; simp only [and_imp]; intros; (repeat' (first | assumption | apply And.intro)); done))⟩, ⟨by (with_reducible repeat (first | apply Kd.R_alloc | apply Kd.R_drewN | apply Kd.R_drew)); exact Kd.R_mono (Kd.R_far (p := ⟨gb198, 1, none⟩) (Kd.R_far (p := ⟨gb198, 0, none⟩) (Kd.R_mono HO_12.out (fun k_ hk => (⟨hk, hk.2⟩ : _ ∧ k_ ≠ gb198))) (fun _ hk => hk.2) (.int .i64 ((rd_T40 t194 x14_1).f0))) (fun _ hk => hk.2) (.int .i64 ((rd_T40 t194 x14_1).f1))) (fun _ hk => by first | exact ⟨hk.1.1, hk.1.2⟩ | (revert hk; simp only [and_imp]; intros; (repeat' (first | assumption | apply And.intro)); done))⟩, ⟨by (with_reducible repeat (first | refine blk_drewN ?_ _ | refine blk_drew ?_ | refine blk_alloc ?_ _)); refine blk_put (cs := #[.int .i64 ((rd_T40 t194 x14_1).f0), .int .i64 0]) ?_ 1 _ rfl; (with_reducible repeat (first | refine blk_drewN ?_ _ | refine blk_drew ?_ | refine blk_alloc ?_ _)); refine blk_put (cs := #[.int .i64 0, .int .i64 0]) ?_ 0 _ rfl; (with_reducible repeat (first | refine blk_drewN ?_ _ | refine blk_drew ?_ | refine blk_alloc ?_ _)); exact BK198.out⟩, ⟨by repeat (first | (with_reducible first | exact HB.out | apply below_alloc | apply pw_below_drewN | apply below_drew1 | refine below_set ?_ GE198.out) | exact HB.out)⟩⟩
              case round =>
                clear H'
                try clear p1
                try clear q1
                try clear hx1
                try clear c2
                try clear p2
                try clear c3
                try clear c3b0
                try clear c7
                try clear c7b0
                try clear c8
                try clear c8b0
                try clear c9
                try clear c9b0
                try clear hcz11_0
                try clear hcz11_1
                try clear hfz11_0
                try clear hfz11_1
                try clear hx197_0
                try clear hx197_1
                try clear p197
                try clear p2
                try clear q197
                obtain ⟨x6_2, x199000_2, x199001_2, HA, HK2, HO_6, HO_12, BK198, HB⟩ := hrel
                cases gk with
                | zero => exact absurd HA.out (by simp [xSplit.l1])
                | succ k2 =>
                  have H := HA.out
                  clear HA
                  simp only [xSplit.l1] at H
                  by_cases c12 : x199001_2 > a1
                  · rw [if_pos c12] at H
                    have c12b0 : decide (a1 < x199001_2) = true := decide_eq_true c12
                    clear c12
                    by_cases c13 : x6_2.length < 8796093022208
                    · rw [if_pos c13] at H
                      have LMc13 := Aside0.mk c13
                      clear c13
                      obtain ⟨y199, hy199⟩ : ∃ y_ : List (S40), y_ = (x6_2 ++ [(⟨x199000_2, a1⟩ : S40)]) := ⟨_, rfl⟩
                      replace H : (xSplit.l1 k2 a1 y199 t194 (t194.length : Int) x14_1 (wrap64 (x199000_2 + a1)) (wrap64 (x199001_2 - a1))) = some (r1, r2) := by first | (rw [hy199]; with_reducible exact H) | (have H2_ := (Option.bind_some _ _).symm.trans H; rw [hy199]; with_reducible exact H2_) | (have H2_ := (Option.bind_some _ _).symm.trans H; with_reducible exact H2_) | with_reducible exact H | (rw [hy199]; exact H) | exact H
                      have Ny199 := Aside0.mk hy199
                      clear hy199
                      have H' := Aside0.mk H
                      clear H
                      have hcz14_0 : wr.cell? ⟨gb198, 0, none⟩ = some (.int .i64 x199000_2) := (blk_cell BK198.out 0).trans rfl
                      have hcz14_1 : wr.cell? ⟨gb198, 1, none⟩ = some (.int .i64 x199001_2) := (blk_cell BK198.out 1).trans rfl
                      have hfz14_0 := blk_frozen BK198.out 0
                      have hfz14_1 := blk_frozen BK198.out 1
                      go_wp2_with (first | ((with_reducible refine gate_builtin (b := .append) (xs := #[.tmp 22, .tmp 27]) rfl ?_); at_builtin; refine Kd.R_append k40 (w0 := w) w.heap.size rfl (.tmp 22) (.tmp 27) 22 40 (.agg #[(.int .i64 0), (.int .i64 0)]) 16 rfl Try.underlying22 info40 rfl (by decide) (by omega) u6 x6_2 (⟨x199000_2, a1⟩ : S40) [.int .i64 x199000_2, .int .i64 a1] (fun k_ => some k_ ≠ (.slice (some ad197) t194.length co6 : Value).ownBlock ∧ k_ ≠ gb198) (fun _ => False) rfl rfl ?aP (fun _ hk => hk.elim) ?aF ?aO ?aB ?aS ?aL ?_; (case aP => exact k40_mkM _ _ _ (⟨x199000_2, a1⟩ : S40)); (case aB => exact (by repeat (first | (with_reducible first | exact HB.out | apply below_alloc | apply pw_below_drewN | apply below_drew1 | refine below_set ?_ GE198.out) | exact HB.out))); (case aF => exact (fun k_ hk => ⟨Kd.fresh' (Kd.R_lt (by (with_reducible repeat (first | apply Kd.R_alloc | apply Kd.R_drewN | apply Kd.R_drew)); exact HO_12.out)) k_ hk, Kd.freshB (g := gb198) (o := .cells #[.int .i64 x199000_2, .int .i64 x199001_2] 40 (0, 0)) (by (with_reducible repeat (first | refine blk_drewN ?_ _ | refine blk_drew ?_ | refine blk_alloc ?_ _)); exact BK198.out) k_ hk⟩)); (case aO => exact (by (with_reducible repeat (first | apply Kd.R_alloc | apply Kd.R_drewN | apply Kd.R_drew)); exact HO_6.out)); (case aS => exact (below_size (by repeat (first | (with_reducible first | exact HB.out | apply below_alloc | apply pw_below_drewN | apply below_drew1 | refine below_set ?_ GE198.out) | exact HB.out)))); (case aL => have := LMc13.out; omega); intro v200 w15 ho hb hg hat; rw [← Ny199.out] at ho; have n0_ := Aside0.mk (Kd.R_after (ok := (fun k_ => k_ ≠ gb198)) (by (with_reducible repeat (first | apply Kd.R_alloc | apply Kd.R_drewN | apply Kd.R_drew)); exact Kd.R_mono HO_12.out (fun _ hk => by first | exact ⟨hk.2, hk.1⟩ | (revert hk; simp only [and_imp]; intros; (repeat' (first | assumption | apply And.intro)); done))) hg hat); have n1_ := Aside0.mk (blk_grown (g := gb198) (o := .cells #[.int .i64 x199000_2, .int .i64 x199001_2] 40 (0, 0)) (by (with_reducible repeat (first | refine blk_drewN ?_ _ | refine blk_drew ?_ | refine blk_alloc ?_ _)); exact BK198.out) hg (Kd.R_away HO_6.out (fun _ hk => hk.2))); have n2_ := Aside0.mk (hb); have n3_ := Aside0.mk (ho); clear HO_12; clear BK198; clear HB; clear HO_6; have HO_12 := n0_; have BK198 := n1_; have HB := n2_; have HO201 := n3_; clear n0_ n1_ n2_ n3_; clear ho hb hg hat; have hcz16_0 : w15.cell? ⟨gb198, 0, none⟩ = some (.int .i64 x199000_2) := (blk_cell BK198.out 0).trans rfl; have hcz16_1 : w15.cell? ⟨gb198, 1, none⟩ = some (.int .i64 x199001_2) := (blk_cell BK198.out 1).trans rfl; have hfz16_0 := blk_frozen BK198.out 0; have hfz16_1 := blk_frozen BK198.out 1))
                      go_roundg k2
                      case measure => have := HK1.out; have := HK2.out; omega
                      case rel => exact ⟨(y199), (wrap64 (x199000_2 + a1)), (wrap64 (x199001_2 - a1)), H', ⟨by have := HK1.out; have := HK2.out; omega⟩, ⟨by (with_reducible repeat (first | apply Kd.R_alloc | apply Kd.R_drewN | apply Kd.R_drew)); exact Kd.R_mono (Kd.R_far (p := ⟨gb198, 1, none⟩) (Kd.R_far (p := ⟨gb198, 0, none⟩) (Kd.R_mono HO201.out (fun k_ hk => (⟨hk, hk.2⟩ : _ ∧ k_ ≠ gb198))) (fun _ hk => hk.2) (.int .i64 (wrap64 (x199000_2 + a1)))) (fun _ hk => hk.2) (.int .i64 (wrap64 (x199001_2 - a1)))) (fun _ hk => by first | exact ⟨hk.1.1, hk.1.2⟩ | (revert hk; simp only [and_imp]; intros; (repeat' (first | assumption | apply And.intro)); done))⟩, ⟨by (with_reducible repeat (first | apply Kd.R_alloc | apply Kd.R_drewN | apply Kd.R_drew)); exact Kd.R_mono (Kd.R_far (p := ⟨gb198, 1, none⟩) (Kd.R_far (p := ⟨gb198, 0, none⟩) (Kd.R_mono HO_12.out (fun k_ hk => (⟨hk, hk.1⟩ : _ ∧ k_ ≠ gb198))) (fun _ hk => hk.2) (.int .i64 (wrap64 (x199000_2 + a1)))) (fun _ hk => hk.2) (.int .i64 (wrap64 (x199001_2 - a1)))) (fun _ hk => by first | exact ⟨hk.1.2, hk.1.1⟩ | (revert hk; simp only [and_imp]; intros; (repeat' (first | assumption | apply And.intro)); done))⟩, ⟨by (with_reducible repeat (first | refine blk_drewN ?_ _ | refine blk_drew ?_ | refine blk_alloc ?_ _)); refine blk_put (cs := #[.int .i64 (wrap64 (x199000_2 + a1)), .int .i64 x199001_2]) ?_ 1 _ rfl; (with_reducible repeat (first | refine blk_drewN ?_ _ | refine blk_drew ?_ | refine blk_alloc ?_ _)); refine blk_put (cs := #[.int .i64 x199000_2, .int .i64 x199001_2]) ?_ 0 _ rfl; (with_reducible repeat (first | refine blk_drewN ?_ _ | refine blk_drew ?_ | refine blk_alloc ?_ _)); exact BK198.out⟩, ⟨by repeat (first | (with_reducible first | exact HB.out | apply below_alloc | apply pw_below_drewN | apply below_drew1 | refine below_set ?_ GE198.out) | exact HB.out)⟩⟩
                    · rw [if_neg c13] at H
                      exact absurd H (by simp)
                  · rw [if_neg c12] at H
                    have c12b0 : decide (a1 < x199001_2) = false := decide_eq_false c12
                    clear c12
                    by_cases c17 : x6_2.length < 8796093022208
                    · rw [if_pos c17] at H
                      have LMc17 := Aside0.mk c17
                      clear c17
                      obtain ⟨y202, hy202⟩ : ∃ y_ : List (S40), y_ = (x6_2 ++ [(⟨x199000_2, x199001_2⟩ : S40)]) := ⟨_, rfl⟩
                      replace H : (xSplit.l0 k2 a1 y202 t194 (t194.length : Int) (wrap64 (x14_1 + 1))) = some (r1, r2) := by first | (rw [hy202]; with_reducible exact H) | (have H2_ := (Option.bind_some _ _).symm.trans H; rw [hy202]; with_reducible exact H2_) | (have H2_ := (Option.bind_some _ _).symm.trans H; with_reducible exact H2_) | with_reducible exact H | (rw [hy202]; exact H) | exact H
                      have Ny202 := Aside0.mk hy202
                      clear hy202
                      have H' := Aside0.mk H
                      clear H
                      have hcz18_0 : wr.cell? ⟨gb198, 0, none⟩ = some (.int .i64 x199000_2) := (blk_cell BK198.out 0).trans rfl
                      have hcz18_1 : wr.cell? ⟨gb198, 1, none⟩ = some (.int .i64 x199001_2) := (blk_cell BK198.out 1).trans rfl
                      have hfz18_0 := blk_frozen BK198.out 0
                      have hfz18_1 := blk_frozen BK198.out 1
                      go_wp2_with (first | ((with_reducible refine gate_builtin (b := .append) (xs := #[.tmp 39, .tmp 41]) rfl ?_); at_builtin; refine Kd.R_append k40 (w0 := w) w.heap.size rfl (.tmp 39) (.tmp 41) 22 40 (.agg #[(.int .i64 0), (.int .i64 0)]) 16 rfl Try.underlying22 info40 rfl (by decide) (by omega) u6 x6_2 (⟨x199000_2, x199001_2⟩ : S40) [.int .i64 x199000_2, .int .i64 x199001_2] (fun k_ => some k_ ≠ (.slice (some ad197) t194.length co6 : Value).ownBlock ∧ k_ ≠ gb198) (fun _ => False) rfl rfl ?aP (fun _ hk => hk.elim) ?aF ?aO ?aB ?aS ?aL ?_; (case aP => exact k40_mkM _ _ _ (⟨x199000_2, x199001_2⟩ : S40)); (case aB => exact (by repeat (first | (with_reducible first | exact HB.out | apply below_alloc | apply pw_below_drewN | apply below_drew1 | refine below_set ?_ GE198.out) | exact HB.out))); (case aF => exact (fun k_ hk => ⟨Kd.fresh' (Kd.R_lt (by (with_reducible repeat (first | apply Kd.R_alloc | apply Kd.R_drewN | apply Kd.R_drew)); exact HO_12.out)) k_ hk, Kd.freshB (g := gb198) (o := .cells #[.int .i64 x199000_2, .int .i64 x199001_2] 40 (0, 0)) (by (with_reducible repeat (first | refine blk_drewN ?_ _ | refine blk_drew ?_ | refine blk_alloc ?_ _)); exact BK198.out) k_ hk⟩)); (case aO => exact (by (with_reducible repeat (first | apply Kd.R_alloc | apply Kd.R_drewN | apply Kd.R_drew)); exact HO_6.out)); (case aS => exact (below_size (by repeat (first | (with_reducible first | exact HB.out | apply below_alloc | apply pw_below_drewN | apply below_drew1 | refine below_set ?_ GE198.out) | exact HB.out)))); (case aL => have := LMc17.out; omega); intro v203 w19 ho hb hg hat; rw [← Ny202.out] at ho; have n0_ := Aside0.mk (Kd.R_after (ok := (fun k_ => k_ ≠ gb198)) (by (with_reducible repeat (first | apply Kd.R_alloc | apply Kd.R_drewN | apply Kd.R_drew)); exact Kd.R_mono HO_12.out (fun _ hk => by first | exact ⟨hk.2, hk.1⟩ | (revert hk; simp only [and_imp]; intros; (repeat' (first | assumption | apply And.intro)); done))) hg hat); have n1_ := Aside0.mk (blk_grown (g := gb198) (o := .cells #[.int .i64 x199000_2, .int .i64 x199001_2] 40 (0, 0)) (by (with_reducible repeat (first | refine blk_drewN ?_ _ | refine blk_drew ?_ | refine blk_alloc ?_ _)); exact BK198.out) hg (Kd.R_away HO_6.out (fun _ hk => hk.2))); have n2_ := Aside0.mk (hb); have n3_ := Aside0.mk (ho); clear HO_12; clear BK198; clear HB; clear HO_6; have HO_12 := n0_; have BK198 := n1_; have HB := n2_; have HO204 := n3_; clear n0_ n1_ n2_ n3_; clear ho hb hg hat))
                      go_roundg k2
                      case measure => have := HK1.out; have := HK2.out; omega
                      case rel => exact ⟨(y202), (wrap64 (x14_1 + 1)), (by first | rfl | (simp; done) | (simp [*]; done)), H', ⟨by have := HK1.out; have := HK2.out; omega⟩, ⟨by (with_reducible repeat (first | apply Kd.R_alloc | apply Kd.R_drewN | apply Kd.R_drew)); exact Kd.R_mono HO204.out (fun _ hk => hk.1)⟩, ⟨by (with_reducible repeat (first | apply Kd.R_alloc | apply Kd.R_drewN | apply Kd.R_drew)); exact Kd.R_mono HO_12.out (fun _ hk => hk.2)⟩, ⟨by repeat (first | (with_reducible first | exact HB.out | apply below_alloc | apply pw_below_drewN | apply below_drew1 | refine below_set ?_ GE198.out) | exact HB.out)⟩⟩
                    · rw [if_neg c17] at H
                      exact absurd H (by simp)
            · rw [if_neg c9] at H
              exact absurd H (by simp)
          · rw [if_neg c8] at H
            exact absurd H (by simp)
        · rw [if_neg c7] at H
          have c7b0 : decide (x14_1 < (t194.length : Int)) = false := decide_eq_false c7
          clear c7
          simp only [Option.some.injEq, Prod.mk.injEq] at H
          obtain ⟨rfl, rfl⟩ := H
          go_wp2
          go_ret2
          exact ⟨_, by first | rfl | (simp [errW_none, errW_some] <;> rfl) | (simp [*, errW_none, errW_some] <;> rfl), by (with_reducible repeat (first | apply Kd.R_alloc | apply Kd.R_drewN | apply Kd.R_drew)); exact Kd.R_mono HO_6.out (fun _ hk => trivial), by repeat (first | (with_reducible first | exact HB.out | apply below_alloc | apply pw_below_drewN | apply below_drew1) | exact HB.out)⟩
def xCount.l0 : Nat → Int → List (S40) → Int → Int → Option (Int)
  | 0, _, _, _, _ => none
  | k + 1, x3, x7, x8, x9 => if x9 < x8 then (if 0 ≤ x9 then (if x9 < (x7.length : Int) then (xCount.l0 k (wrap64 (x3 + ((rd_T40 x7 x9).f1))) x7 x8 (wrap64 (x9 + 1))) else (none)) else (none)) else (some x3)
def xCount.f (k : Nat) (l0 : List (S40)) : Option (Int) := (xUnion.f l0 ([] : List (S40))).bind fun t205 => (xCount.l0 k 0 t205 (t205.length : Int) 0)
theorem xCount.mono_l : ∀ k, (∀ y0 y1 y2 y3, LeO (xCount.l0 k y0 y1 y2 y3) (xCount.l0 (k + 1) y0 y1 y2 y3))
  | 0 => fun _ _ _ _ r h => by simp [xCount.l0] at h
  | k + 1 => by
    have ih0 := xCount.mono_l k
    · intro y0 y1 y2 y3
      unfold xCount.l0
      repeat' first
      | (with_reducible exact ih0 _ _ _ _)
      | (with_reducible exact LeO.refl _)
      | (with_reducible exact LeO.none _)
      | (with_reducible refine LeO.ite ?_ ?_)
      | (with_reducible refine LeO.bind ?_ (fun _ => ?_))
      | exact ih0 _ _ _ _
      | exact LeO.none _
      | refine LeO.ite ?_ ?_
      | refine LeO.bind ?_ (fun _ => ?_)
theorem xCount.mono : ∀ a0 k, LeO (xCount.f k a0) (xCount.f (k + 1) a0) := by
  intro a0 k
  have ih0 := xCount.mono_l k
  unfold xCount.f
  repeat' first
      | (with_reducible exact ih0 _ _ _ _)
      | (with_reducible exact LeO.refl _)
      | (with_reducible exact LeO.none _)
      | (with_reducible refine LeO.ite ?_ ?_)
      | (with_reducible refine LeO.bind ?_ (fun _ => ?_))
      | exact ih0 _ _ _ _
      | exact LeO.none _
      | refine LeO.ite ?_ ?_
      | refine LeO.bind ?_ (fun _ => ?_)
set_option maxHeartbeats 8000000 in
set_option maxRecDepth 100000 in
theorem xCount.calls (k : Nat) (A0 : Option Addr) (c0 : Nat) (l0 : List (S40)) (r : Int) (w : World) (hr0 : Kd.C k40 w A0 l0.length l0) (hc0 : l0.length ≤ c0) (h : xCount.f k l0 = some r) :
    Calls Try.prog 31 #[.slice A0 l0.length c0] w fun e w' => e = .returned (.int .i64 r) ∧ Below w.heap.size w w' := by
  have hu40 := Try.underlying40
  have HR0 := Aside0.mk hr0
  have HC0 := Aside0.mk hc0
  clear hr0 hc0
  have HB := Aside0.mk (Below.refl w.heap.size w)
  have H : ((xUnion.f l0 ([] : List (S40))).bind fun t205 => (xCount.l0 k 0 t205 (t205.length : Int) 0)) = some r := h
  clear h
  replace H := Option.bind_eq_some_iff.mp H
  obtain ⟨t205, A20, H⟩ := H
  replace H : (xCount.l0 k 0 t205 (t205.length : Int) 0) = some r := H
  have A2 := Aside0.mk A20
  clear A20
  have H' := Aside0.mk H
  clear H
  go_enter Try.func31, Try.ntmps31
  go_wp2_with (first | ((with_reducible refine gate_callee (f := 25) rfl ?_); refine goesL_ (some 7) rfl rfl Try.func25 (by kernel_rfl) rfl #[.slice A0 l0.length c0, .slice none 0 0] rfl (by (try simp only [List.map_toArray, List.map_cons, List.map_nil]); first | done | rfl | (simp only [List.length_drop, List.length_take]; rfl)) ?_; (refine (xUnion.calls _ _ l0 _ _ ([] : List (S40)) t205 _ ?side1 ?side2 ?side3 ?side4 A2.out).mono ?_); (case side1 => repeat (first | exact HR0.out | (with_reducible refine Kd.C_alloc ?_ _) | (with_reducible refine Kd.C_drewN ?_ _) | (with_reducible refine Kd.C_drew ?_))); (case side2 => exact HC0.out); (case side3 => exact Kd.C_nil _ _); (case side4 => exact Nat.le_refl _); rintro e w3 ⟨v206, rfl, ho0, hb⟩; refine ⟨_, rfl, ?_⟩; have n0_ := Aside0.mk (Kd.R_lower ho0 (below_size (by repeat (first | (with_reducible first | exact HB.out | apply below_alloc | apply pw_below_drewN | apply below_drew1) | exact HB.out)))); have n1_ := Aside0.mk (below_step (by repeat (first | (with_reducible first | exact HB.out | apply below_alloc | apply pw_below_drewN | apply below_drew1) | exact HB.out)) hb); clear HB; have HO207 := n0_; have HB := n1_; clear n0_ n1_; (try clear hb); (try clear hb2); (try clear hk); (try clear hi); (try clear ho0); obtain ⟨Ao4, co4, eo4⟩ := Kd.R_slice HO207.out; subst eo4))
  go_loopg [3, 9] k (fun kq v3 v9 w' => ∃ (x3_1 : Int) (x9_1 : Int), v3 = .int .i64 x3_1 ∧ v9 = .int .i64 x9_1 ∧ Aside0 (xCount.l0 kq x3_1 t205 (t205.length : Int) x9_1 = some r) ∧ Aside0 (kq ≤ k) ∧ Aside0 (Kd.R k40 40 w' w.heap.size (fun _ => True) (.slice Ao4 t205.length co4) t205) ∧ Aside0 (Below w.heap.size w w'))
  case atStart => exact ⟨(0), (0), (by first | rfl | (simp; done) | (simp [*]; done)), (by first | rfl | (simp; done) | (simp [*]; done)), H', ⟨Nat.le_refl _⟩, ⟨by (with_reducible repeat (first | apply Kd.R_alloc | apply Kd.R_drewN | apply Kd.R_drew)); exact HO207.out⟩, ⟨by repeat (first | (with_reducible first | exact HB.out | apply below_alloc | apply pw_below_drewN | apply below_drew1) | exact HB.out)⟩⟩
  case round =>
    clear H'
    try clear c2
    try clear p2
    try clear c3
    obtain ⟨x3_1, x9_1, rfl, rfl, HA, HK1, HO_7, HB⟩ := hrel
    cases gk with
    | zero => exact absurd HA.out (by simp [xCount.l0])
    | succ k1 =>
      have H := HA.out
      clear HA
      simp only [xCount.l0] at H
      by_cases c5 : x9_1 < (t205.length : Int)
      · rw [if_pos c5] at H
        have c5b0 : decide (x9_1 < (t205.length : Int)) = true := decide_eq_true c5
        clear c5
        by_cases c6 : 0 ≤ x9_1
        · rw [if_pos c6] at H
          have c6b0 : decide (0 ≤ x9_1) = true := decide_eq_true c6
          clear c6
          by_cases c7 : x9_1 < (t205.length : Int)
          · rw [if_pos c7] at H
            have c7b0 : decide (x9_1 < (t205.length : Int)) = true := decide_eq_true c7
            clear c7
            have H' := Aside0.mk H
            clear H
            have p208 : 0 ≤ (x9_1 : Int) := of_decide_eq_true (by first | (with_reducible assumption) | assumption)
            have q208 : x9_1 < (t205.length : Int) := of_decide_eq_true (by first | (with_reducible assumption) | assumption)
            obtain ⟨ad208, e208, hx208_0, hx208_1⟩ := at_T40 (Kd.R_reads' HO_7.out).2.2 x9_1 p208 q208
            cases e208
            replace p208 := eq_true p208
            replace q208 := eq_true q208
            go_wp2_with (first | ((with_reducible refine gate_dst (N := 5) rfl ?_); refine box_event ?hg (N := 5) ?hd (cs := #[.int .i64 0, .int .i64 0]) (t := 40) ?hr ?_; (case hd => rfl); (case hg => rfl); (case hr => first | (go_simp; done) | (go_simp; rfl)); intro gb209 hg w8 hbox hb; have n0_ := Aside0.mk (Kd.R_below (Kd.R_elderB (by (with_reducible repeat (first | apply Kd.R_alloc | apply Kd.R_drewN | apply Kd.R_drew)); exact HO_7.out) gb209 (Nat.le_of_eq hg.symm)) hb); have n1_ := Aside0.mk (below_step (by repeat (first | (with_reducible first | exact HB.out | apply below_alloc | apply pw_below_drewN | apply below_drew1) | exact HB.out)) hb); have n2_ := Aside0.mk (hbox); have n3_ := Aside0.mk ((by rw [hg]; exact (below_size (by repeat (first | (with_reducible first | exact HB.out | apply below_alloc | apply pw_below_drewN | apply below_drew1) | exact HB.out))) : w.heap.size ≤ gb209)); have n4_ := Aside0.mk ((by rw [hg]; exact (below_size (by repeat (first | (with_reducible first | exact HB.out | apply below_alloc | apply pw_below_drewN | apply below_drew1) | exact HB.out))) : w.heap.size ≤ gb209)); clear HO_7; clear HB; have HO_7 := n0_; have HB := n1_; have BK209 := n2_; have GW209 := n3_; have GE209 := n4_; clear n0_ n1_ n2_ n3_ n4_; clear hb hbox hg; have hcz9_0 : w8.cell? ⟨gb209, 0, none⟩ = some (.int .i64 0) := (blk_cell BK209.out 0).trans rfl; have hcz9_1 : w8.cell? ⟨gb209, 1, none⟩ = some (.int .i64 0) := (blk_cell BK209.out 1).trans rfl; have hfz9_0 := blk_frozen BK209.out 0; have hfz9_1 := blk_frozen BK209.out 1))
            go_roundg k1
            case measure => have := HK1.out; omega
            case rel => exact ⟨(wrap64 (x3_1 + ((rd_T40 t205 x9_1).f1))), (wrap64 (x9_1 + 1)), (by first | rfl | (simp; done) | (simp [*]; done)), (by first | rfl | (simp; done) | (simp [*]; done)), H', ⟨by have := HK1.out; omega⟩, ⟨by (with_reducible repeat (first | apply Kd.R_alloc | apply Kd.R_drewN | apply Kd.R_drew)); exact Kd.R_mono (Kd.R_far (p := ⟨gb209, 1, none⟩) (Kd.R_far (p := ⟨gb209, 0, none⟩) (Kd.R_mono HO_7.out (fun k_ hk => (⟨hk, hk.2⟩ : _ ∧ k_ ≠ gb209))) (fun _ hk => hk.2) (.int .i64 ((rd_T40 t205 x9_1).f0))) (fun _ hk => hk.2) (.int .i64 ((rd_T40 t205 x9_1).f1))) (fun _ hk => trivial)⟩, ⟨by repeat (first | (with_reducible first | exact HB.out | apply below_alloc | apply pw_below_drewN | apply below_drew1 | refine below_set ?_ GE209.out) | exact HB.out)⟩⟩
          · rw [if_neg c7] at H
            exact absurd H (by simp)
        · rw [if_neg c6] at H
          exact absurd H (by simp)
      · rw [if_neg c5] at H
        have c5b0 : decide (x9_1 < (t205.length : Int)) = false := decide_eq_false c5
        clear c5
        obtain rfl := Option.some.inj H
        go_wp2
        go_ret
        exact ⟨by first | rfl | (simp [errW_none, errW_some] <;> rfl) | (simp [*, errW_none, errW_some] <;> rfl), by repeat (first | (with_reducible first | exact HB.out | apply below_alloc | apply pw_below_drewN | apply below_drew1) | exact HB.out)⟩
def l01e.f (a0 : Int) (a1 : Int) : Option (Int × Int) := some (a0, a1)
set_option maxHeartbeats 8000000 in
set_option maxRecDepth 100000 in
theorem l01e.calls (a0 : Int) (a1 : Int) (r1 : Int) (r2 : Int) (w : World) (h : l01e.f a0 a1 = some (r1, r2)) :
    Calls Try.prog 33 #[.int .i64 a0, .int .i64 a1] w fun e w' => e = .returned (.agg #[.int .i64 r1, .int .i64 r2]) ∧ Below w.heap.size w w' := by
  have hu40 := Try.underlying40
  have HB := Aside0.mk (Below.refl w.heap.size w)
  have H : (some (a0, a1)) = some (r1, r2) := h
  clear h
  simp only [Option.some.injEq, Prod.mk.injEq] at H
  obtain ⟨rfl, rfl⟩ := H
  go_enter Try.func33, Try.ntmps33
  go_wp2_with (first | ((with_reducible refine gate_dst (N := 4) rfl ?_); refine box_event ?hg (N := 4) ?hd (cs := #[.int .i64 0, .int .i64 0]) (t := 40) ?hr ?_; (case hd => rfl); (case hg => rfl); (case hr => first | (go_simp; done) | (go_simp; rfl)); intro gb210 hg w3 hbox hb; have n0_ := Aside0.mk (below_step (by repeat (first | (with_reducible first | exact HB.out | apply below_alloc | apply pw_below_drewN | apply below_drew1) | exact HB.out)) hb); have n1_ := Aside0.mk (hbox); have n2_ := Aside0.mk ((by rw [hg]; exact (below_size (by repeat (first | (with_reducible first | exact HB.out | apply below_alloc | apply pw_below_drewN | apply below_drew1) | exact HB.out))) : w.heap.size ≤ gb210)); have n3_ := Aside0.mk ((by rw [hg]; exact (below_size (by repeat (first | (with_reducible first | exact HB.out | apply below_alloc | apply pw_below_drewN | apply below_drew1) | exact HB.out))) : w.heap.size ≤ gb210)); clear HB; have HB := n0_; have BK210 := n1_; have GW210 := n2_; have GE210 := n3_; clear n0_ n1_ n2_ n3_; clear hb hbox hg; have hcz4_0 : w3.cell? ⟨gb210, 0, none⟩ = some (.int .i64 0) := (blk_cell BK210.out 0).trans rfl; have hcz4_1 : w3.cell? ⟨gb210, 1, none⟩ = some (.int .i64 0) := (blk_cell BK210.out 1).trans rfl; have hfz4_0 := blk_frozen BK210.out 0; have hfz4_1 := blk_frozen BK210.out 1))
  refine bodyPost_ret (results_cell_row rfl _ _ gb210 40 #[.int .i64 a0, .int .i64 a1] (0, 0) _ rfl (by (with_reducible repeat (first | refine blk_drewN ?_ _ | refine blk_drew ?_ | refine blk_alloc ?_ _)); refine blk_put (cs := #[.int .i64 a0, .int .i64 0]) ?_ 1 _ rfl; (with_reducible repeat (first | refine blk_drewN ?_ _ | refine blk_drew ?_ | refine blk_alloc ?_ _)); refine blk_put (cs := #[.int .i64 0, .int .i64 0]) ?_ 0 _ rfl; (with_reducible repeat (first | refine blk_drewN ?_ _ | refine blk_drew ?_ | refine blk_alloc ?_ _)); exact BK210.out) Try.underlying40 rfl (by kernel_rfl)) rfl ?_
  exact ⟨by first | rfl | (simp [errW_none, errW_some] <;> rfl) | (simp [*, errW_none, errW_some] <;> rfl), by repeat (first | (with_reducible first | exact HB.out | apply below_alloc | apply pw_below_drewN | apply below_drew1 | refine below_set ?_ GE210.out) | exact HB.out)⟩
end Go.Proofs.Yteeedheklnelkaa.P

namespace Go.Proofs.Yteeedheklnelkaa.P
open Go.RowKit Go.Proofs.YteeedheklnelkaaW.PrintWords Go.Proofs.YteeedheklnelkaaW.PrintLast Go.Proofs.YteeedheklnelkaaW.PrintMore
attribute [local go_sem] max2_int min2_int max_two min_two max_three min_three max_four min_four   -- for this text's walks alone
set_option linter.unusedVariables false
set_option linter.unusedSimpArgs false
def xComplement.f (l0 : List (S40)) (a1 : Int) : Option ((List (S40))) := (xSubtract.f (([(⟨0, mn (mx a1 0) 4096⟩ : S40)] : List (S40))) l0).bind fun t183 => (some t183)
set_option maxHeartbeats 8000000 in
set_option maxRecDepth 100000 in
theorem xComplement.calls (A0 : Option Addr) (c0 : Nat) (l0 : List (S40)) (a1 : Int) (r : List (S40)) (w : World) (hr0 : Kd.C k40 w A0 l0.length l0) (hc0 : l0.length ≤ c0) (h : xComplement.f l0 a1 = some r) :
    Calls Try.prog 19 #[.slice A0 l0.length c0, .int .i64 a1] w fun e w' => ∃ v0_ : Value, e = .returned (v0_) ∧ Kd.R k40 40 w' w.heap.size (fun _ => True) v0_ r ∧ Below w.heap.size w w' := by
  have hu40 := Try.underlying40
  have HR0 := Aside0.mk hr0
  have HC0 := Aside0.mk hc0
  clear hr0 hc0
  have HB := Aside0.mk (Below.refl w.heap.size w)
  have H : ((xSubtract.f (([(⟨0, mn (mx a1 0) 4096⟩ : S40)] : List (S40))) l0).bind fun t183 => (some t183)) = some r := h
  clear h
  obtain ⟨ji3, hji3⟩ : ∃ j_ : Int, (mx a1 0) = j_ := ⟨_, rfl⟩
  replace H : ((xSubtract.f (([(⟨0, mn (ji3) 4096⟩ : S40)] : List (S40))) l0).bind fun t183 => (some t183)) = some r := by first | (rw [hji3] at H; exact H) | (simp only [hji3] at H ⊢; exact H)
  (try (have hji3l : 0 ≤ ji3 := by (rw [← hji3]; unfold mx; (repeat' split) <;> omega)))
  (try (have hji3m : 0 ≤ ji3 := by omega))
  have hji3_ : (if a1 < 0 then 0 else a1) = ji3 := hji3
  obtain ⟨ji4, hji4⟩ : ∃ j_ : Int, (mn (ji3) 4096) = j_ := ⟨_, rfl⟩
  replace H : ((xSubtract.f (([(⟨0, ji4⟩ : S40)] : List (S40))) l0).bind fun t183 => (some t183)) = some r := by first | (rw [hji4] at H; exact H) | (simp only [hji4] at H ⊢; exact H)
  have hji4_ : (if 4096 < (ji3) then 4096 else (ji3)) = ji4 := hji4
  obtain ⟨y180, hy180⟩ : ∃ y_ : List (S40), y_ = (([(⟨0, ji4⟩ : S40)] : List (S40))) := ⟨_, rfl⟩
  replace H : ((xSubtract.f y180 l0).bind fun t183 => (some t183)) = some r := by first | (rw [hy180]; with_reducible exact H) | (have H2_ := (Option.bind_some _ _).symm.trans H; rw [hy180]; with_reducible exact H2_) | (have H2_ := (Option.bind_some _ _).symm.trans H; with_reducible exact H2_) | with_reducible exact H | (rw [hy180]; exact H) | exact H
  have Ny180 := Aside0.mk hy180
  clear hy180
  replace H := Option.bind_eq_some_iff.mp H
  obtain ⟨t183, A50, H⟩ := H
  replace H : (some t183) = some r := H
  have A5 := Aside0.mk A50
  clear A50
  obtain rfl := Option.some.inj H
  go_enter Try.func19, Try.ntmps19
  go_wp2_with (first | ((with_reducible refine gate_dst (N := 9) rfl ?_); refine Kd.R_lit k40 _ 40 ?hg (N := 9) ?hd (xs := ([(⟨0, ji4⟩ : S40)] : List (S40))) (inner := [.int .i64 0, .int .i64 ji4]) (ok := fun _ => True) (okp := fun _ => True) ?hr ?hp (fun _ hk => hk) trivial (Below.refl _ _) (Nat.le_refl _) (by simp) ?_; (case hd => rfl); (case hg => rfl); (case hr => first | (go_simp; done) | (go_simp; rfl)); (case hp => exact (Reps.c2 (show Kd.M k40 _ _ _ (⟨0, ji4⟩ : S40) [.int .i64 0, .int .i64 ji4] from (k40_mkM _ _ _ (⟨0, ji4⟩ : S40) )) (Reps.none _ _))); intro v181 w6 ho7 hb hg_ hnew_; clear hg_ hnew_; (first | rw [← Ny180.out] at ho7 | (simp only [Int.reduceToNat] at ho7; rw [← Ny180.out] at ho7)); have n0_ := Aside0.mk (Kd.R_lower ho7 (below_size (by repeat (first | (with_reducible first | exact HB.out | apply below_alloc | apply pw_below_drewN | apply below_drew1) | exact HB.out)))); have n1_ := Aside0.mk (below_step (by repeat (first | (with_reducible first | exact HB.out | apply below_alloc | apply pw_below_drewN | apply below_drew1) | exact HB.out)) hb); clear HB; have HO182 := n0_; have HB := n1_; clear n0_ n1_; clear hb ho7; obtain ⟨Ao8, co8, eo8⟩ := Kd.R_slice HO182.out; subst eo8) | ((with_reducible refine gate_callee (f := 29) rfl ?_); refine goesL_ (some 11) rfl rfl Try.func29 (by kernel_rfl) rfl #[.slice Ao8 y180.length co8, .slice A0 l0.length c0] rfl (by (try simp only [List.map_toArray, List.map_cons, List.map_nil]); first | done | rfl | (simp only [List.length_drop, List.length_take]; rfl)) ?_; (with_reducible refine (xSubtract.calls _ _ y180 _ _ l0 t183 _ ?side1 ?side2 ?side3 ?side4 A5.out).mono ?_); (case side1 => repeat (first | exact (Kd.R_reads' HO182.out).2.2 | (with_reducible refine Kd.C_alloc ?_ _) | (with_reducible refine Kd.C_drewN ?_ _) | (with_reducible refine Kd.C_drew ?_))); (case side2 => exact (Kd.R_reads' HO182.out).2.1); (case side3 => repeat (first | exact (Kd.C_below HR0.out HB.out) | (with_reducible refine Kd.C_alloc ?_ _) | (with_reducible refine Kd.C_drewN ?_ _) | (with_reducible refine Kd.C_drew ?_))); (case side4 => exact HC0.out); rintro e w9 ⟨v184, rfl, ho0, hb⟩; refine ⟨_, rfl, ?_⟩; have n0_ := Aside0.mk (Kd.R_elder' (by (with_reducible repeat (first | apply Kd.R_alloc | apply Kd.R_drewN | apply Kd.R_drew)); exact HO182.out) (Kd.R_base ho0) hb); have n1_ := Aside0.mk (Kd.R_lower (Kd.R_new' ho0 (Kd.R_lt (by (with_reducible repeat (first | apply Kd.R_alloc | apply Kd.R_drewN | apply Kd.R_drew)); exact HO182.out))) (below_size (by repeat (first | (with_reducible first | exact HB.out | apply below_alloc | apply pw_below_drewN | apply below_drew1) | exact HB.out)))); have n2_ := Aside0.mk (below_step (by repeat (first | (with_reducible first | exact HB.out | apply below_alloc | apply pw_below_drewN | apply below_drew1) | exact HB.out)) hb); clear HO182; clear HB; have HO182 := n0_; have HO185 := n1_; have HB := n2_; clear n0_ n1_ n2_; (try clear hb); (try clear hb2); (try clear hk); (try clear hi); (try clear ho0)))
  go_ret
  exact ⟨_, by first | rfl | (simp [errW_none, errW_some] <;> rfl) | (simp only [← hji3, ← hji4]; first | rfl | (simp [errW_none, errW_some] <;> rfl)) | (simp [*, errW_none, errW_some] <;> rfl), by (with_reducible repeat (first | apply Kd.R_alloc | apply Kd.R_drewN | apply Kd.R_drew)); exact Kd.R_mono HO185.out (fun _ hk => trivial), by repeat (first | (with_reducible first | exact HB.out | apply below_alloc | apply pw_below_drewN | apply below_drew1) | exact HB.out)⟩
end Go.Proofs.Yteeedheklnelkaa.P

namespace Go.Proofs.Yteeedheklnelkaa.P
open Go.RowKit Go.Proofs.YteeedheklnelkaaW.PrintWords Go.Proofs.YteeedheklnelkaaW.PrintLast Go.Proofs.YteeedheklnelkaaW.PrintMore
attribute [local go_sem] max2_int min2_int max_two min_two max_three min_three max_four min_four
set_option maxHeartbeats 2000000 in
theorem cont_one (B : Nat) (x : Int) (e : S40) (W : World) (hB : W.cell? ⟨B, 0, none⟩ = some (.int .i64 x)) :
    Calls Try.prog 38 #[.agg #[.int .i64 e.f0, .int .i64 e.f1], .pointer (some ⟨B, 0, none⟩)] W fun e' w' => e' = .returned (.bool (inE e x)) ∧ Below W.heap.size W w' := by
  obtain ⟨p, q, ok, hwi⟩ : ∃ p q ok, wI e = (p, q, ok) := ⟨_, _, _, rfl⟩
  have hcall : xwithin.f e.f0 e.f1 = some (p, q, ok) := (wI_eq _ _).trans (congrArg some hwi)
  have HCALL := Aside0.mk hcall
  have HI : Aside0 (inE e x = (ok && decide (p ≤ x ∧ x < q))) := ⟨by unfold inE; rw [hwi]⟩
  have HB := Aside0.mk hB
  have HL := Aside0.mk (World.block_lt_of_cell? W _ hB)
  clear hwi hcall hB
  go_enter Try.func38, Try.ntmps38
  go_wp2_with fail
  refine (xwithin.calls e.f0 e.f1 p q ok _ HCALL.out).mono ?_
  rintro e2 w2 ⟨rfl, hd⟩
  have HB2 := Aside0.mk (below_step (below_alloc (Below.refl W.heap.size W) (.cells #[.int .i64 e.f0, .int .i64 e.f1] 40)) hd)
  have c2 : w2.cell? ⟨B, 0, none⟩ = some (.int .i64 x) := pw_cell_below HB2.out HB.out
  clear hd
  cases ok
  · go_wp2
    go_ret
    exact ⟨by rw [HI.out]; rfl, HB2.out⟩
  · by_cases h1 : p ≤ x
    · by_cases h2 : x < q
      · have d1 : decide (p ≤ x) = true := decide_eq_true h1
        have d2 : decide (x < q) = true := decide_eq_true h2
        go_wp2
        go_ret
        exact ⟨by rw [HI.out, decide_eq_true (show p ≤ x ∧ x < q from ⟨h1, h2⟩)]; rfl, HB2.out⟩
      · have d1 : decide (p ≤ x) = true := decide_eq_true h1
        have d2 : decide (x < q) = false := decide_eq_false h2
        go_wp2
        go_ret
        exact ⟨by rw [HI.out, decide_eq_false (show ¬ (p ≤ x ∧ x < q) by omega)]; rfl, HB2.out⟩
    · have d1 : decide (p ≤ x) = false := decide_eq_false h1
      go_wp2
      go_ret
      exact ⟨by rw [HI.out, decide_eq_false (show ¬ (p ≤ x ∧ x < q) by omega)]; rfl, HB2.out⟩
set_option maxHeartbeats 4000000 in
set_option maxRecDepth 100000 in
/-- slices.IndexFunc of the closure: the first extent that holds the sector, or -1: below 0 where there is none. -/
theorem index_any (B : Nat) (x : Int) (A : Option Addr) (c : Nat) (l : List S40) (w : World) (hB : w.cell? ⟨B, 0, none⟩ = some (.int .i64 x)) (hr : Kd.C k40 w A l.length l) (hc : l.length ≤ c) (hN : l.length ≤ 1000000) :
    Calls Try.prog 46 #[.slice A l.length c, .func (.func 38) #[] #[.pointer (some ⟨B, 0, none⟩)]] w fun e w' => ∃ n : Int, e = .returned (.int .i64 n) ∧ decide (n ≥ 0) = inL l x ∧ Below w.heap.size w w' := by
  have HB := Aside0.mk hB
  have HR := Aside0.mk hr
  have HC := Aside0.mk hc
  have HN := Aside0.mk hN
  clear hB hr hc hN
  go_enter Try.func46, Try.ntmps46
  go_wp2_with fail
  go_loopw [8] (fun i wr => ∃ k : Nat, k ≤ l.length ∧ i = .int .i64 k ∧ Aside0 (∀ e ∈ l.take k, inE e x = false) ∧ Aside0 (Below w.heap.size w wr))
    (fun i _ => l.length - (intOf i).toNat)
  case atStart => exact ⟨0, Nat.zero_le _, rfl, ⟨fun e he => by simp at he⟩, ⟨Below.refl _ _⟩⟩
  case round =>
    obtain ⟨k, hk, rfl, HF, HBw⟩ := hrel
    by_cases hlt : k < l.length
    · obtain ⟨ad, hA, q0, q1⟩ := read_ext (Kd.C_below HR.out HBw.out) hlt
      subst hA
      obtain ⟨e, he⟩ : ∃ e, e = l[k] := ⟨_, rfl⟩
      rw [← he] at q0 q1
      have HE := Aside0.mk he
      have hk5 : k < 1000000 := by have := HN.out; omega
      have hkd : decide (k < l.length) = true := decide_eq_true hlt
      clear he
      go_wp2_with fail
      refine (cont_one B x e wr (pw_cell_below HBw.out HB.out)).mono ?_
      rintro e2 w2 ⟨rfl, hb2⟩
      have HB2 := Aside0.mk (below_step HBw.out hb2)
      clear hb2 q0 q1
      cases hin : inE e x
      · have HIN := Aside0.mk hin
        clear hin
        go_wp2
        go_roundw
        case rel =>
          refine ⟨k + 1, by omega, by go_num, ⟨fun y hy => ?_⟩, HB2⟩
          rw [List.take_succ_eq_append_getElem hlt] at hy
          rcases List.mem_append.1 hy with hy | hy
          · exact HF.out y hy
          · rw [List.mem_singleton] at hy
            rw [hy, ← HE.out]; exact HIN.out
        case measure => simp [intOf]; omega
      · have HIN := Aside0.mk hin
        clear hin
        go_wp2
        go_ret
        refine ⟨k, rfl, ?_, HB2.out⟩
        have h1 : inL l x = true := by
          unfold inL
          rw [List.any_eq_true]
          exact ⟨e, by rw [HE.out]; exact List.getElem_mem hlt, HIN.out⟩
        rw [h1, decide_eq_true_iff]; omega
    · obtain rfl : k = l.length := by omega
      go_wp2
      go_ret
      refine ⟨-1, rfl, ?_, HBw.out⟩
      have h1 : inL l x = false := by
        unfold inL
        rw [List.any_eq_false]
        intro e he
        have := HF.out e (by rw [List.take_length]; exact he)
        rw [this]; decide
      rw [h1]; rfl
theorem containsFunc_any (B : Nat) (x : Int) (A : Option Addr) (c : Nat) (l : List S40) (w : World) (hB : w.cell? ⟨B, 0, none⟩ = some (.int .i64 x)) (hr : Kd.C k40 w A l.length l) (hc : l.length ≤ c) (hN : l.length ≤ 1000000) :
    Calls Try.prog 37 #[.slice A l.length c, .func (.func 38) #[] #[.pointer (some ⟨B, 0, none⟩)]] w fun e w' => e = .returned (.bool (inL l x)) ∧ Below w.heap.size w w' := by
  have HI := Aside0.mk (index_any B x A c l w hB hr hc hN)
  clear hB hr hc hN
  go_enter Try.func37, Try.ntmps37
  go_wp2_with fail
  refine HI.out.mono ?_
  rintro e w1 ⟨n, rfl, hn, hb⟩
  have HN := Aside0.mk hn
  have HB := Aside0.mk hb
  clear hn hb
  go_wp2
  go_ret
  exact ⟨by rw [← HN.out]; rfl, HB.out⟩
theorem xContains.calls (A0 : Option Addr) (c0 : Nat) (l0 : List (S40)) (a1 : Int) (r : Bool) (w : World) (hr0 : Kd.C k40 w A0 l0.length l0) (hc0 : l0.length ≤ c0) (h : xContains.f l0 a1 = some r) :
    Calls Try.prog 21 #[.slice A0 l0.length c0, .int .i64 a1] w fun e w' => e = .returned (.bool r) ∧ Below w.heap.size w w' := by
  have hh : l0.length ≤ 1000000 ∧ r = inL l0 a1 := by
    unfold xContains.f at h
    split at h
    · rename_i hn
      exact ⟨hn, (Option.some.inj h).symm⟩
    · cases h
  obtain ⟨hN, rfl⟩ := hh
  have hb : Below w.heap.size w (w.alloc (.cells #[.int .i64 a1] 3)) := below_alloc (Below.refl _ _) _
  have hcon := containsFunc_any w.heap.size a1 A0 c0 l0 (w.alloc (.cells #[.int .i64 a1] 3)) ((blk_cell (heap_alloc_new w _) 0).trans rfl) (Kd.C_below hr0 hb) hc0 hN
  have HC := Aside0.mk hcon
  have HB := Aside0.mk hb
  clear hcon hb hr0 hc0 h hN
  go_enter Try.func21, Try.ntmps21
  go_wp2_with fail
  refine HC.out.mono ?_
  rintro e w1 ⟨rfl, hb1⟩
  have HB1 := Aside0.mk (below_step HB.out hb1)
  clear hb1
  go_wp2
  go_ret
  exact ⟨rfl, HB1.out⟩
end Go.Proofs.Yteeedheklnelkaa.P

namespace Go.Proofs.Yteeedheklnelkaa.P
open Go.RowKit Go.Proofs.YteeedheklnelkaaW.PrintWords Go.Proofs.YteeedheklnelkaaW.PrintLast Go.Proofs.YteeedheklnelkaaW.PrintMore
attribute [local go_sem] max2_int min2_int max_two min_two max_three min_three max_four min_four   -- for this text's walks alone
set_option linter.unusedVariables false
set_option linter.unusedSimpArgs false
mutual
def l01awake.j0 : Nat → List (S40) → Bool → Option (Bool)
  | 0, _, _ => none
  | k + 1, x1, x7 => if x7 = true then ((xCheck.f k x1 11).bind fun t264 => (if t264 = 0 then ((xCheck.f k x1 10).bind fun t265 => (if t265 = 2 then ((l01e.f 0 2).bind fun bt266 => ((l01e.f 2 1).bind fun bt268 => ((xCheck.f k (([(⟨bt266.1, bt266.2⟩ : S40), (⟨bt268.1, bt268.2⟩ : S40)] : List (S40))) 5).bind fun t273 => (l01awake.j1 k x1 (t273 == 3))))) else (l01awake.j1 k x1 false))) else (l01awake.j1 k x1 false))) else (l01awake.j1 k x1 false)
def l01awake.j1 : Nat → List (S40) → Bool → Option (Bool)
  | 0, _, _ => none
  | k + 1, x1, x7 => if x7 = true then ((l01e.f 0 2).bind fun bt274 => ((l01e.f 2 1).bind fun bt279 => ((xUnion.f (([(⟨bt274.1, bt274.2⟩ : S40)] : List (S40))) (([(⟨bt279.1, bt279.2⟩ : S40)] : List (S40)))).bind fun t284 => ((l01e.f 0 3).bind fun bt287 => ((r01Same.f k t284 (([(⟨bt287.1, bt287.2⟩ : S40)] : List (S40)))).bind fun t292 => (l01awake.j2 k x1 t292)))))) else (l01awake.j2 k x1 false)
def l01awake.j2 : Nat → List (S40) → Bool → Option (Bool)
  | 0, _, _ => none
  | k + 1, x1, x7 => if x7 = true then ((l01e.f 0 10).bind fun bt293 => ((l01e.f 3 2).bind fun bt298 => ((xSubtract.f (([(⟨bt293.1, bt293.2⟩ : S40)] : List (S40))) (([(⟨bt298.1, bt298.2⟩ : S40)] : List (S40)))).bind fun t303 => ((l01e.f 0 3).bind fun bt306 => ((l01e.f 5 5).bind fun bt308 => ((r01Same.f k t303 (([(⟨bt306.1, bt306.2⟩ : S40), (⟨bt308.1, bt308.2⟩ : S40)] : List (S40)))).bind fun t313 => (l01awake.j3 k x1 t313))))))) else (l01awake.j3 k x1 false)
def l01awake.j3 : Nat → List (S40) → Bool → Option (Bool)
  | 0, _, _ => none
  | k + 1, x1, x7 => if x7 = true then ((l01e.f 3 2).bind fun bt314 => ((xComplement.f (([(⟨bt314.1, bt314.2⟩ : S40)] : List (S40))) 8).bind fun t319 => ((l01e.f 0 3).bind fun bt322 => ((l01e.f 5 3).bind fun bt324 => ((r01Same.f k t319 (([(⟨bt322.1, bt322.2⟩ : S40), (⟨bt324.1, bt324.2⟩ : S40)] : List (S40)))).bind fun t329 => (l01awake.j4 k x1 t329)))))) else (l01awake.j4 k x1 false)
def l01awake.j4 : Nat → List (S40) → Bool → Option (Bool)
  | 0, _, _ => none
  | k + 1, x1, x7 => if x7 = true then ((l01e.f (-3) 5).bind fun bt330 => ((xCount.f k (([(⟨bt330.1, bt330.2⟩ : S40)] : List (S40)))).bind fun t335 => (if t335 = 2 then ((xContains.f x1 10).bind fun t336 => (if t336 = true then ((xContains.f x1 11).bind fun t337 => (some (!t337))) else (some false))) else (some false)))) else (some false)
end
def l01awake.f (k : Nat)  : Option (Bool) := (l01e.f 5 3).bind fun bt211 => ((l01e.f 0 2).bind fun bt213 => ((l01e.f 7 4).bind fun bt215 => ((xNormalize.f k (([(⟨bt211.1, bt211.2⟩ : S40), (⟨bt213.1, bt213.2⟩ : S40), (⟨bt215.1, bt215.2⟩ : S40)] : List (S40)))).bind fun bt220 => ((l01e.f 0 5).bind fun bt224 => ((l01e.f 10 2).bind fun bt226 => ((xSplit.f k (([(⟨bt224.1, bt224.2⟩ : S40), (⟨bt226.1, bt226.2⟩ : S40)] : List (S40))) 2).bind fun bt231 => ((l01e.f (-3) 5).bind fun bt235 => ((xNormalize.f k (([(⟨bt235.1, bt235.2⟩ : S40)] : List (S40)))).bind fun bt240 => ((l01e.f 0 2).bind fun bt244 => ((l01e.f 5 6).bind fun bt246 => ((r01Same.f k bt220.1 (([(⟨bt244.1, bt244.2⟩ : S40), (⟨bt246.1, bt246.2⟩ : S40)] : List (S40)))).bind fun t251 => (if t251 = true then (if bt220.2 = 0 then ((l01e.f 0 2).bind fun bt252 => ((l01e.f 2 2).bind fun bt254 => ((l01e.f 4 1).bind fun bt256 => ((l01e.f 10 2).bind fun bt258 => ((r01Same.f k bt231.1 (([(⟨bt252.1, bt252.2⟩ : S40), (⟨bt254.1, bt254.2⟩ : S40), (⟨bt256.1, bt256.2⟩ : S40), (⟨bt258.1, bt258.2⟩ : S40)] : List (S40)))).bind fun t263 => (if t263 = true then (if bt231.2 = 0 then (l01awake.j0 k bt220.1 (bt240.2 == 2)) else (l01awake.j0 k bt220.1 false)) else (l01awake.j0 k bt220.1 false))))))) else (l01awake.j0 k bt220.1 false)) else (l01awake.j0 k bt220.1 false)))))))))))))
theorem l01awake.mono_l : ∀ k, (∀ y0 y1, LeO (l01awake.j0 k y0 y1) (l01awake.j0 (k + 1) y0 y1)) ∧ (∀ y0 y1, LeO (l01awake.j1 k y0 y1) (l01awake.j1 (k + 1) y0 y1)) ∧ (∀ y0 y1, LeO (l01awake.j2 k y0 y1) (l01awake.j2 (k + 1) y0 y1)) ∧ (∀ y0 y1, LeO (l01awake.j3 k y0 y1) (l01awake.j3 (k + 1) y0 y1)) ∧ (∀ y0 y1, LeO (l01awake.j4 k y0 y1) (l01awake.j4 (k + 1) y0 y1))
  | 0 => ⟨fun _ _ r h => by simp [l01awake.j0] at h, fun _ _ r h => by simp [l01awake.j1] at h, fun _ _ r h => by simp [l01awake.j2] at h, fun _ _ r h => by simp [l01awake.j3] at h, fun _ _ r h => by simp [l01awake.j4] at h⟩
  | k + 1 => by
    obtain ⟨ih0, ih1, ih2, ih3, ih4⟩ := l01awake.mono_l k
    refine ⟨?_, ?_, ?_, ?_, ?_⟩
    · intro y0 y1
      unfold l01awake.j0
      repeat' first
      | (with_reducible exact ih0 _ _)
      | (with_reducible exact ih1 _ _)
      | (with_reducible exact ih2 _ _)
      | (with_reducible exact ih3 _ _)
      | (with_reducible exact ih4 _ _)
      | (with_reducible exact r01Same.mono _ _ _)
      | (with_reducible exact xCheck.mono _ _ _)
      | (with_reducible exact xCount.mono _ _)
      | (with_reducible exact xNormalize.mono _ _)
      | (with_reducible exact xSplit.mono _ _ _)
      | (with_reducible exact LeO.refl _)
      | (with_reducible exact LeO.none _)
      | (with_reducible refine LeO.ite ?_ ?_)
      | (with_reducible refine LeO.bind ?_ (fun _ => ?_))
      | exact ih0 _ _
      | exact ih1 _ _
      | exact ih2 _ _
      | exact ih3 _ _
      | exact ih4 _ _
      | exact r01Same.mono _ _ _
      | exact xCheck.mono _ _ _
      | exact xCount.mono _ _
      | exact xNormalize.mono _ _
      | exact xSplit.mono _ _ _
      | exact LeO.none _
      | refine LeO.ite ?_ ?_
      | refine LeO.bind ?_ (fun _ => ?_)
    · intro y0 y1
      unfold l01awake.j1
      repeat' first
      | (with_reducible exact ih0 _ _)
      | (with_reducible exact ih1 _ _)
      | (with_reducible exact ih2 _ _)
      | (with_reducible exact ih3 _ _)
      | (with_reducible exact ih4 _ _)
      | (with_reducible exact r01Same.mono _ _ _)
      | (with_reducible exact xCheck.mono _ _ _)
      | (with_reducible exact xCount.mono _ _)
      | (with_reducible exact xNormalize.mono _ _)
      | (with_reducible exact xSplit.mono _ _ _)
      | (with_reducible exact LeO.refl _)
      | (with_reducible exact LeO.none _)
      | (with_reducible refine LeO.ite ?_ ?_)
      | (with_reducible refine LeO.bind ?_ (fun _ => ?_))
      | exact ih0 _ _
      | exact ih1 _ _
      | exact ih2 _ _
      | exact ih3 _ _
      | exact ih4 _ _
      | exact r01Same.mono _ _ _
      | exact xCheck.mono _ _ _
      | exact xCount.mono _ _
      | exact xNormalize.mono _ _
      | exact xSplit.mono _ _ _
      | exact LeO.none _
      | refine LeO.ite ?_ ?_
      | refine LeO.bind ?_ (fun _ => ?_)
    · intro y0 y1
      unfold l01awake.j2
      repeat' first
      | (with_reducible exact ih0 _ _)
      | (with_reducible exact ih1 _ _)
      | (with_reducible exact ih2 _ _)
      | (with_reducible exact ih3 _ _)
      | (with_reducible exact ih4 _ _)
      | (with_reducible exact r01Same.mono _ _ _)
      | (with_reducible exact xCheck.mono _ _ _)
      | (with_reducible exact xCount.mono _ _)
      | (with_reducible exact xNormalize.mono _ _)
      | (with_reducible exact xSplit.mono _ _ _)
      | (with_reducible exact LeO.refl _)
      | (with_reducible exact LeO.none _)
      | (with_reducible refine LeO.ite ?_ ?_)
      | (with_reducible refine LeO.bind ?_ (fun _ => ?_))
      | exact ih0 _ _
      | exact ih1 _ _
      | exact ih2 _ _
      | exact ih3 _ _
      | exact ih4 _ _
      | exact r01Same.mono _ _ _
      | exact xCheck.mono _ _ _
      | exact xCount.mono _ _
      | exact xNormalize.mono _ _
      | exact xSplit.mono _ _ _
      | exact LeO.none _
      | refine LeO.ite ?_ ?_
      | refine LeO.bind ?_ (fun _ => ?_)
    · intro y0 y1
      unfold l01awake.j3
      repeat' first
      | (with_reducible exact ih0 _ _)
      | (with_reducible exact ih1 _ _)
      | (with_reducible exact ih2 _ _)
      | (with_reducible exact ih3 _ _)
      | (with_reducible exact ih4 _ _)
      | (with_reducible exact r01Same.mono _ _ _)
      | (with_reducible exact xCheck.mono _ _ _)
      | (with_reducible exact xCount.mono _ _)
      | (with_reducible exact xNormalize.mono _ _)
      | (with_reducible exact xSplit.mono _ _ _)
      | (with_reducible exact LeO.refl _)
      | (with_reducible exact LeO.none _)
      | (with_reducible refine LeO.ite ?_ ?_)
      | (with_reducible refine LeO.bind ?_ (fun _ => ?_))
      | exact ih0 _ _
      | exact ih1 _ _
      | exact ih2 _ _
      | exact ih3 _ _
      | exact ih4 _ _
      | exact r01Same.mono _ _ _
      | exact xCheck.mono _ _ _
      | exact xCount.mono _ _
      | exact xNormalize.mono _ _
      | exact xSplit.mono _ _ _
      | exact LeO.none _
      | refine LeO.ite ?_ ?_
      | refine LeO.bind ?_ (fun _ => ?_)
    · intro y0 y1
      unfold l01awake.j4
      repeat' first
      | (with_reducible exact ih0 _ _)
      | (with_reducible exact ih1 _ _)
      | (with_reducible exact ih2 _ _)
      | (with_reducible exact ih3 _ _)
      | (with_reducible exact ih4 _ _)
      | (with_reducible exact r01Same.mono _ _ _)
      | (with_reducible exact xCheck.mono _ _ _)
      | (with_reducible exact xCount.mono _ _)
      | (with_reducible exact xNormalize.mono _ _)
      | (with_reducible exact xSplit.mono _ _ _)
      | (with_reducible exact LeO.refl _)
      | (with_reducible exact LeO.none _)
      | (with_reducible refine LeO.ite ?_ ?_)
      | (with_reducible refine LeO.bind ?_ (fun _ => ?_))
      | exact ih0 _ _
      | exact ih1 _ _
      | exact ih2 _ _
      | exact ih3 _ _
      | exact ih4 _ _
      | exact r01Same.mono _ _ _
      | exact xCheck.mono _ _ _
      | exact xCount.mono _ _
      | exact xNormalize.mono _ _
      | exact xSplit.mono _ _ _
      | exact LeO.none _
      | refine LeO.ite ?_ ?_
      | refine LeO.bind ?_ (fun _ => ?_)
theorem l01awake.mono : ∀ k, LeO (l01awake.f k ) (l01awake.f (k + 1) ) := by
  intro  k
  obtain ⟨ih0, ih1, ih2, ih3, ih4⟩ := l01awake.mono_l k
  unfold l01awake.f
  repeat' first
      | (with_reducible exact ih0 _ _)
      | (with_reducible exact ih1 _ _)
      | (with_reducible exact ih2 _ _)
      | (with_reducible exact ih3 _ _)
      | (with_reducible exact ih4 _ _)
      | (with_reducible exact r01Same.mono _ _ _)
      | (with_reducible exact xCheck.mono _ _ _)
      | (with_reducible exact xCount.mono _ _)
      | (with_reducible exact xNormalize.mono _ _)
      | (with_reducible exact xSplit.mono _ _ _)
      | (with_reducible exact LeO.refl _)
      | (with_reducible exact LeO.none _)
      | (with_reducible refine LeO.ite ?_ ?_)
      | (with_reducible refine LeO.bind ?_ (fun _ => ?_))
      | exact ih0 _ _
      | exact ih1 _ _
      | exact ih2 _ _
      | exact ih3 _ _
      | exact ih4 _ _
      | exact r01Same.mono _ _ _
      | exact xCheck.mono _ _ _
      | exact xCount.mono _ _
      | exact xNormalize.mono _ _
      | exact xSplit.mono _ _ _
      | exact LeO.none _
      | refine LeO.ite ?_ ?_
      | refine LeO.bind ?_ (fun _ => ?_)
set_option maxHeartbeats 8000000 in
set_option maxRecDepth 100000 in
theorem l01awake.calls (k : Nat)  (r : Bool) (w : World) (h : l01awake.f k  = some r) :
    Calls Try.prog 13 #[] w fun e w' => e = .returned (.bool r) ∧ Below w.heap.size w w' := by
  have HB := Aside0.mk (Below.refl w.heap.size w)
  have H : ((l01e.f 5 3).bind fun bt211 => ((l01e.f 0 2).bind fun bt213 => ((l01e.f 7 4).bind fun bt215 => ((xNormalize.f k (([(⟨bt211.1, bt211.2⟩ : S40), (⟨bt213.1, bt213.2⟩ : S40), (⟨bt215.1, bt215.2⟩ : S40)] : List (S40)))).bind fun bt220 => ((l01e.f 0 5).bind fun bt224 => ((l01e.f 10 2).bind fun bt226 => ((xSplit.f k (([(⟨bt224.1, bt224.2⟩ : S40), (⟨bt226.1, bt226.2⟩ : S40)] : List (S40))) 2).bind fun bt231 => ((l01e.f (-3) 5).bind fun bt235 => ((xNormalize.f k (([(⟨bt235.1, bt235.2⟩ : S40)] : List (S40)))).bind fun bt240 => ((l01e.f 0 2).bind fun bt244 => ((l01e.f 5 6).bind fun bt246 => ((r01Same.f k bt220.1 (([(⟨bt244.1, bt244.2⟩ : S40), (⟨bt246.1, bt246.2⟩ : S40)] : List (S40)))).bind fun t251 => (if t251 = true then (if bt220.2 = 0 then ((l01e.f 0 2).bind fun bt252 => ((l01e.f 2 2).bind fun bt254 => ((l01e.f 4 1).bind fun bt256 => ((l01e.f 10 2).bind fun bt258 => ((r01Same.f k bt231.1 (([(⟨bt252.1, bt252.2⟩ : S40), (⟨bt254.1, bt254.2⟩ : S40), (⟨bt256.1, bt256.2⟩ : S40), (⟨bt258.1, bt258.2⟩ : S40)] : List (S40)))).bind fun t263 => (if t263 = true then (if bt231.2 = 0 then (l01awake.j0 k bt220.1 (bt240.2 == 2)) else (l01awake.j0 k bt220.1 false)) else (l01awake.j0 k bt220.1 false))))))) else (l01awake.j0 k bt220.1 false)) else (l01awake.j0 k bt220.1 false)))))))))))))) = some r := h
  clear h
  replace H := Option.bind_eq_some_iff.mp H
  obtain ⟨⟨t211, t212⟩, A10, H⟩ := H
  replace H : ((l01e.f 0 2).bind fun bt213 => ((l01e.f 7 4).bind fun bt215 => ((xNormalize.f k (([(⟨t211, t212⟩ : S40), (⟨bt213.1, bt213.2⟩ : S40), (⟨bt215.1, bt215.2⟩ : S40)] : List (S40)))).bind fun bt220 => ((l01e.f 0 5).bind fun bt224 => ((l01e.f 10 2).bind fun bt226 => ((xSplit.f k (([(⟨bt224.1, bt224.2⟩ : S40), (⟨bt226.1, bt226.2⟩ : S40)] : List (S40))) 2).bind fun bt231 => ((l01e.f (-3) 5).bind fun bt235 => ((xNormalize.f k (([(⟨bt235.1, bt235.2⟩ : S40)] : List (S40)))).bind fun bt240 => ((l01e.f 0 2).bind fun bt244 => ((l01e.f 5 6).bind fun bt246 => ((r01Same.f k bt220.1 (([(⟨bt244.1, bt244.2⟩ : S40), (⟨bt246.1, bt246.2⟩ : S40)] : List (S40)))).bind fun t251 => (if t251 = true then (if bt220.2 = 0 then ((l01e.f 0 2).bind fun bt252 => ((l01e.f 2 2).bind fun bt254 => ((l01e.f 4 1).bind fun bt256 => ((l01e.f 10 2).bind fun bt258 => ((r01Same.f k bt231.1 (([(⟨bt252.1, bt252.2⟩ : S40), (⟨bt254.1, bt254.2⟩ : S40), (⟨bt256.1, bt256.2⟩ : S40), (⟨bt258.1, bt258.2⟩ : S40)] : List (S40)))).bind fun t263 => (if t263 = true then (if bt231.2 = 0 then (l01awake.j0 k bt220.1 (bt240.2 == 2)) else (l01awake.j0 k bt220.1 false)) else (l01awake.j0 k bt220.1 false))))))) else (l01awake.j0 k bt220.1 false)) else (l01awake.j0 k bt220.1 false))))))))))))) = some r := H
  have A1 := Aside0.mk A10
  clear A10
  replace H := Option.bind_eq_some_iff.mp H
  obtain ⟨⟨t213, t214⟩, A20, H⟩ := H
  replace H : ((l01e.f 7 4).bind fun bt215 => ((xNormalize.f k (([(⟨t211, t212⟩ : S40), (⟨t213, t214⟩ : S40), (⟨bt215.1, bt215.2⟩ : S40)] : List (S40)))).bind fun bt220 => ((l01e.f 0 5).bind fun bt224 => ((l01e.f 10 2).bind fun bt226 => ((xSplit.f k (([(⟨bt224.1, bt224.2⟩ : S40), (⟨bt226.1, bt226.2⟩ : S40)] : List (S40))) 2).bind fun bt231 => ((l01e.f (-3) 5).bind fun bt235 => ((xNormalize.f k (([(⟨bt235.1, bt235.2⟩ : S40)] : List (S40)))).bind fun bt240 => ((l01e.f 0 2).bind fun bt244 => ((l01e.f 5 6).bind fun bt246 => ((r01Same.f k bt220.1 (([(⟨bt244.1, bt244.2⟩ : S40), (⟨bt246.1, bt246.2⟩ : S40)] : List (S40)))).bind fun t251 => (if t251 = true then (if bt220.2 = 0 then ((l01e.f 0 2).bind fun bt252 => ((l01e.f 2 2).bind fun bt254 => ((l01e.f 4 1).bind fun bt256 => ((l01e.f 10 2).bind fun bt258 => ((r01Same.f k bt231.1 (([(⟨bt252.1, bt252.2⟩ : S40), (⟨bt254.1, bt254.2⟩ : S40), (⟨bt256.1, bt256.2⟩ : S40), (⟨bt258.1, bt258.2⟩ : S40)] : List (S40)))).bind fun t263 => (if t263 = true then (if bt231.2 = 0 then (l01awake.j0 k bt220.1 (bt240.2 == 2)) else (l01awake.j0 k bt220.1 false)) else (l01awake.j0 k bt220.1 false))))))) else (l01awake.j0 k bt220.1 false)) else (l01awake.j0 k bt220.1 false)))))))))))) = some r := H
  have A2 := Aside0.mk A20
  clear A20
  replace H := Option.bind_eq_some_iff.mp H
  obtain ⟨⟨t215, t216⟩, A30, H⟩ := H
  replace H : ((xNormalize.f k (([(⟨t211, t212⟩ : S40), (⟨t213, t214⟩ : S40), (⟨t215, t216⟩ : S40)] : List (S40)))).bind fun bt220 => ((l01e.f 0 5).bind fun bt224 => ((l01e.f 10 2).bind fun bt226 => ((xSplit.f k (([(⟨bt224.1, bt224.2⟩ : S40), (⟨bt226.1, bt226.2⟩ : S40)] : List (S40))) 2).bind fun bt231 => ((l01e.f (-3) 5).bind fun bt235 => ((xNormalize.f k (([(⟨bt235.1, bt235.2⟩ : S40)] : List (S40)))).bind fun bt240 => ((l01e.f 0 2).bind fun bt244 => ((l01e.f 5 6).bind fun bt246 => ((r01Same.f k bt220.1 (([(⟨bt244.1, bt244.2⟩ : S40), (⟨bt246.1, bt246.2⟩ : S40)] : List (S40)))).bind fun t251 => (if t251 = true then (if bt220.2 = 0 then ((l01e.f 0 2).bind fun bt252 => ((l01e.f 2 2).bind fun bt254 => ((l01e.f 4 1).bind fun bt256 => ((l01e.f 10 2).bind fun bt258 => ((r01Same.f k bt231.1 (([(⟨bt252.1, bt252.2⟩ : S40), (⟨bt254.1, bt254.2⟩ : S40), (⟨bt256.1, bt256.2⟩ : S40), (⟨bt258.1, bt258.2⟩ : S40)] : List (S40)))).bind fun t263 => (if t263 = true then (if bt231.2 = 0 then (l01awake.j0 k bt220.1 (bt240.2 == 2)) else (l01awake.j0 k bt220.1 false)) else (l01awake.j0 k bt220.1 false))))))) else (l01awake.j0 k bt220.1 false)) else (l01awake.j0 k bt220.1 false))))))))))) = some r := H
  have A3 := Aside0.mk A30
  clear A30
  obtain ⟨y217, hy217⟩ : ∃ y_ : List (S40), y_ = (([(⟨t211, t212⟩ : S40), (⟨t213, t214⟩ : S40), (⟨t215, t216⟩ : S40)] : List (S40))) := ⟨_, rfl⟩
  replace H : ((xNormalize.f k y217).bind fun bt220 => ((l01e.f 0 5).bind fun bt224 => ((l01e.f 10 2).bind fun bt226 => ((xSplit.f k (([(⟨bt224.1, bt224.2⟩ : S40), (⟨bt226.1, bt226.2⟩ : S40)] : List (S40))) 2).bind fun bt231 => ((l01e.f (-3) 5).bind fun bt235 => ((xNormalize.f k (([(⟨bt235.1, bt235.2⟩ : S40)] : List (S40)))).bind fun bt240 => ((l01e.f 0 2).bind fun bt244 => ((l01e.f 5 6).bind fun bt246 => ((r01Same.f k bt220.1 (([(⟨bt244.1, bt244.2⟩ : S40), (⟨bt246.1, bt246.2⟩ : S40)] : List (S40)))).bind fun t251 => (if t251 = true then (if bt220.2 = 0 then ((l01e.f 0 2).bind fun bt252 => ((l01e.f 2 2).bind fun bt254 => ((l01e.f 4 1).bind fun bt256 => ((l01e.f 10 2).bind fun bt258 => ((r01Same.f k bt231.1 (([(⟨bt252.1, bt252.2⟩ : S40), (⟨bt254.1, bt254.2⟩ : S40), (⟨bt256.1, bt256.2⟩ : S40), (⟨bt258.1, bt258.2⟩ : S40)] : List (S40)))).bind fun t263 => (if t263 = true then (if bt231.2 = 0 then (l01awake.j0 k bt220.1 (bt240.2 == 2)) else (l01awake.j0 k bt220.1 false)) else (l01awake.j0 k bt220.1 false))))))) else (l01awake.j0 k bt220.1 false)) else (l01awake.j0 k bt220.1 false))))))))))) = some r := by first | (rw [hy217]; with_reducible exact H) | (have H2_ := (Option.bind_some _ _).symm.trans H; rw [hy217]; with_reducible exact H2_) | (have H2_ := (Option.bind_some _ _).symm.trans H; with_reducible exact H2_) | with_reducible exact H | (rw [hy217]; exact H) | exact H
  have Ny217 := Aside0.mk hy217
  clear hy217
  replace H := Option.bind_eq_some_iff.mp H
  obtain ⟨⟨t220, t221⟩, A40, H⟩ := H
  replace H : ((l01e.f 0 5).bind fun bt224 => ((l01e.f 10 2).bind fun bt226 => ((xSplit.f k (([(⟨bt224.1, bt224.2⟩ : S40), (⟨bt226.1, bt226.2⟩ : S40)] : List (S40))) 2).bind fun bt231 => ((l01e.f (-3) 5).bind fun bt235 => ((xNormalize.f k (([(⟨bt235.1, bt235.2⟩ : S40)] : List (S40)))).bind fun bt240 => ((l01e.f 0 2).bind fun bt244 => ((l01e.f 5 6).bind fun bt246 => ((r01Same.f k t220 (([(⟨bt244.1, bt244.2⟩ : S40), (⟨bt246.1, bt246.2⟩ : S40)] : List (S40)))).bind fun t251 => (if t251 = true then (if t221 = 0 then ((l01e.f 0 2).bind fun bt252 => ((l01e.f 2 2).bind fun bt254 => ((l01e.f 4 1).bind fun bt256 => ((l01e.f 10 2).bind fun bt258 => ((r01Same.f k bt231.1 (([(⟨bt252.1, bt252.2⟩ : S40), (⟨bt254.1, bt254.2⟩ : S40), (⟨bt256.1, bt256.2⟩ : S40), (⟨bt258.1, bt258.2⟩ : S40)] : List (S40)))).bind fun t263 => (if t263 = true then (if bt231.2 = 0 then (l01awake.j0 k t220 (bt240.2 == 2)) else (l01awake.j0 k t220 false)) else (l01awake.j0 k t220 false))))))) else (l01awake.j0 k t220 false)) else (l01awake.j0 k t220 false)))))))))) = some r := H
  have A4 := Aside0.mk A40
  clear A40
  replace H := Option.bind_eq_some_iff.mp H
  obtain ⟨⟨t224, t225⟩, A50, H⟩ := H
  replace H : ((l01e.f 10 2).bind fun bt226 => ((xSplit.f k (([(⟨t224, t225⟩ : S40), (⟨bt226.1, bt226.2⟩ : S40)] : List (S40))) 2).bind fun bt231 => ((l01e.f (-3) 5).bind fun bt235 => ((xNormalize.f k (([(⟨bt235.1, bt235.2⟩ : S40)] : List (S40)))).bind fun bt240 => ((l01e.f 0 2).bind fun bt244 => ((l01e.f 5 6).bind fun bt246 => ((r01Same.f k t220 (([(⟨bt244.1, bt244.2⟩ : S40), (⟨bt246.1, bt246.2⟩ : S40)] : List (S40)))).bind fun t251 => (if t251 = true then (if t221 = 0 then ((l01e.f 0 2).bind fun bt252 => ((l01e.f 2 2).bind fun bt254 => ((l01e.f 4 1).bind fun bt256 => ((l01e.f 10 2).bind fun bt258 => ((r01Same.f k bt231.1 (([(⟨bt252.1, bt252.2⟩ : S40), (⟨bt254.1, bt254.2⟩ : S40), (⟨bt256.1, bt256.2⟩ : S40), (⟨bt258.1, bt258.2⟩ : S40)] : List (S40)))).bind fun t263 => (if t263 = true then (if bt231.2 = 0 then (l01awake.j0 k t220 (bt240.2 == 2)) else (l01awake.j0 k t220 false)) else (l01awake.j0 k t220 false))))))) else (l01awake.j0 k t220 false)) else (l01awake.j0 k t220 false))))))))) = some r := H
  have A5 := Aside0.mk A50
  clear A50
  replace H := Option.bind_eq_some_iff.mp H
  obtain ⟨⟨t226, t227⟩, A60, H⟩ := H
  replace H : ((xSplit.f k (([(⟨t224, t225⟩ : S40), (⟨t226, t227⟩ : S40)] : List (S40))) 2).bind fun bt231 => ((l01e.f (-3) 5).bind fun bt235 => ((xNormalize.f k (([(⟨bt235.1, bt235.2⟩ : S40)] : List (S40)))).bind fun bt240 => ((l01e.f 0 2).bind fun bt244 => ((l01e.f 5 6).bind fun bt246 => ((r01Same.f k t220 (([(⟨bt244.1, bt244.2⟩ : S40), (⟨bt246.1, bt246.2⟩ : S40)] : List (S40)))).bind fun t251 => (if t251 = true then (if t221 = 0 then ((l01e.f 0 2).bind fun bt252 => ((l01e.f 2 2).bind fun bt254 => ((l01e.f 4 1).bind fun bt256 => ((l01e.f 10 2).bind fun bt258 => ((r01Same.f k bt231.1 (([(⟨bt252.1, bt252.2⟩ : S40), (⟨bt254.1, bt254.2⟩ : S40), (⟨bt256.1, bt256.2⟩ : S40), (⟨bt258.1, bt258.2⟩ : S40)] : List (S40)))).bind fun t263 => (if t263 = true then (if bt231.2 = 0 then (l01awake.j0 k t220 (bt240.2 == 2)) else (l01awake.j0 k t220 false)) else (l01awake.j0 k t220 false))))))) else (l01awake.j0 k t220 false)) else (l01awake.j0 k t220 false)))))))) = some r := H
  have A6 := Aside0.mk A60
  clear A60
  obtain ⟨y228, hy228⟩ : ∃ y_ : List (S40), y_ = (([(⟨t224, t225⟩ : S40), (⟨t226, t227⟩ : S40)] : List (S40))) := ⟨_, rfl⟩
  replace H : ((xSplit.f k y228 2).bind fun bt231 => ((l01e.f (-3) 5).bind fun bt235 => ((xNormalize.f k (([(⟨bt235.1, bt235.2⟩ : S40)] : List (S40)))).bind fun bt240 => ((l01e.f 0 2).bind fun bt244 => ((l01e.f 5 6).bind fun bt246 => ((r01Same.f k t220 (([(⟨bt244.1, bt244.2⟩ : S40), (⟨bt246.1, bt246.2⟩ : S40)] : List (S40)))).bind fun t251 => (if t251 = true then (if t221 = 0 then ((l01e.f 0 2).bind fun bt252 => ((l01e.f 2 2).bind fun bt254 => ((l01e.f 4 1).bind fun bt256 => ((l01e.f 10 2).bind fun bt258 => ((r01Same.f k bt231.1 (([(⟨bt252.1, bt252.2⟩ : S40), (⟨bt254.1, bt254.2⟩ : S40), (⟨bt256.1, bt256.2⟩ : S40), (⟨bt258.1, bt258.2⟩ : S40)] : List (S40)))).bind fun t263 => (if t263 = true then (if bt231.2 = 0 then (l01awake.j0 k t220 (bt240.2 == 2)) else (l01awake.j0 k t220 false)) else (l01awake.j0 k t220 false))))))) else (l01awake.j0 k t220 false)) else (l01awake.j0 k t220 false)))))))) = some r := by first | (rw [hy228]; with_reducible exact H) | (have H2_ := (Option.bind_some _ _).symm.trans H; rw [hy228]; with_reducible exact H2_) | (have H2_ := (Option.bind_some _ _).symm.trans H; with_reducible exact H2_) | with_reducible exact H | (rw [hy228]; exact H) | exact H
  have Ny228 := Aside0.mk hy228
  clear hy228
  replace H := Option.bind_eq_some_iff.mp H
  obtain ⟨⟨t231, t232⟩, A70, H⟩ := H
  replace H : ((l01e.f (-3) 5).bind fun bt235 => ((xNormalize.f k (([(⟨bt235.1, bt235.2⟩ : S40)] : List (S40)))).bind fun bt240 => ((l01e.f 0 2).bind fun bt244 => ((l01e.f 5 6).bind fun bt246 => ((r01Same.f k t220 (([(⟨bt244.1, bt244.2⟩ : S40), (⟨bt246.1, bt246.2⟩ : S40)] : List (S40)))).bind fun t251 => (if t251 = true then (if t221 = 0 then ((l01e.f 0 2).bind fun bt252 => ((l01e.f 2 2).bind fun bt254 => ((l01e.f 4 1).bind fun bt256 => ((l01e.f 10 2).bind fun bt258 => ((r01Same.f k t231 (([(⟨bt252.1, bt252.2⟩ : S40), (⟨bt254.1, bt254.2⟩ : S40), (⟨bt256.1, bt256.2⟩ : S40), (⟨bt258.1, bt258.2⟩ : S40)] : List (S40)))).bind fun t263 => (if t263 = true then (if t232 = 0 then (l01awake.j0 k t220 (bt240.2 == 2)) else (l01awake.j0 k t220 false)) else (l01awake.j0 k t220 false))))))) else (l01awake.j0 k t220 false)) else (l01awake.j0 k t220 false))))))) = some r := H
  have A7 := Aside0.mk A70
  clear A70
  replace H := Option.bind_eq_some_iff.mp H
  obtain ⟨⟨t235, t236⟩, A80, H⟩ := H
  replace H : ((xNormalize.f k (([(⟨t235, t236⟩ : S40)] : List (S40)))).bind fun bt240 => ((l01e.f 0 2).bind fun bt244 => ((l01e.f 5 6).bind fun bt246 => ((r01Same.f k t220 (([(⟨bt244.1, bt244.2⟩ : S40), (⟨bt246.1, bt246.2⟩ : S40)] : List (S40)))).bind fun t251 => (if t251 = true then (if t221 = 0 then ((l01e.f 0 2).bind fun bt252 => ((l01e.f 2 2).bind fun bt254 => ((l01e.f 4 1).bind fun bt256 => ((l01e.f 10 2).bind fun bt258 => ((r01Same.f k t231 (([(⟨bt252.1, bt252.2⟩ : S40), (⟨bt254.1, bt254.2⟩ : S40), (⟨bt256.1, bt256.2⟩ : S40), (⟨bt258.1, bt258.2⟩ : S40)] : List (S40)))).bind fun t263 => (if t263 = true then (if t232 = 0 then (l01awake.j0 k t220 (bt240.2 == 2)) else (l01awake.j0 k t220 false)) else (l01awake.j0 k t220 false))))))) else (l01awake.j0 k t220 false)) else (l01awake.j0 k t220 false)))))) = some r := H
  have A8 := Aside0.mk A80
  clear A80
  obtain ⟨y237, hy237⟩ : ∃ y_ : List (S40), y_ = (([(⟨t235, t236⟩ : S40)] : List (S40))) := ⟨_, rfl⟩
  replace H : ((xNormalize.f k y237).bind fun bt240 => ((l01e.f 0 2).bind fun bt244 => ((l01e.f 5 6).bind fun bt246 => ((r01Same.f k t220 (([(⟨bt244.1, bt244.2⟩ : S40), (⟨bt246.1, bt246.2⟩ : S40)] : List (S40)))).bind fun t251 => (if t251 = true then (if t221 = 0 then ((l01e.f 0 2).bind fun bt252 => ((l01e.f 2 2).bind fun bt254 => ((l01e.f 4 1).bind fun bt256 => ((l01e.f 10 2).bind fun bt258 => ((r01Same.f k t231 (([(⟨bt252.1, bt252.2⟩ : S40), (⟨bt254.1, bt254.2⟩ : S40), (⟨bt256.1, bt256.2⟩ : S40), (⟨bt258.1, bt258.2⟩ : S40)] : List (S40)))).bind fun t263 => (if t263 = true then (if t232 = 0 then (l01awake.j0 k t220 (bt240.2 == 2)) else (l01awake.j0 k t220 false)) else (l01awake.j0 k t220 false))))))) else (l01awake.j0 k t220 false)) else (l01awake.j0 k t220 false)))))) = some r := by first | (rw [hy237]; with_reducible exact H) | (have H2_ := (Option.bind_some _ _).symm.trans H; rw [hy237]; with_reducible exact H2_) | (have H2_ := (Option.bind_some _ _).symm.trans H; with_reducible exact H2_) | with_reducible exact H | (rw [hy237]; exact H) | exact H
  have Ny237 := Aside0.mk hy237
  clear hy237
  replace H := Option.bind_eq_some_iff.mp H
  obtain ⟨⟨t240, t241⟩, A90, H⟩ := H
  replace H : ((l01e.f 0 2).bind fun bt244 => ((l01e.f 5 6).bind fun bt246 => ((r01Same.f k t220 (([(⟨bt244.1, bt244.2⟩ : S40), (⟨bt246.1, bt246.2⟩ : S40)] : List (S40)))).bind fun t251 => (if t251 = true then (if t221 = 0 then ((l01e.f 0 2).bind fun bt252 => ((l01e.f 2 2).bind fun bt254 => ((l01e.f 4 1).bind fun bt256 => ((l01e.f 10 2).bind fun bt258 => ((r01Same.f k t231 (([(⟨bt252.1, bt252.2⟩ : S40), (⟨bt254.1, bt254.2⟩ : S40), (⟨bt256.1, bt256.2⟩ : S40), (⟨bt258.1, bt258.2⟩ : S40)] : List (S40)))).bind fun t263 => (if t263 = true then (if t232 = 0 then (l01awake.j0 k t220 (t241 == 2)) else (l01awake.j0 k t220 false)) else (l01awake.j0 k t220 false))))))) else (l01awake.j0 k t220 false)) else (l01awake.j0 k t220 false))))) = some r := H
  have A9 := Aside0.mk A90
  clear A90
  have HC10 := Aside0.mk H
  clear H
  go_enter Try.func13, Try.ntmps13
  go_upto_region 4 with (first | ((with_reducible refine gate_callee (f := 33) rfl ?_); refine goesL_ (some 9) rfl rfl Try.func33 (by kernel_rfl) rfl #[.int .i64 5, .int .i64 3] rfl (by (try simp only [List.map_toArray, List.map_cons, List.map_nil]); first | done | rfl | (simp only [List.length_drop, List.length_take]; rfl)) ?_; (with_reducible refine (l01e.calls 5 3 t211 t212 _ A1.out).mono ?_); rintro e w11 ⟨rfl, hb⟩; refine ⟨_, rfl, ?_⟩; have n0_ := Aside0.mk (below_step (by repeat (first | (with_reducible first | exact HB.out | apply below_alloc | apply pw_below_drewN | apply below_drew1) | exact HB.out)) hb); clear HB; have HB := n0_; clear n0_; (try clear hb); (try clear hb2); (try clear hk); (try clear hi)) | ((with_reducible refine gate_callee (f := 33) rfl ?_); refine goesL_ (some 10) rfl rfl Try.func33 (by kernel_rfl) rfl #[.int .i64 0, .int .i64 2] rfl (by (try simp only [List.map_toArray, List.map_cons, List.map_nil]); first | done | rfl | (simp only [List.length_drop, List.length_take]; rfl)) ?_; (with_reducible refine (l01e.calls 0 2 t213 t214 _ A2.out).mono ?_); rintro e w12 ⟨rfl, hb⟩; refine ⟨_, rfl, ?_⟩; have n0_ := Aside0.mk (below_step (by repeat (first | (with_reducible first | exact HB.out | apply below_alloc | apply pw_below_drewN | apply below_drew1) | exact HB.out)) hb); clear HB; have HB := n0_; clear n0_; (try clear hb); (try clear hb2); (try clear hk); (try clear hi)) | ((with_reducible refine gate_callee (f := 33) rfl ?_); refine goesL_ (some 11) rfl rfl Try.func33 (by kernel_rfl) rfl #[.int .i64 7, .int .i64 4] rfl (by (try simp only [List.map_toArray, List.map_cons, List.map_nil]); first | done | rfl | (simp only [List.length_drop, List.length_take]; rfl)) ?_; (with_reducible refine (l01e.calls 7 4 t215 t216 _ A3.out).mono ?_); rintro e w13 ⟨rfl, hb⟩; refine ⟨_, rfl, ?_⟩; have n0_ := Aside0.mk (below_step (by repeat (first | (with_reducible first | exact HB.out | apply below_alloc | apply pw_below_drewN | apply below_drew1) | exact HB.out)) hb); clear HB; have HB := n0_; clear n0_; (try clear hb); (try clear hb2); (try clear hk); (try clear hi)) | ((with_reducible refine gate_dst (N := 12) rfl ?_); (try (refine gate_guard (by rfl) ?_; dsimp only)); refine Kd.R_lit k40 _ 40 ?hg (N := 12) ?hd (xs := ([(⟨t211, t212⟩ : S40), (⟨t213, t214⟩ : S40), (⟨t215, t216⟩ : S40)] : List (S40))) (inner := [.int .i64 t211, .int .i64 t212, .int .i64 t213, .int .i64 t214, .int .i64 t215, .int .i64 t216]) (ok := fun _ => True) (okp := fun _ => True) ?hr ?hp (fun _ hk => hk) trivial (Below.refl _ _) (Nat.le_refl _) (by simp) ?_; (case hd => rfl); (case hg => rfl); (case hr => first | (go_simp; done) | (go_simp; rfl)); (case hp => exact (Reps.c2 (show Kd.M k40 _ _ _ (⟨t211, t212⟩ : S40) [.int .i64 t211, .int .i64 t212] from (k40_mkM _ _ _ (⟨t211, t212⟩ : S40) )) (Reps.c2 (show Kd.M k40 _ _ _ (⟨t213, t214⟩ : S40) [.int .i64 t213, .int .i64 t214] from (k40_mkM _ _ _ (⟨t213, t214⟩ : S40) )) (Reps.c2 (show Kd.M k40 _ _ _ (⟨t215, t216⟩ : S40) [.int .i64 t215, .int .i64 t216] from (k40_mkM _ _ _ (⟨t215, t216⟩ : S40) )) (Reps.none _ _))))); intro v218 w14 ho15 hb hg_ hnew_; clear hg_ hnew_; (first | rw [← Ny217.out] at ho15 | (simp only [Int.reduceToNat] at ho15; rw [← Ny217.out] at ho15)); have n0_ := Aside0.mk (Kd.R_lower ho15 (below_size (by repeat (first | (with_reducible first | exact HB.out | apply below_alloc | apply pw_below_drewN | apply below_drew1) | exact HB.out)))); have n1_ := Aside0.mk (below_step (by repeat (first | (with_reducible first | exact HB.out | apply below_alloc | apply pw_below_drewN | apply below_drew1) | exact HB.out)) hb); clear HB; have HO219 := n0_; have HB := n1_; clear n0_ n1_; clear hb ho15; obtain ⟨Ao16, co16, eo16⟩ := Kd.R_slice HO219.out; subst eo16) | ((with_reducible refine gate_callee (f := 16) rfl ?_); refine goesL_ (some 13) rfl rfl Try.func16 (by kernel_rfl) rfl #[.slice Ao16 y217.length co16] rfl (by (try simp only [List.map_toArray, List.map_cons, List.map_nil]); first | done | rfl | (simp only [List.length_drop, List.length_take]; rfl)) ?_; (with_reducible refine (xNormalize.calls k _ _ y217 t220 t221 _ ?side1 ?side2 A4.out).mono ?_); (case side1 => repeat (first | exact (Kd.R_reads' HO219.out).2.2 | (with_reducible refine Kd.C_alloc ?_ _) | (with_reducible refine Kd.C_drewN ?_ _) | (with_reducible refine Kd.C_drew ?_))); (case side2 => exact (Kd.R_reads' HO219.out).2.1); rintro e w17 ⟨v222, rfl, ho0, hb⟩; refine ⟨_, rfl, ?_⟩; have n0_ := Aside0.mk (Kd.R_elder' (by (with_reducible repeat (first | apply Kd.R_alloc | apply Kd.R_drewN | apply Kd.R_drew)); exact HO219.out) (Kd.R_base ho0) hb); have n1_ := Aside0.mk (Kd.R_lower (Kd.R_new' ho0 (Kd.R_lt (by (with_reducible repeat (first | apply Kd.R_alloc | apply Kd.R_drewN | apply Kd.R_drew)); exact HO219.out))) (below_size (by repeat (first | (with_reducible first | exact HB.out | apply below_alloc | apply pw_below_drewN | apply below_drew1) | exact HB.out)))); have n2_ := Aside0.mk (below_step (by repeat (first | (with_reducible first | exact HB.out | apply below_alloc | apply pw_below_drewN | apply below_drew1) | exact HB.out)) hb); clear HO219; clear HB; have HO219 := n0_; have HO223 := n1_; have HB := n2_; clear n0_ n1_ n2_; (try clear hb); (try clear hb2); (try clear hk); (try clear hi); (try clear ho0)) | ((with_reducible refine gate_callee (f := 33) rfl ?_); refine goesL_ (some 17) rfl rfl Try.func33 (by kernel_rfl) rfl #[.int .i64 0, .int .i64 5] rfl (by (try simp only [List.map_toArray, List.map_cons, List.map_nil]); first | done | rfl | (simp only [List.length_drop, List.length_take]; rfl)) ?_; (with_reducible refine (l01e.calls 0 5 t224 t225 _ A5.out).mono ?_); rintro e w18 ⟨rfl, hb⟩; refine ⟨_, rfl, ?_⟩; have n0_ := Aside0.mk (Kd.R_below (by (with_reducible repeat (first | apply Kd.R_alloc | apply Kd.R_drewN | apply Kd.R_drew)); exact HO219.out) hb); have n1_ := Aside0.mk (Kd.R_below (by (with_reducible repeat (first | apply Kd.R_alloc | apply Kd.R_drewN | apply Kd.R_drew)); exact HO223.out) hb); have n2_ := Aside0.mk (below_step (by repeat (first | (with_reducible first | exact HB.out | apply below_alloc | apply pw_below_drewN | apply below_drew1) | exact HB.out)) hb); clear HO219; clear HO223; clear HB; have HO219 := n0_; have HO223 := n1_; have HB := n2_; clear n0_ n1_ n2_; (try clear hb); (try clear hb2); (try clear hk); (try clear hi)) | ((with_reducible refine gate_callee (f := 33) rfl ?_); refine goesL_ (some 18) rfl rfl Try.func33 (by kernel_rfl) rfl #[.int .i64 10, .int .i64 2] rfl (by (try simp only [List.map_toArray, List.map_cons, List.map_nil]); first | done | rfl | (simp only [List.length_drop, List.length_take]; rfl)) ?_; (with_reducible refine (l01e.calls 10 2 t226 t227 _ A6.out).mono ?_); rintro e w19 ⟨rfl, hb⟩; refine ⟨_, rfl, ?_⟩; have n0_ := Aside0.mk (Kd.R_below (by (with_reducible repeat (first | apply Kd.R_alloc | apply Kd.R_drewN | apply Kd.R_drew)); exact HO219.out) hb); have n1_ := Aside0.mk (Kd.R_below (by (with_reducible repeat (first | apply Kd.R_alloc | apply Kd.R_drewN | apply Kd.R_drew)); exact HO223.out) hb); have n2_ := Aside0.mk (below_step (by repeat (first | (with_reducible first | exact HB.out | apply below_alloc | apply pw_below_drewN | apply below_drew1) | exact HB.out)) hb); clear HO219; clear HO223; clear HB; have HO219 := n0_; have HO223 := n1_; have HB := n2_; clear n0_ n1_ n2_; (try clear hb); (try clear hb2); (try clear hk); (try clear hi)) | ((with_reducible refine gate_dst (N := 19) rfl ?_); (try (refine gate_guard (by rfl) ?_; dsimp only)); refine Kd.R_lit k40 _ 40 ?hg (N := 19) ?hd (xs := ([(⟨t224, t225⟩ : S40), (⟨t226, t227⟩ : S40)] : List (S40))) (inner := [.int .i64 t224, .int .i64 t225, .int .i64 t226, .int .i64 t227]) (ok := fun _ => True) (okp := fun _ => True) ?hr ?hp (fun _ hk => hk) trivial (Below.refl _ _) (Nat.le_refl _) (by simp) ?_; (case hd => rfl); (case hg => rfl); (case hr => first | (go_simp; done) | (go_simp; rfl)); (case hp => exact (Reps.c2 (show Kd.M k40 _ _ _ (⟨t224, t225⟩ : S40) [.int .i64 t224, .int .i64 t225] from (k40_mkM _ _ _ (⟨t224, t225⟩ : S40) )) (Reps.c2 (show Kd.M k40 _ _ _ (⟨t226, t227⟩ : S40) [.int .i64 t226, .int .i64 t227] from (k40_mkM _ _ _ (⟨t226, t227⟩ : S40) )) (Reps.none _ _)))); intro v229 w20 ho21 hb hg_ hnew_; clear hg_ hnew_; (first | rw [← Ny228.out] at ho21 | (simp only [Int.reduceToNat] at ho21; rw [← Ny228.out] at ho21)); have n0_ := Aside0.mk (Kd.R_elder' (by (with_reducible repeat (first | apply Kd.R_alloc | apply Kd.R_drewN | apply Kd.R_drew)); exact HO219.out) (Kd.R_base ho21) hb); have n1_ := Aside0.mk (Kd.R_elder' (by (with_reducible repeat (first | apply Kd.R_alloc | apply Kd.R_drewN | apply Kd.R_drew)); exact HO223.out) (Kd.R_base ho21) hb); have n2_ := Aside0.mk (Kd.R_lower (Kd.R_new' (Kd.R_new' ho21 (Kd.R_lt (by (with_reducible repeat (first | apply Kd.R_alloc | apply Kd.R_drewN | apply Kd.R_drew)); exact HO219.out))) (Kd.R_lt (by (with_reducible repeat (first | apply Kd.R_alloc | apply Kd.R_drewN | apply Kd.R_drew)); exact HO223.out))) (below_size (by repeat (first | (with_reducible first | exact HB.out | apply below_alloc | apply pw_below_drewN | apply below_drew1) | exact HB.out)))); have n3_ := Aside0.mk (below_step (by repeat (first | (with_reducible first | exact HB.out | apply below_alloc | apply pw_below_drewN | apply below_drew1) | exact HB.out)) hb); clear HO219; clear HO223; clear HB; have HO219 := n0_; have HO223 := n1_; have HO230 := n2_; have HB := n3_; clear n0_ n1_ n2_ n3_; clear hb ho21; obtain ⟨Ao22, co22, eo22⟩ := Kd.R_slice HO230.out; subst eo22) | ((with_reducible refine gate_callee (f := 23) rfl ?_); refine goesL_ (some 20) rfl rfl Try.func23 (by kernel_rfl) rfl #[.slice Ao22 y228.length co22, .int .i64 2] rfl (by (try simp only [List.map_toArray, List.map_cons, List.map_nil]); first | done | rfl | (simp only [List.length_drop, List.length_take]; rfl)) ?_; (with_reducible refine (xSplit.calls k _ _ y228 2 t231 t232 _ ?side1 ?side2 A7.out).mono ?_); (case side1 => repeat (first | exact (Kd.R_reads' HO230.out).2.2 | (with_reducible refine Kd.C_alloc ?_ _) | (with_reducible refine Kd.C_drewN ?_ _) | (with_reducible refine Kd.C_drew ?_))); (case side2 => exact (Kd.R_reads' HO230.out).2.1); rintro e w23 ⟨v233, rfl, ho0, hb⟩; refine ⟨_, rfl, ?_⟩; have n0_ := Aside0.mk (Kd.R_elder' (by (with_reducible repeat (first | apply Kd.R_alloc | apply Kd.R_drewN | apply Kd.R_drew)); exact HO219.out) (Kd.R_base ho0) hb); have n1_ := Aside0.mk (Kd.R_elder' (by (with_reducible repeat (first | apply Kd.R_alloc | apply Kd.R_drewN | apply Kd.R_drew)); exact HO223.out) (Kd.R_base ho0) hb); have n2_ := Aside0.mk (Kd.R_elder' (by (with_reducible repeat (first | apply Kd.R_alloc | apply Kd.R_drewN | apply Kd.R_drew)); exact HO230.out) (Kd.R_base ho0) hb); have n3_ := Aside0.mk (Kd.R_lower (Kd.R_new' (Kd.R_new' (Kd.R_new' ho0 (Kd.R_lt (by (with_reducible repeat (first | apply Kd.R_alloc | apply Kd.R_drewN | apply Kd.R_drew)); exact HO219.out))) (Kd.R_lt (by (with_reducible repeat (first | apply Kd.R_alloc | apply Kd.R_drewN | apply Kd.R_drew)); exact HO223.out))) (Kd.R_lt (by (with_reducible repeat (first | apply Kd.R_alloc | apply Kd.R_drewN | apply Kd.R_drew)); exact HO230.out))) (below_size (by repeat (first | (with_reducible first | exact HB.out | apply below_alloc | apply pw_below_drewN | apply below_drew1) | exact HB.out)))); have n4_ := Aside0.mk (below_step (by repeat (first | (with_reducible first | exact HB.out | apply below_alloc | apply pw_below_drewN | apply below_drew1) | exact HB.out)) hb); clear HO219; clear HO223; clear HO230; clear HB; have HO219 := n0_; have HO223 := n1_; have HO230 := n2_; have HO234 := n3_; have HB := n4_; clear n0_ n1_ n2_ n3_ n4_; (try clear hb); (try clear hb2); (try clear hk); (try clear hi); (try clear ho0)) | ((with_reducible refine gate_callee (f := 33) rfl ?_); refine goesL_ (some 24) rfl rfl Try.func33 (by kernel_rfl) rfl #[.int .i64 (-3), .int .i64 5] rfl (by (try simp only [List.map_toArray, List.map_cons, List.map_nil]); first | done | rfl | (simp only [List.length_drop, List.length_take]; rfl)) ?_; (with_reducible refine (l01e.calls (-3) 5 t235 t236 _ A8.out).mono ?_); rintro e w24 ⟨rfl, hb⟩; refine ⟨_, rfl, ?_⟩; have n0_ := Aside0.mk (Kd.R_below (by (with_reducible repeat (first | apply Kd.R_alloc | apply Kd.R_drewN | apply Kd.R_drew)); exact HO219.out) hb); have n1_ := Aside0.mk (Kd.R_below (by (with_reducible repeat (first | apply Kd.R_alloc | apply Kd.R_drewN | apply Kd.R_drew)); exact HO223.out) hb); have n2_ := Aside0.mk (Kd.R_below (by (with_reducible repeat (first | apply Kd.R_alloc | apply Kd.R_drewN | apply Kd.R_drew)); exact HO230.out) hb); have n3_ := Aside0.mk (Kd.R_below (by (with_reducible repeat (first | apply Kd.R_alloc | apply Kd.R_drewN | apply Kd.R_drew)); exact HO234.out) hb); have n4_ := Aside0.mk (below_step (by repeat (first | (with_reducible first | exact HB.out | apply below_alloc | apply pw_below_drewN | apply below_drew1) | exact HB.out)) hb); clear HO219; clear HO223; clear HO230; clear HO234; clear HB; have HO219 := n0_; have HO223 := n1_; have HO230 := n2_; have HO234 := n3_; have HB := n4_; clear n0_ n1_ n2_ n3_ n4_; (try clear hb); (try clear hb2); (try clear hk); (try clear hi)) | ((with_reducible refine gate_dst (N := 25) rfl ?_); (try (refine gate_guard (by rfl) ?_; dsimp only)); refine Kd.R_lit k40 _ 40 ?hg (N := 25) ?hd (xs := ([(⟨t235, t236⟩ : S40)] : List (S40))) (inner := [.int .i64 t235, .int .i64 t236]) (ok := fun _ => True) (okp := fun _ => True) ?hr ?hp (fun _ hk => hk) trivial (Below.refl _ _) (Nat.le_refl _) (by simp) ?_; (case hd => rfl); (case hg => rfl); (case hr => first | (go_simp; done) | (go_simp; rfl)); (case hp => exact (Reps.c2 (show Kd.M k40 _ _ _ (⟨t235, t236⟩ : S40) [.int .i64 t235, .int .i64 t236] from (k40_mkM _ _ _ (⟨t235, t236⟩ : S40) )) (Reps.none _ _))); intro v238 w25 ho26 hb hg_ hnew_; clear hg_ hnew_; (first | rw [← Ny237.out] at ho26 | (simp only [Int.reduceToNat] at ho26; rw [← Ny237.out] at ho26)); have n0_ := Aside0.mk (Kd.R_elder' (by (with_reducible repeat (first | apply Kd.R_alloc | apply Kd.R_drewN | apply Kd.R_drew)); exact HO219.out) (Kd.R_base ho26) hb); have n1_ := Aside0.mk (Kd.R_elder' (by (with_reducible repeat (first | apply Kd.R_alloc | apply Kd.R_drewN | apply Kd.R_drew)); exact HO223.out) (Kd.R_base ho26) hb); have n2_ := Aside0.mk (Kd.R_elder' (by (with_reducible repeat (first | apply Kd.R_alloc | apply Kd.R_drewN | apply Kd.R_drew)); exact HO230.out) (Kd.R_base ho26) hb); have n3_ := Aside0.mk (Kd.R_elder' (by (with_reducible repeat (first | apply Kd.R_alloc | apply Kd.R_drewN | apply Kd.R_drew)); exact HO234.out) (Kd.R_base ho26) hb); have n4_ := Aside0.mk (Kd.R_lower (Kd.R_new' (Kd.R_new' (Kd.R_new' (Kd.R_new' ho26 (Kd.R_lt (by (with_reducible repeat (first | apply Kd.R_alloc | apply Kd.R_drewN | apply Kd.R_drew)); exact HO219.out))) (Kd.R_lt (by (with_reducible repeat (first | apply Kd.R_alloc | apply Kd.R_drewN | apply Kd.R_drew)); exact HO223.out))) (Kd.R_lt (by (with_reducible repeat (first | apply Kd.R_alloc | apply Kd.R_drewN | apply Kd.R_drew)); exact HO230.out))) (Kd.R_lt (by (with_reducible repeat (first | apply Kd.R_alloc | apply Kd.R_drewN | apply Kd.R_drew)); exact HO234.out))) (below_size (by repeat (first | (with_reducible first | exact HB.out | apply below_alloc | apply pw_below_drewN | apply below_drew1) | exact HB.out)))); have n5_ := Aside0.mk (below_step (by repeat (first | (with_reducible first | exact HB.out | apply below_alloc | apply pw_below_drewN | apply below_drew1) | exact HB.out)) hb); clear HO219; clear HO223; clear HO230; clear HO234; clear HB; have HO219 := n0_; have HO223 := n1_; have HO230 := n2_; have HO234 := n3_; have HO239 := n4_; have HB := n5_; clear n0_ n1_ n2_ n3_ n4_ n5_; clear hb ho26; obtain ⟨Ao27, co27, eo27⟩ := Kd.R_slice HO239.out; subst eo27) | ((with_reducible refine gate_callee (f := 16) rfl ?_); refine goesL_ (some 26) rfl rfl Try.func16 (by kernel_rfl) rfl #[.slice Ao27 y237.length co27] rfl (by (try simp only [List.map_toArray, List.map_cons, List.map_nil]); first | done | rfl | (simp only [List.length_drop, List.length_take]; rfl)) ?_; (with_reducible refine (xNormalize.calls k _ _ y237 t240 t241 _ ?side1 ?side2 A9.out).mono ?_); (case side1 => repeat (first | exact (Kd.R_reads' HO239.out).2.2 | (with_reducible refine Kd.C_alloc ?_ _) | (with_reducible refine Kd.C_drewN ?_ _) | (with_reducible refine Kd.C_drew ?_))); (case side2 => exact (Kd.R_reads' HO239.out).2.1); rintro e w28 ⟨v242, rfl, ho0, hb⟩; refine ⟨_, rfl, ?_⟩; have n0_ := Aside0.mk (Kd.R_elder' (by (with_reducible repeat (first | apply Kd.R_alloc | apply Kd.R_drewN | apply Kd.R_drew)); exact HO219.out) (Kd.R_base ho0) hb); have n1_ := Aside0.mk (Kd.R_elder' (by (with_reducible repeat (first | apply Kd.R_alloc | apply Kd.R_drewN | apply Kd.R_drew)); exact HO223.out) (Kd.R_base ho0) hb); have n2_ := Aside0.mk (Kd.R_elder' (by (with_reducible repeat (first | apply Kd.R_alloc | apply Kd.R_drewN | apply Kd.R_drew)); exact HO230.out) (Kd.R_base ho0) hb); have n3_ := Aside0.mk (Kd.R_elder' (by (with_reducible repeat (first | apply Kd.R_alloc | apply Kd.R_drewN | apply Kd.R_drew)); exact HO234.out) (Kd.R_base ho0) hb); have n4_ := Aside0.mk (Kd.R_elder' (by (with_reducible repeat (first | apply Kd.R_alloc | apply Kd.R_drewN | apply Kd.R_drew)); exact HO239.out) (Kd.R_base ho0) hb); have n5_ := Aside0.mk (Kd.R_lower (Kd.R_new' (Kd.R_new' (Kd.R_new' (Kd.R_new' (Kd.R_new' ho0 (Kd.R_lt (by (with_reducible repeat (first | apply Kd.R_alloc | apply Kd.R_drewN | apply Kd.R_drew)); exact HO219.out))) (Kd.R_lt (by (with_reducible repeat (first | apply Kd.R_alloc | apply Kd.R_drewN | apply Kd.R_drew)); exact HO223.out))) (Kd.R_lt (by (with_reducible repeat (first | apply Kd.R_alloc | apply Kd.R_drewN | apply Kd.R_drew)); exact HO230.out))) (Kd.R_lt (by (with_reducible repeat (first | apply Kd.R_alloc | apply Kd.R_drewN | apply Kd.R_drew)); exact HO234.out))) (Kd.R_lt (by (with_reducible repeat (first | apply Kd.R_alloc | apply Kd.R_drewN | apply Kd.R_drew)); exact HO239.out))) (below_size (by repeat (first | (with_reducible first | exact HB.out | apply below_alloc | apply pw_below_drewN | apply below_drew1) | exact HB.out)))); have n6_ := Aside0.mk (below_step (by repeat (first | (with_reducible first | exact HB.out | apply below_alloc | apply pw_below_drewN | apply below_drew1) | exact HB.out)) hb); clear HO219; clear HO223; clear HO230; clear HO234; clear HO239; clear HB; have HO219 := n0_; have HO223 := n1_; have HO230 := n2_; have HO234 := n3_; have HO239 := n4_; have HO243 := n5_; have HB := n6_; clear n0_ n1_ n2_ n3_ n4_ n5_ n6_; (try clear hb); (try clear hb2); (try clear hk); (try clear hi); (try clear ho0)))
  (try simp only [Act.put, List.setIfInBounds_toArray, List.set_cons_zero, List.set_cons_succ])
  go_cut [7] (fun v7 wc => ∃ (kq : Nat) (x7_9 : Bool), v7 = .bool x7_9 ∧ Aside0 (l01awake.j0 kq t220 x7_9 = some r) ∧ Aside0 (kq ≤ k) ∧ Aside0 (Kd.R k40 40 wc w.heap.size (fun _ => True) v222 t220) ∧ Aside0 (Below w.heap.size w wc))
  case first =>
    have H := HC10.out
    clear HC10
    replace H := Option.bind_eq_some_iff.mp H
    obtain ⟨⟨t244, t245⟩, A290, H⟩ := H
    replace H : ((l01e.f 5 6).bind fun bt246 => ((r01Same.f k t220 (([(⟨t244, t245⟩ : S40), (⟨bt246.1, bt246.2⟩ : S40)] : List (S40)))).bind fun t251 => (if t251 = true then (if t221 = 0 then ((l01e.f 0 2).bind fun bt252 => ((l01e.f 2 2).bind fun bt254 => ((l01e.f 4 1).bind fun bt256 => ((l01e.f 10 2).bind fun bt258 => ((r01Same.f k t231 (([(⟨bt252.1, bt252.2⟩ : S40), (⟨bt254.1, bt254.2⟩ : S40), (⟨bt256.1, bt256.2⟩ : S40), (⟨bt258.1, bt258.2⟩ : S40)] : List (S40)))).bind fun t263 => (if t263 = true then (if t232 = 0 then (l01awake.j0 k t220 (t241 == 2)) else (l01awake.j0 k t220 false)) else (l01awake.j0 k t220 false))))))) else (l01awake.j0 k t220 false)) else (l01awake.j0 k t220 false)))) = some r := H
    have A29 := Aside0.mk A290
    clear A290
    replace H := Option.bind_eq_some_iff.mp H
    obtain ⟨⟨t246, t247⟩, A300, H⟩ := H
    replace H : ((r01Same.f k t220 (([(⟨t244, t245⟩ : S40), (⟨t246, t247⟩ : S40)] : List (S40)))).bind fun t251 => (if t251 = true then (if t221 = 0 then ((l01e.f 0 2).bind fun bt252 => ((l01e.f 2 2).bind fun bt254 => ((l01e.f 4 1).bind fun bt256 => ((l01e.f 10 2).bind fun bt258 => ((r01Same.f k t231 (([(⟨bt252.1, bt252.2⟩ : S40), (⟨bt254.1, bt254.2⟩ : S40), (⟨bt256.1, bt256.2⟩ : S40), (⟨bt258.1, bt258.2⟩ : S40)] : List (S40)))).bind fun t263 => (if t263 = true then (if t232 = 0 then (l01awake.j0 k t220 (t241 == 2)) else (l01awake.j0 k t220 false)) else (l01awake.j0 k t220 false))))))) else (l01awake.j0 k t220 false)) else (l01awake.j0 k t220 false))) = some r := H
    have A30 := Aside0.mk A300
    clear A300
    obtain ⟨y248, hy248⟩ : ∃ y_ : List (S40), y_ = (([(⟨t244, t245⟩ : S40), (⟨t246, t247⟩ : S40)] : List (S40))) := ⟨_, rfl⟩
    replace H : ((r01Same.f k t220 y248).bind fun t251 => (if t251 = true then (if t221 = 0 then ((l01e.f 0 2).bind fun bt252 => ((l01e.f 2 2).bind fun bt254 => ((l01e.f 4 1).bind fun bt256 => ((l01e.f 10 2).bind fun bt258 => ((r01Same.f k t231 (([(⟨bt252.1, bt252.2⟩ : S40), (⟨bt254.1, bt254.2⟩ : S40), (⟨bt256.1, bt256.2⟩ : S40), (⟨bt258.1, bt258.2⟩ : S40)] : List (S40)))).bind fun t263 => (if t263 = true then (if t232 = 0 then (l01awake.j0 k t220 (t241 == 2)) else (l01awake.j0 k t220 false)) else (l01awake.j0 k t220 false))))))) else (l01awake.j0 k t220 false)) else (l01awake.j0 k t220 false))) = some r := by first | (rw [hy248]; with_reducible exact H) | (have H2_ := (Option.bind_some _ _).symm.trans H; rw [hy248]; with_reducible exact H2_) | (have H2_ := (Option.bind_some _ _).symm.trans H; with_reducible exact H2_) | with_reducible exact H | (rw [hy248]; exact H) | exact H
    have Ny248 := Aside0.mk hy248
    clear hy248
    replace H := Option.bind_eq_some_iff.mp H
    obtain ⟨t251, A310, H⟩ := H
    replace H : (if t251 = true then (if t221 = 0 then ((l01e.f 0 2).bind fun bt252 => ((l01e.f 2 2).bind fun bt254 => ((l01e.f 4 1).bind fun bt256 => ((l01e.f 10 2).bind fun bt258 => ((r01Same.f k t231 (([(⟨bt252.1, bt252.2⟩ : S40), (⟨bt254.1, bt254.2⟩ : S40), (⟨bt256.1, bt256.2⟩ : S40), (⟨bt258.1, bt258.2⟩ : S40)] : List (S40)))).bind fun t263 => (if t263 = true then (if t232 = 0 then (l01awake.j0 k t220 (t241 == 2)) else (l01awake.j0 k t220 false)) else (l01awake.j0 k t220 false))))))) else (l01awake.j0 k t220 false)) else (l01awake.j0 k t220 false)) = some r := H
    have A31 := Aside0.mk A310
    clear A310
    by_cases c32 : t251 = true
    · subst c32
      have H1 : (if t221 = 0 then ((l01e.f 0 2).bind fun bt252 => ((l01e.f 2 2).bind fun bt254 => ((l01e.f 4 1).bind fun bt256 => ((l01e.f 10 2).bind fun bt258 => ((r01Same.f k t231 (([(⟨bt252.1, bt252.2⟩ : S40), (⟨bt254.1, bt254.2⟩ : S40), (⟨bt256.1, bt256.2⟩ : S40), (⟨bt258.1, bt258.2⟩ : S40)] : List (S40)))).bind fun t263 => (if t263 = true then (if t232 = 0 then (l01awake.j0 k t220 (t241 == 2)) else (l01awake.j0 k t220 false)) else (l01awake.j0 k t220 false))))))) else (l01awake.j0 k t220 false)) = some r := by rw [if_pos rfl] at H; exact H
      clear H
      have H := H1
      clear H1
      by_cases c33 : t221 = 0
      · rw [if_pos c33] at H
        have c33b0 : (t221 == 0) = true := beq_iff_eq.mpr c33
        have c33b1 : (t221 != 0) = false := bne_eq_false_iff_eq.mpr c33
        clear c33
        (first | rw [c33b0] | (simp only [i64_w, i32_w]; rw [c33b0]) | skip)
        replace H := Option.bind_eq_some_iff.mp H
        obtain ⟨⟨t252, t253⟩, A340, H⟩ := H
        replace H : ((l01e.f 2 2).bind fun bt254 => ((l01e.f 4 1).bind fun bt256 => ((l01e.f 10 2).bind fun bt258 => ((r01Same.f k t231 (([(⟨t252, t253⟩ : S40), (⟨bt254.1, bt254.2⟩ : S40), (⟨bt256.1, bt256.2⟩ : S40), (⟨bt258.1, bt258.2⟩ : S40)] : List (S40)))).bind fun t263 => (if t263 = true then (if t232 = 0 then (l01awake.j0 k t220 (t241 == 2)) else (l01awake.j0 k t220 false)) else (l01awake.j0 k t220 false)))))) = some r := H
        have A34 := Aside0.mk A340
        clear A340
        replace H := Option.bind_eq_some_iff.mp H
        obtain ⟨⟨t254, t255⟩, A350, H⟩ := H
        replace H : ((l01e.f 4 1).bind fun bt256 => ((l01e.f 10 2).bind fun bt258 => ((r01Same.f k t231 (([(⟨t252, t253⟩ : S40), (⟨t254, t255⟩ : S40), (⟨bt256.1, bt256.2⟩ : S40), (⟨bt258.1, bt258.2⟩ : S40)] : List (S40)))).bind fun t263 => (if t263 = true then (if t232 = 0 then (l01awake.j0 k t220 (t241 == 2)) else (l01awake.j0 k t220 false)) else (l01awake.j0 k t220 false))))) = some r := H
        have A35 := Aside0.mk A350
        clear A350
        replace H := Option.bind_eq_some_iff.mp H
        obtain ⟨⟨t256, t257⟩, A360, H⟩ := H
        replace H : ((l01e.f 10 2).bind fun bt258 => ((r01Same.f k t231 (([(⟨t252, t253⟩ : S40), (⟨t254, t255⟩ : S40), (⟨t256, t257⟩ : S40), (⟨bt258.1, bt258.2⟩ : S40)] : List (S40)))).bind fun t263 => (if t263 = true then (if t232 = 0 then (l01awake.j0 k t220 (t241 == 2)) else (l01awake.j0 k t220 false)) else (l01awake.j0 k t220 false)))) = some r := H
        have A36 := Aside0.mk A360
        clear A360
        replace H := Option.bind_eq_some_iff.mp H
        obtain ⟨⟨t258, t259⟩, A370, H⟩ := H
        replace H : ((r01Same.f k t231 (([(⟨t252, t253⟩ : S40), (⟨t254, t255⟩ : S40), (⟨t256, t257⟩ : S40), (⟨t258, t259⟩ : S40)] : List (S40)))).bind fun t263 => (if t263 = true then (if t232 = 0 then (l01awake.j0 k t220 (t241 == 2)) else (l01awake.j0 k t220 false)) else (l01awake.j0 k t220 false))) = some r := H
        have A37 := Aside0.mk A370
        clear A370
        obtain ⟨y260, hy260⟩ : ∃ y_ : List (S40), y_ = (([(⟨t252, t253⟩ : S40), (⟨t254, t255⟩ : S40), (⟨t256, t257⟩ : S40), (⟨t258, t259⟩ : S40)] : List (S40))) := ⟨_, rfl⟩
        replace H : ((r01Same.f k t231 y260).bind fun t263 => (if t263 = true then (if t232 = 0 then (l01awake.j0 k t220 (t241 == 2)) else (l01awake.j0 k t220 false)) else (l01awake.j0 k t220 false))) = some r := by first | (rw [hy260]; with_reducible exact H) | (have H2_ := (Option.bind_some _ _).symm.trans H; rw [hy260]; with_reducible exact H2_) | (have H2_ := (Option.bind_some _ _).symm.trans H; with_reducible exact H2_) | with_reducible exact H | (rw [hy260]; exact H) | exact H
        have Ny260 := Aside0.mk hy260
        clear hy260
        replace H := Option.bind_eq_some_iff.mp H
        obtain ⟨t263, A380, H⟩ := H
        replace H : (if t263 = true then (if t232 = 0 then (l01awake.j0 k t220 (t241 == 2)) else (l01awake.j0 k t220 false)) else (l01awake.j0 k t220 false)) = some r := H
        have A38 := Aside0.mk A380
        clear A380
        by_cases c39 : t263 = true
        · subst c39
          have H1 : (if t232 = 0 then (l01awake.j0 k t220 (t241 == 2)) else (l01awake.j0 k t220 false)) = some r := by rw [if_pos rfl] at H; exact H
          clear H
          have H := H1
          clear H1
          by_cases c40 : t232 = 0
          · rw [if_pos c40] at H
            have c40b0 : (t232 == 0) = true := beq_iff_eq.mpr c40
            have c40b1 : (t232 != 0) = false := bne_eq_false_iff_eq.mpr c40
            clear c40
            have H' := Aside0.mk H
            clear H
            go_wp2_with (first | ((with_reducible refine gate_callee (f := 33) rfl ?_); refine goesL_ (some 30) rfl rfl Try.func33 (by kernel_rfl) rfl #[.int .i64 0, .int .i64 2] rfl (by (try simp only [List.map_toArray, List.map_cons, List.map_nil]); first | done | rfl | (simp only [List.length_drop, List.length_take]; rfl)) ?_; (with_reducible refine (l01e.calls 0 2 t244 t245 _ A29.out).mono ?_); rintro e w41 ⟨rfl, hb⟩; refine ⟨_, rfl, ?_⟩; have n0_ := Aside0.mk (Kd.R_below (by (with_reducible repeat (first | apply Kd.R_alloc | apply Kd.R_drewN | apply Kd.R_drew)); exact HO219.out) hb); have n1_ := Aside0.mk (Kd.R_below (by (with_reducible repeat (first | apply Kd.R_alloc | apply Kd.R_drewN | apply Kd.R_drew)); exact HO223.out) hb); have n2_ := Aside0.mk (Kd.R_below (by (with_reducible repeat (first | apply Kd.R_alloc | apply Kd.R_drewN | apply Kd.R_drew)); exact HO230.out) hb); have n3_ := Aside0.mk (Kd.R_below (by (with_reducible repeat (first | apply Kd.R_alloc | apply Kd.R_drewN | apply Kd.R_drew)); exact HO234.out) hb); have n4_ := Aside0.mk (Kd.R_below (by (with_reducible repeat (first | apply Kd.R_alloc | apply Kd.R_drewN | apply Kd.R_drew)); exact HO239.out) hb); have n5_ := Aside0.mk (Kd.R_below (by (with_reducible repeat (first | apply Kd.R_alloc | apply Kd.R_drewN | apply Kd.R_drew)); exact HO243.out) hb); have n6_ := Aside0.mk (below_step (by repeat (first | (with_reducible first | exact HB.out | apply below_alloc | apply pw_below_drewN | apply below_drew1) | exact HB.out)) hb); clear HO219; clear HO223; clear HO230; clear HO234; clear HO239; clear HO243; clear HB; have HO219 := n0_; have HO223 := n1_; have HO230 := n2_; have HO234 := n3_; have HO239 := n4_; have HO243 := n5_; have HB := n6_; clear n0_ n1_ n2_ n3_ n4_ n5_ n6_; (try clear hb); (try clear hb2); (try clear hk); (try clear hi)) | ((with_reducible refine gate_callee (f := 33) rfl ?_); refine goesL_ (some 31) rfl rfl Try.func33 (by kernel_rfl) rfl #[.int .i64 5, .int .i64 6] rfl (by (try simp only [List.map_toArray, List.map_cons, List.map_nil]); first | done | rfl | (simp only [List.length_drop, List.length_take]; rfl)) ?_; (with_reducible refine (l01e.calls 5 6 t246 t247 _ A30.out).mono ?_); rintro e w42 ⟨rfl, hb⟩; refine ⟨_, rfl, ?_⟩; have n0_ := Aside0.mk (Kd.R_below (by (with_reducible repeat (first | apply Kd.R_alloc | apply Kd.R_drewN | apply Kd.R_drew)); exact HO219.out) hb); have n1_ := Aside0.mk (Kd.R_below (by (with_reducible repeat (first | apply Kd.R_alloc | apply Kd.R_drewN | apply Kd.R_drew)); exact HO223.out) hb); have n2_ := Aside0.mk (Kd.R_below (by (with_reducible repeat (first | apply Kd.R_alloc | apply Kd.R_drewN | apply Kd.R_drew)); exact HO230.out) hb); have n3_ := Aside0.mk (Kd.R_below (by (with_reducible repeat (first | apply Kd.R_alloc | apply Kd.R_drewN | apply Kd.R_drew)); exact HO234.out) hb); have n4_ := Aside0.mk (Kd.R_below (by (with_reducible repeat (first | apply Kd.R_alloc | apply Kd.R_drewN | apply Kd.R_drew)); exact HO239.out) hb); have n5_ := Aside0.mk (Kd.R_below (by (with_reducible repeat (first | apply Kd.R_alloc | apply Kd.R_drewN | apply Kd.R_drew)); exact HO243.out) hb); have n6_ := Aside0.mk (below_step (by repeat (first | (with_reducible first | exact HB.out | apply below_alloc | apply pw_below_drewN | apply below_drew1) | exact HB.out)) hb); clear HO219; clear HO223; clear HO230; clear HO234; clear HO239; clear HO243; clear HB; have HO219 := n0_; have HO223 := n1_; have HO230 := n2_; have HO234 := n3_; have HO239 := n4_; have HO243 := n5_; have HB := n6_; clear n0_ n1_ n2_ n3_ n4_ n5_ n6_; (try clear hb); (try clear hb2); (try clear hk); (try clear hi)) | ((with_reducible refine gate_dst (N := 32) rfl ?_); (try (refine gate_guard (by rfl) ?_; dsimp only)); refine Kd.R_lit k40 _ 40 ?hg (N := 32) ?hd (xs := ([(⟨t244, t245⟩ : S40), (⟨t246, t247⟩ : S40)] : List (S40))) (inner := [.int .i64 t244, .int .i64 t245, .int .i64 t246, .int .i64 t247]) (ok := fun _ => True) (okp := fun _ => True) ?hr ?hp (fun _ hk => hk) trivial (Below.refl _ _) (Nat.le_refl _) (by simp) ?_; (case hd => rfl); (case hg => rfl); (case hr => first | (go_simp; done) | (go_simp; rfl)); (case hp => exact (Reps.c2 (show Kd.M k40 _ _ _ (⟨t244, t245⟩ : S40) [.int .i64 t244, .int .i64 t245] from (k40_mkM _ _ _ (⟨t244, t245⟩ : S40) )) (Reps.c2 (show Kd.M k40 _ _ _ (⟨t246, t247⟩ : S40) [.int .i64 t246, .int .i64 t247] from (k40_mkM _ _ _ (⟨t246, t247⟩ : S40) )) (Reps.none _ _)))); intro v249 w43 ho44 hb hg_ hnew_; clear hg_ hnew_; (first | rw [← Ny248.out] at ho44 | (simp only [Int.reduceToNat] at ho44; rw [← Ny248.out] at ho44)); have n0_ := Aside0.mk (Kd.R_elder' (by (with_reducible repeat (first | apply Kd.R_alloc | apply Kd.R_drewN | apply Kd.R_drew)); exact HO219.out) (Kd.R_base ho44) hb); have n1_ := Aside0.mk (Kd.R_elder' (by (with_reducible repeat (first | apply Kd.R_alloc | apply Kd.R_drewN | apply Kd.R_drew)); exact HO223.out) (Kd.R_base ho44) hb); have n2_ := Aside0.mk (Kd.R_elder' (by (with_reducible repeat (first | apply Kd.R_alloc | apply Kd.R_drewN | apply Kd.R_drew)); exact HO230.out) (Kd.R_base ho44) hb); have n3_ := Aside0.mk (Kd.R_elder' (by (with_reducible repeat (first | apply Kd.R_alloc | apply Kd.R_drewN | apply Kd.R_drew)); exact HO234.out) (Kd.R_base ho44) hb); have n4_ := Aside0.mk (Kd.R_elder' (by (with_reducible repeat (first | apply Kd.R_alloc | apply Kd.R_drewN | apply Kd.R_drew)); exact HO239.out) (Kd.R_base ho44) hb); have n5_ := Aside0.mk (Kd.R_elder' (by (with_reducible repeat (first | apply Kd.R_alloc | apply Kd.R_drewN | apply Kd.R_drew)); exact HO243.out) (Kd.R_base ho44) hb); have n6_ := Aside0.mk (Kd.R_lower (Kd.R_new' (Kd.R_new' (Kd.R_new' (Kd.R_new' (Kd.R_new' (Kd.R_new' ho44 (Kd.R_lt (by (with_reducible repeat (first | apply Kd.R_alloc | apply Kd.R_drewN | apply Kd.R_drew)); exact HO219.out))) (Kd.R_lt (by (with_reducible repeat (first | apply Kd.R_alloc | apply Kd.R_drewN | apply Kd.R_drew)); exact HO223.out))) (Kd.R_lt (by (with_reducible repeat (first | apply Kd.R_alloc | apply Kd.R_drewN | apply Kd.R_drew)); exact HO230.out))) (Kd.R_lt (by (with_reducible repeat (first | apply Kd.R_alloc | apply Kd.R_drewN | apply Kd.R_drew)); exact HO234.out))) (Kd.R_lt (by (with_reducible repeat (first | apply Kd.R_alloc | apply Kd.R_drewN | apply Kd.R_drew)); exact HO239.out))) (Kd.R_lt (by (with_reducible repeat (first | apply Kd.R_alloc | apply Kd.R_drewN | apply Kd.R_drew)); exact HO243.out))) (below_size (by repeat (first | (with_reducible first | exact HB.out | apply below_alloc | apply pw_below_drewN | apply below_drew1) | exact HB.out)))); have n7_ := Aside0.mk (below_step (by repeat (first | (with_reducible first | exact HB.out | apply below_alloc | apply pw_below_drewN | apply below_drew1) | exact HB.out)) hb); clear HO219; clear HO223; clear HO230; clear HO234; clear HO239; clear HO243; clear HB; have HO219 := n0_; have HO223 := n1_; have HO230 := n2_; have HO234 := n3_; have HO239 := n4_; have HO243 := n5_; have HO250 := n6_; have HB := n7_; clear n0_ n1_ n2_ n3_ n4_ n5_ n6_ n7_; clear hb ho44; obtain ⟨Ao45, co45, eo45⟩ := Kd.R_slice HO223.out; subst eo45; obtain ⟨Ao46, co46, eo46⟩ := Kd.R_slice HO250.out; subst eo46) | ((with_reducible refine gate_callee (f := 18) rfl ?_); refine goesL_ (some 33) rfl rfl Try.func18 (by kernel_rfl) rfl #[.slice Ao45 t220.length co45, .slice Ao46 y248.length co46] rfl (by (try simp only [List.map_toArray, List.map_cons, List.map_nil]); first | done | rfl | (simp only [List.length_drop, List.length_take]; rfl)) ?_; (with_reducible refine (r01Same.calls k _ _ t220 _ _ y248 true _ ?side1 ?side2 ?side3 ?side4 A31.out).mono ?_); (case side1 => repeat (first | exact (Kd.R_reads' HO223.out).2.2 | (with_reducible refine Kd.C_alloc ?_ _) | (with_reducible refine Kd.C_drewN ?_ _) | (with_reducible refine Kd.C_drew ?_))); (case side2 => exact (Kd.R_reads' HO223.out).2.1); (case side3 => repeat (first | exact (Kd.R_reads' HO250.out).2.2 | (with_reducible refine Kd.C_alloc ?_ _) | (with_reducible refine Kd.C_drewN ?_ _) | (with_reducible refine Kd.C_drew ?_))); (case side4 => exact (Kd.R_reads' HO250.out).2.1); rintro e w' ⟨rfl, ⟨nd, rfl⟩⟩; refine ⟨_, rfl, ?_⟩) | (go_at_call 33; (with_reducible refine (l01e.calls 0 2 t252 t253 _ A34.out).mono ?_); rintro e w47 ⟨rfl, hb⟩; have n0_ := Aside0.mk (Kd.R_below (by (with_reducible repeat (first | apply Kd.R_alloc | apply Kd.R_drewN | apply Kd.R_drew)); exact HO219.out) hb); have n1_ := Aside0.mk (Kd.R_below (by (with_reducible repeat (first | apply Kd.R_alloc | apply Kd.R_drewN | apply Kd.R_drew)); exact HO223.out) hb); have n2_ := Aside0.mk (Kd.R_below (by (with_reducible repeat (first | apply Kd.R_alloc | apply Kd.R_drewN | apply Kd.R_drew)); exact HO230.out) hb); have n3_ := Aside0.mk (Kd.R_below (by (with_reducible repeat (first | apply Kd.R_alloc | apply Kd.R_drewN | apply Kd.R_drew)); exact HO234.out) hb); have n4_ := Aside0.mk (Kd.R_below (by (with_reducible repeat (first | apply Kd.R_alloc | apply Kd.R_drewN | apply Kd.R_drew)); exact HO239.out) hb); have n5_ := Aside0.mk (Kd.R_below (by (with_reducible repeat (first | apply Kd.R_alloc | apply Kd.R_drewN | apply Kd.R_drew)); exact HO243.out) hb); have n6_ := Aside0.mk (Kd.R_below (by (with_reducible repeat (first | apply Kd.R_alloc | apply Kd.R_drewN | apply Kd.R_drew)); exact HO250.out) hb); have n7_ := Aside0.mk (below_step (by repeat (first | (with_reducible first | exact HB.out | apply below_alloc | apply pw_below_drewN | apply below_drew1) | exact HB.out)) hb); clear HO219; clear HO223; clear HO230; clear HO234; clear HO239; clear HO243; clear HO250; clear HB; have HO219 := n0_; have HO223 := n1_; have HO230 := n2_; have HO234 := n3_; have HO239 := n4_; have HO243 := n5_; have HO250 := n6_; have HB := n7_; clear n0_ n1_ n2_ n3_ n4_ n5_ n6_ n7_; (try clear hb); (try clear hb2); (try clear hk); (try clear hi)) | (go_at_call 33; (with_reducible refine (l01e.calls 2 2 t254 t255 _ A35.out).mono ?_); rintro e w48 ⟨rfl, hb⟩; have n0_ := Aside0.mk (Kd.R_below (by (with_reducible repeat (first | apply Kd.R_alloc | apply Kd.R_drewN | apply Kd.R_drew)); exact HO219.out) hb); have n1_ := Aside0.mk (Kd.R_below (by (with_reducible repeat (first | apply Kd.R_alloc | apply Kd.R_drewN | apply Kd.R_drew)); exact HO223.out) hb); have n2_ := Aside0.mk (Kd.R_below (by (with_reducible repeat (first | apply Kd.R_alloc | apply Kd.R_drewN | apply Kd.R_drew)); exact HO230.out) hb); have n3_ := Aside0.mk (Kd.R_below (by (with_reducible repeat (first | apply Kd.R_alloc | apply Kd.R_drewN | apply Kd.R_drew)); exact HO234.out) hb); have n4_ := Aside0.mk (Kd.R_below (by (with_reducible repeat (first | apply Kd.R_alloc | apply Kd.R_drewN | apply Kd.R_drew)); exact HO239.out) hb); have n5_ := Aside0.mk (Kd.R_below (by (with_reducible repeat (first | apply Kd.R_alloc | apply Kd.R_drewN | apply Kd.R_drew)); exact HO243.out) hb); have n6_ := Aside0.mk (Kd.R_below (by (with_reducible repeat (first | apply Kd.R_alloc | apply Kd.R_drewN | apply Kd.R_drew)); exact HO250.out) hb); have n7_ := Aside0.mk (below_step (by repeat (first | (with_reducible first | exact HB.out | apply below_alloc | apply pw_below_drewN | apply below_drew1) | exact HB.out)) hb); clear HO219; clear HO223; clear HO230; clear HO234; clear HO239; clear HO243; clear HO250; clear HB; have HO219 := n0_; have HO223 := n1_; have HO230 := n2_; have HO234 := n3_; have HO239 := n4_; have HO243 := n5_; have HO250 := n6_; have HB := n7_; clear n0_ n1_ n2_ n3_ n4_ n5_ n6_ n7_; (try clear hb); (try clear hb2); (try clear hk); (try clear hi)) | (go_at_call 33; (with_reducible refine (l01e.calls 4 1 t256 t257 _ A36.out).mono ?_); rintro e w49 ⟨rfl, hb⟩; have n0_ := Aside0.mk (Kd.R_below (by (with_reducible repeat (first | apply Kd.R_alloc | apply Kd.R_drewN | apply Kd.R_drew)); exact HO219.out) hb); have n1_ := Aside0.mk (Kd.R_below (by (with_reducible repeat (first | apply Kd.R_alloc | apply Kd.R_drewN | apply Kd.R_drew)); exact HO223.out) hb); have n2_ := Aside0.mk (Kd.R_below (by (with_reducible repeat (first | apply Kd.R_alloc | apply Kd.R_drewN | apply Kd.R_drew)); exact HO230.out) hb); have n3_ := Aside0.mk (Kd.R_below (by (with_reducible repeat (first | apply Kd.R_alloc | apply Kd.R_drewN | apply Kd.R_drew)); exact HO234.out) hb); have n4_ := Aside0.mk (Kd.R_below (by (with_reducible repeat (first | apply Kd.R_alloc | apply Kd.R_drewN | apply Kd.R_drew)); exact HO239.out) hb); have n5_ := Aside0.mk (Kd.R_below (by (with_reducible repeat (first | apply Kd.R_alloc | apply Kd.R_drewN | apply Kd.R_drew)); exact HO243.out) hb); have n6_ := Aside0.mk (Kd.R_below (by (with_reducible repeat (first | apply Kd.R_alloc | apply Kd.R_drewN | apply Kd.R_drew)); exact HO250.out) hb); have n7_ := Aside0.mk (below_step (by repeat (first | (with_reducible first | exact HB.out | apply below_alloc | apply pw_below_drewN | apply below_drew1) | exact HB.out)) hb); clear HO219; clear HO223; clear HO230; clear HO234; clear HO239; clear HO243; clear HO250; clear HB; have HO219 := n0_; have HO223 := n1_; have HO230 := n2_; have HO234 := n3_; have HO239 := n4_; have HO243 := n5_; have HO250 := n6_; have HB := n7_; clear n0_ n1_ n2_ n3_ n4_ n5_ n6_ n7_; (try clear hb); (try clear hb2); (try clear hk); (try clear hi)) | (go_at_call 33; (with_reducible refine (l01e.calls 10 2 t258 t259 _ A37.out).mono ?_); rintro e w50 ⟨rfl, hb⟩; have n0_ := Aside0.mk (Kd.R_below (by (with_reducible repeat (first | apply Kd.R_alloc | apply Kd.R_drewN | apply Kd.R_drew)); exact HO219.out) hb); have n1_ := Aside0.mk (Kd.R_below (by (with_reducible repeat (first | apply Kd.R_alloc | apply Kd.R_drewN | apply Kd.R_drew)); exact HO223.out) hb); have n2_ := Aside0.mk (Kd.R_below (by (with_reducible repeat (first | apply Kd.R_alloc | apply Kd.R_drewN | apply Kd.R_drew)); exact HO230.out) hb); have n3_ := Aside0.mk (Kd.R_below (by (with_reducible repeat (first | apply Kd.R_alloc | apply Kd.R_drewN | apply Kd.R_drew)); exact HO234.out) hb); have n4_ := Aside0.mk (Kd.R_below (by (with_reducible repeat (first | apply Kd.R_alloc | apply Kd.R_drewN | apply Kd.R_drew)); exact HO239.out) hb); have n5_ := Aside0.mk (Kd.R_below (by (with_reducible repeat (first | apply Kd.R_alloc | apply Kd.R_drewN | apply Kd.R_drew)); exact HO243.out) hb); have n6_ := Aside0.mk (Kd.R_below (by (with_reducible repeat (first | apply Kd.R_alloc | apply Kd.R_drewN | apply Kd.R_drew)); exact HO250.out) hb); have n7_ := Aside0.mk (below_step (by repeat (first | (with_reducible first | exact HB.out | apply below_alloc | apply pw_below_drewN | apply below_drew1) | exact HB.out)) hb); clear HO219; clear HO223; clear HO230; clear HO234; clear HO239; clear HO243; clear HO250; clear HB; have HO219 := n0_; have HO223 := n1_; have HO230 := n2_; have HO234 := n3_; have HO239 := n4_; have HO243 := n5_; have HO250 := n6_; have HB := n7_; clear n0_ n1_ n2_ n3_ n4_ n5_ n6_ n7_; (try clear hb); (try clear hb2); (try clear hk); (try clear hi)) | ((with_reducible refine gate_dst (N := 44) rfl ?_); (try (refine gate_guard (by rfl) ?_; dsimp only)); refine Kd.R_lit k40 _ 40 ?hg (N := 44) ?hd (xs := ([(⟨t252, t253⟩ : S40), (⟨t254, t255⟩ : S40), (⟨t256, t257⟩ : S40), (⟨t258, t259⟩ : S40)] : List (S40))) (inner := [.int .i64 t252, .int .i64 t253, .int .i64 t254, .int .i64 t255, .int .i64 t256, .int .i64 t257, .int .i64 t258, .int .i64 t259]) (ok := fun _ => True) (okp := fun _ => True) ?hr ?hp (fun _ hk => hk) trivial (Below.refl _ _) (Nat.le_refl _) (by simp) ?_; (case hd => rfl); (case hg => rfl); (case hr => first | (go_simp; done) | (go_simp; rfl)); (case hp => exact (Reps.c2 (show Kd.M k40 _ _ _ (⟨t252, t253⟩ : S40) [.int .i64 t252, .int .i64 t253] from (k40_mkM _ _ _ (⟨t252, t253⟩ : S40) )) (Reps.c2 (show Kd.M k40 _ _ _ (⟨t254, t255⟩ : S40) [.int .i64 t254, .int .i64 t255] from (k40_mkM _ _ _ (⟨t254, t255⟩ : S40) )) (Reps.c2 (show Kd.M k40 _ _ _ (⟨t256, t257⟩ : S40) [.int .i64 t256, .int .i64 t257] from (k40_mkM _ _ _ (⟨t256, t257⟩ : S40) )) (Reps.c2 (show Kd.M k40 _ _ _ (⟨t258, t259⟩ : S40) [.int .i64 t258, .int .i64 t259] from (k40_mkM _ _ _ (⟨t258, t259⟩ : S40) )) (Reps.none _ _)))))); intro v261 w51 ho52 hb hg_ hnew_; clear hg_ hnew_; (first | rw [← Ny260.out] at ho52 | (simp only [Int.reduceToNat] at ho52; rw [← Ny260.out] at ho52)); have n0_ := Aside0.mk (Kd.R_elder' (by (with_reducible repeat (first | apply Kd.R_alloc | apply Kd.R_drewN | apply Kd.R_drew)); exact HO219.out) (Kd.R_base ho52) hb); have n1_ := Aside0.mk (Kd.R_elder' (by (with_reducible repeat (first | apply Kd.R_alloc | apply Kd.R_drewN | apply Kd.R_drew)); exact HO223.out) (Kd.R_base ho52) hb); have n2_ := Aside0.mk (Kd.R_elder' (by (with_reducible repeat (first | apply Kd.R_alloc | apply Kd.R_drewN | apply Kd.R_drew)); exact HO230.out) (Kd.R_base ho52) hb); have n3_ := Aside0.mk (Kd.R_elder' (by (with_reducible repeat (first | apply Kd.R_alloc | apply Kd.R_drewN | apply Kd.R_drew)); exact HO234.out) (Kd.R_base ho52) hb); have n4_ := Aside0.mk (Kd.R_elder' (by (with_reducible repeat (first | apply Kd.R_alloc | apply Kd.R_drewN | apply Kd.R_drew)); exact HO239.out) (Kd.R_base ho52) hb); have n5_ := Aside0.mk (Kd.R_elder' (by (with_reducible repeat (first | apply Kd.R_alloc | apply Kd.R_drewN | apply Kd.R_drew)); exact HO243.out) (Kd.R_base ho52) hb); have n6_ := Aside0.mk (Kd.R_elder' (by (with_reducible repeat (first | apply Kd.R_alloc | apply Kd.R_drewN | apply Kd.R_drew)); exact HO250.out) (Kd.R_base ho52) hb); have n7_ := Aside0.mk (Kd.R_lower (Kd.R_new' (Kd.R_new' (Kd.R_new' (Kd.R_new' (Kd.R_new' (Kd.R_new' (Kd.R_new' ho52 (Kd.R_lt (by (with_reducible repeat (first | apply Kd.R_alloc | apply Kd.R_drewN | apply Kd.R_drew)); exact HO219.out))) (Kd.R_lt (by (with_reducible repeat (first | apply Kd.R_alloc | apply Kd.R_drewN | apply Kd.R_drew)); exact HO223.out))) (Kd.R_lt (by (with_reducible repeat (first | apply Kd.R_alloc | apply Kd.R_drewN | apply Kd.R_drew)); exact HO230.out))) (Kd.R_lt (by (with_reducible repeat (first | apply Kd.R_alloc | apply Kd.R_drewN | apply Kd.R_drew)); exact HO234.out))) (Kd.R_lt (by (with_reducible repeat (first | apply Kd.R_alloc | apply Kd.R_drewN | apply Kd.R_drew)); exact HO239.out))) (Kd.R_lt (by (with_reducible repeat (first | apply Kd.R_alloc | apply Kd.R_drewN | apply Kd.R_drew)); exact HO243.out))) (Kd.R_lt (by (with_reducible repeat (first | apply Kd.R_alloc | apply Kd.R_drewN | apply Kd.R_drew)); exact HO250.out))) (below_size (by repeat (first | (with_reducible first | exact HB.out | apply below_alloc | apply pw_below_drewN | apply below_drew1) | exact HB.out)))); have n8_ := Aside0.mk (below_step (by repeat (first | (with_reducible first | exact HB.out | apply below_alloc | apply pw_below_drewN | apply below_drew1) | exact HB.out)) hb); clear HO219; clear HO223; clear HO230; clear HO234; clear HO239; clear HO243; clear HO250; clear HB; have HO219 := n0_; have HO223 := n1_; have HO230 := n2_; have HO234 := n3_; have HO239 := n4_; have HO243 := n5_; have HO250 := n6_; have HO262 := n7_; have HB := n8_; clear n0_ n1_ n2_ n3_ n4_ n5_ n6_ n7_ n8_; clear hb ho52; obtain ⟨Ao53, co53, eo53⟩ := Kd.R_slice HO234.out; subst eo53; obtain ⟨Ao54, co54, eo54⟩ := Kd.R_slice HO262.out; subst eo54) | (go_at_call 18; (with_reducible refine (r01Same.calls k _ _ t231 _ _ y260 true _ ?side1 ?side2 ?side3 ?side4 A38.out).mono ?_); (case side1 => repeat (first | exact (Kd.R_reads' HO234.out).2.2 | (with_reducible refine Kd.C_alloc ?_ _) | (with_reducible refine Kd.C_drewN ?_ _) | (with_reducible refine Kd.C_drew ?_))); (case side2 => exact (Kd.R_reads' HO234.out).2.1); (case side3 => repeat (first | exact (Kd.R_reads' HO262.out).2.2 | (with_reducible refine Kd.C_alloc ?_ _) | (with_reducible refine Kd.C_drewN ?_ _) | (with_reducible refine Kd.C_drew ?_))); (case side4 => exact (Kd.R_reads' HO262.out).2.1); rintro e w' ⟨rfl, ⟨nd, rfl⟩⟩))
            go_meet
            case rel => exact ⟨_, ((t241 == 2)), (by first | rfl | (simp; done) | (simp [*]; done)), H', ⟨by first | omega | exact Nat.le_refl _⟩, ⟨by (with_reducible repeat (first | apply Kd.R_alloc | apply Kd.R_drewN | apply Kd.R_drew)); exact Kd.R_mono HO223.out (fun _ hk => trivial)⟩, ⟨by repeat (first | (with_reducible first | exact HB.out | apply below_alloc | apply pw_below_drewN | apply below_drew1) | exact HB.out)⟩⟩
          · rw [if_neg c40] at H
            have c40b0 : (t232 == 0) = false := beq_eq_false_iff_ne.mpr c40
            have c40b1 : (t232 != 0) = true := bne_iff_ne.mpr c40
            have H' := Aside0.mk H
            clear H
            go_wp2_with (first | ((with_reducible refine gate_callee (f := 33) rfl ?_); refine goesL_ (some 30) rfl rfl Try.func33 (by kernel_rfl) rfl #[.int .i64 0, .int .i64 2] rfl (by (try simp only [List.map_toArray, List.map_cons, List.map_nil]); first | done | rfl | (simp only [List.length_drop, List.length_take]; rfl)) ?_; (with_reducible refine (l01e.calls 0 2 t244 t245 _ A29.out).mono ?_); rintro e w55 ⟨rfl, hb⟩; refine ⟨_, rfl, ?_⟩; have n0_ := Aside0.mk (Kd.R_below (by (with_reducible repeat (first | apply Kd.R_alloc | apply Kd.R_drewN | apply Kd.R_drew)); exact HO219.out) hb); have n1_ := Aside0.mk (Kd.R_below (by (with_reducible repeat (first | apply Kd.R_alloc | apply Kd.R_drewN | apply Kd.R_drew)); exact HO223.out) hb); have n2_ := Aside0.mk (Kd.R_below (by (with_reducible repeat (first | apply Kd.R_alloc | apply Kd.R_drewN | apply Kd.R_drew)); exact HO230.out) hb); have n3_ := Aside0.mk (Kd.R_below (by (with_reducible repeat (first | apply Kd.R_alloc | apply Kd.R_drewN | apply Kd.R_drew)); exact HO234.out) hb); have n4_ := Aside0.mk (Kd.R_below (by (with_reducible repeat (first | apply Kd.R_alloc | apply Kd.R_drewN | apply Kd.R_drew)); exact HO239.out) hb); have n5_ := Aside0.mk (Kd.R_below (by (with_reducible repeat (first | apply Kd.R_alloc | apply Kd.R_drewN | apply Kd.R_drew)); exact HO243.out) hb); have n6_ := Aside0.mk (below_step (by repeat (first | (with_reducible first | exact HB.out | apply below_alloc | apply pw_below_drewN | apply below_drew1) | exact HB.out)) hb); clear HO219; clear HO223; clear HO230; clear HO234; clear HO239; clear HO243; clear HB; have HO219 := n0_; have HO223 := n1_; have HO230 := n2_; have HO234 := n3_; have HO239 := n4_; have HO243 := n5_; have HB := n6_; clear n0_ n1_ n2_ n3_ n4_ n5_ n6_; (try clear hb); (try clear hb2); (try clear hk); (try clear hi)) | ((with_reducible refine gate_callee (f := 33) rfl ?_); refine goesL_ (some 31) rfl rfl Try.func33 (by kernel_rfl) rfl #[.int .i64 5, .int .i64 6] rfl (by (try simp only [List.map_toArray, List.map_cons, List.map_nil]); first | done | rfl | (simp only [List.length_drop, List.length_take]; rfl)) ?_; (with_reducible refine (l01e.calls 5 6 t246 t247 _ A30.out).mono ?_); rintro e w56 ⟨rfl, hb⟩; refine ⟨_, rfl, ?_⟩; have n0_ := Aside0.mk (Kd.R_below (by (with_reducible repeat (first | apply Kd.R_alloc | apply Kd.R_drewN | apply Kd.R_drew)); exact HO219.out) hb); have n1_ := Aside0.mk (Kd.R_below (by (with_reducible repeat (first | apply Kd.R_alloc | apply Kd.R_drewN | apply Kd.R_drew)); exact HO223.out) hb); have n2_ := Aside0.mk (Kd.R_below (by (with_reducible repeat (first | apply Kd.R_alloc | apply Kd.R_drewN | apply Kd.R_drew)); exact HO230.out) hb); have n3_ := Aside0.mk (Kd.R_below (by (with_reducible repeat (first | apply Kd.R_alloc | apply Kd.R_drewN | apply Kd.R_drew)); exact HO234.out) hb); have n4_ := Aside0.mk (Kd.R_below (by (with_reducible repeat (first | apply Kd.R_alloc | apply Kd.R_drewN | apply Kd.R_drew)); exact HO239.out) hb); have n5_ := Aside0.mk (Kd.R_below (by (with_reducible repeat (first | apply Kd.R_alloc | apply Kd.R_drewN | apply Kd.R_drew)); exact HO243.out) hb); have n6_ := Aside0.mk (below_step (by repeat (first | (with_reducible first | exact HB.out | apply below_alloc | apply pw_below_drewN | apply below_drew1) | exact HB.out)) hb); clear HO219; clear HO223; clear HO230; clear HO234; clear HO239; clear HO243; clear HB; have HO219 := n0_; have HO223 := n1_; have HO230 := n2_; have HO234 := n3_; have HO239 := n4_; have HO243 := n5_; have HB := n6_; clear n0_ n1_ n2_ n3_ n4_ n5_ n6_; (try clear hb); (try clear hb2); (try clear hk); (try clear hi)) | ((with_reducible refine gate_dst (N := 32) rfl ?_); (try (refine gate_guard (by rfl) ?_; dsimp only)); refine Kd.R_lit k40 _ 40 ?hg (N := 32) ?hd (xs := ([(⟨t244, t245⟩ : S40), (⟨t246, t247⟩ : S40)] : List (S40))) (inner := [.int .i64 t244, .int .i64 t245, .int .i64 t246, .int .i64 t247]) (ok := fun _ => True) (okp := fun _ => True) ?hr ?hp (fun _ hk => hk) trivial (Below.refl _ _) (Nat.le_refl _) (by simp) ?_; (case hd => rfl); (case hg => rfl); (case hr => first | (go_simp; done) | (go_simp; rfl)); (case hp => exact (Reps.c2 (show Kd.M k40 _ _ _ (⟨t244, t245⟩ : S40) [.int .i64 t244, .int .i64 t245] from (k40_mkM _ _ _ (⟨t244, t245⟩ : S40) )) (Reps.c2 (show Kd.M k40 _ _ _ (⟨t246, t247⟩ : S40) [.int .i64 t246, .int .i64 t247] from (k40_mkM _ _ _ (⟨t246, t247⟩ : S40) )) (Reps.none _ _)))); intro v249 w57 ho58 hb hg_ hnew_; clear hg_ hnew_; (first | rw [← Ny248.out] at ho58 | (simp only [Int.reduceToNat] at ho58; rw [← Ny248.out] at ho58)); have n0_ := Aside0.mk (Kd.R_elder' (by (with_reducible repeat (first | apply Kd.R_alloc | apply Kd.R_drewN | apply Kd.R_drew)); exact HO219.out) (Kd.R_base ho58) hb); have n1_ := Aside0.mk (Kd.R_elder' (by (with_reducible repeat (first | apply Kd.R_alloc | apply Kd.R_drewN | apply Kd.R_drew)); exact HO223.out) (Kd.R_base ho58) hb); have n2_ := Aside0.mk (Kd.R_elder' (by (with_reducible repeat (first | apply Kd.R_alloc | apply Kd.R_drewN | apply Kd.R_drew)); exact HO230.out) (Kd.R_base ho58) hb); have n3_ := Aside0.mk (Kd.R_elder' (by (with_reducible repeat (first | apply Kd.R_alloc | apply Kd.R_drewN | apply Kd.R_drew)); exact HO234.out) (Kd.R_base ho58) hb); have n4_ := Aside0.mk (Kd.R_elder' (by (with_reducible repeat (first | apply Kd.R_alloc | apply Kd.R_drewN | apply Kd.R_drew)); exact HO239.out) (Kd.R_base ho58) hb); have n5_ := Aside0.mk (Kd.R_elder' (by (with_reducible repeat (first | apply Kd.R_alloc | apply Kd.R_drewN | apply Kd.R_drew)); exact HO243.out) (Kd.R_base ho58) hb); have n6_ := Aside0.mk (Kd.R_lower (Kd.R_new' (Kd.R_new' (Kd.R_new' (Kd.R_new' (Kd.R_new' (Kd.R_new' ho58 (Kd.R_lt (by (with_reducible repeat (first | apply Kd.R_alloc | apply Kd.R_drewN | apply Kd.R_drew)); exact HO219.out))) (Kd.R_lt (by (with_reducible repeat (first | apply Kd.R_alloc | apply Kd.R_drewN | apply Kd.R_drew)); exact HO223.out))) (Kd.R_lt (by (with_reducible repeat (first | apply Kd.R_alloc | apply Kd.R_drewN | apply Kd.R_drew)); exact HO230.out))) (Kd.R_lt (by (with_reducible repeat (first | apply Kd.R_alloc | apply Kd.R_drewN | apply Kd.R_drew)); exact HO234.out))) (Kd.R_lt (by (with_reducible repeat (first | apply Kd.R_alloc | apply Kd.R_drewN | apply Kd.R_drew)); exact HO239.out))) (Kd.R_lt (by (with_reducible repeat (first | apply Kd.R_alloc | apply Kd.R_drewN | apply Kd.R_drew)); exact HO243.out))) (below_size (by repeat (first | (with_reducible first | exact HB.out | apply below_alloc | apply pw_below_drewN | apply below_drew1) | exact HB.out)))); have n7_ := Aside0.mk (below_step (by repeat (first | (with_reducible first | exact HB.out | apply below_alloc | apply pw_below_drewN | apply below_drew1) | exact HB.out)) hb); clear HO219; clear HO223; clear HO230; clear HO234; clear HO239; clear HO243; clear HB; have HO219 := n0_; have HO223 := n1_; have HO230 := n2_; have HO234 := n3_; have HO239 := n4_; have HO243 := n5_; have HO250 := n6_; have HB := n7_; clear n0_ n1_ n2_ n3_ n4_ n5_ n6_ n7_; clear hb ho58; obtain ⟨Ao59, co59, eo59⟩ := Kd.R_slice HO223.out; subst eo59; obtain ⟨Ao60, co60, eo60⟩ := Kd.R_slice HO250.out; subst eo60) | ((with_reducible refine gate_callee (f := 18) rfl ?_); refine goesL_ (some 33) rfl rfl Try.func18 (by kernel_rfl) rfl #[.slice Ao59 t220.length co59, .slice Ao60 y248.length co60] rfl (by (try simp only [List.map_toArray, List.map_cons, List.map_nil]); first | done | rfl | (simp only [List.length_drop, List.length_take]; rfl)) ?_; (with_reducible refine (r01Same.calls k _ _ t220 _ _ y248 true _ ?side1 ?side2 ?side3 ?side4 A31.out).mono ?_); (case side1 => repeat (first | exact (Kd.R_reads' HO223.out).2.2 | (with_reducible refine Kd.C_alloc ?_ _) | (with_reducible refine Kd.C_drewN ?_ _) | (with_reducible refine Kd.C_drew ?_))); (case side2 => exact (Kd.R_reads' HO223.out).2.1); (case side3 => repeat (first | exact (Kd.R_reads' HO250.out).2.2 | (with_reducible refine Kd.C_alloc ?_ _) | (with_reducible refine Kd.C_drewN ?_ _) | (with_reducible refine Kd.C_drew ?_))); (case side4 => exact (Kd.R_reads' HO250.out).2.1); rintro e w' ⟨rfl, ⟨nd, rfl⟩⟩; refine ⟨_, rfl, ?_⟩) | (go_at_call 33; (with_reducible refine (l01e.calls 0 2 t252 t253 _ A34.out).mono ?_); rintro e w61 ⟨rfl, hb⟩; have n0_ := Aside0.mk (Kd.R_below (by (with_reducible repeat (first | apply Kd.R_alloc | apply Kd.R_drewN | apply Kd.R_drew)); exact HO219.out) hb); have n1_ := Aside0.mk (Kd.R_below (by (with_reducible repeat (first | apply Kd.R_alloc | apply Kd.R_drewN | apply Kd.R_drew)); exact HO223.out) hb); have n2_ := Aside0.mk (Kd.R_below (by (with_reducible repeat (first | apply Kd.R_alloc | apply Kd.R_drewN | apply Kd.R_drew)); exact HO230.out) hb); have n3_ := Aside0.mk (Kd.R_below (by (with_reducible repeat (first | apply Kd.R_alloc | apply Kd.R_drewN | apply Kd.R_drew)); exact HO234.out) hb); have n4_ := Aside0.mk (Kd.R_below (by (with_reducible repeat (first | apply Kd.R_alloc | apply Kd.R_drewN | apply Kd.R_drew)); exact HO239.out) hb); have n5_ := Aside0.mk (Kd.R_below (by (with_reducible repeat (first | apply Kd.R_alloc | apply Kd.R_drewN | apply Kd.R_drew)); exact HO243.out) hb); have n6_ := Aside0.mk (Kd.R_below (by (with_reducible repeat (first | apply Kd.R_alloc | apply Kd.R_drewN | apply Kd.R_drew)); exact HO250.out) hb); have n7_ := Aside0.mk (below_step (by repeat (first | (with_reducible first | exact HB.out | apply below_alloc | apply pw_below_drewN | apply below_drew1) | exact HB.out)) hb); clear HO219; clear HO223; clear HO230; clear HO234; clear HO239; clear HO243; clear HO250; clear HB; have HO219 := n0_; have HO223 := n1_; have HO230 := n2_; have HO234 := n3_; have HO239 := n4_; have HO243 := n5_; have HO250 := n6_; have HB := n7_; clear n0_ n1_ n2_ n3_ n4_ n5_ n6_ n7_; (try clear hb); (try clear hb2); (try clear hk); (try clear hi)) | (go_at_call 33; (with_reducible refine (l01e.calls 2 2 t254 t255 _ A35.out).mono ?_); rintro e w62 ⟨rfl, hb⟩; have n0_ := Aside0.mk (Kd.R_below (by (with_reducible repeat (first | apply Kd.R_alloc | apply Kd.R_drewN | apply Kd.R_drew)); exact HO219.out) hb); have n1_ := Aside0.mk (Kd.R_below (by (with_reducible repeat (first | apply Kd.R_alloc | apply Kd.R_drewN | apply Kd.R_drew)); exact HO223.out) hb); have n2_ := Aside0.mk (Kd.R_below (by (with_reducible repeat (first | apply Kd.R_alloc | apply Kd.R_drewN | apply Kd.R_drew)); exact HO230.out) hb); have n3_ := Aside0.mk (Kd.R_below (by (with_reducible repeat (first | apply Kd.R_alloc | apply Kd.R_drewN | apply Kd.R_drew)); exact HO234.out) hb); have n4_ := Aside0.mk (Kd.R_below (by (with_reducible repeat (first | apply Kd.R_alloc | apply Kd.R_drewN | apply Kd.R_drew)); exact HO239.out) hb); have n5_ := Aside0.mk (Kd.R_below (by (with_reducible repeat (first | apply Kd.R_alloc | apply Kd.R_drewN | apply Kd.R_drew)); exact HO243.out) hb); have n6_ := Aside0.mk (Kd.R_below (by (with_reducible repeat (first | apply Kd.R_alloc | apply Kd.R_drewN | apply Kd.R_drew)); exact HO250.out) hb); have n7_ := Aside0.mk (below_step (by repeat (first | (with_reducible first | exact HB.out | apply below_alloc | apply pw_below_drewN | apply below_drew1) | exact HB.out)) hb); clear HO219; clear HO223; clear HO230; clear HO234; clear HO239; clear HO243; clear HO250; clear HB; have HO219 := n0_; have HO223 := n1_; have HO230 := n2_; have HO234 := n3_; have HO239 := n4_; have HO243 := n5_; have HO250 := n6_; have HB := n7_; clear n0_ n1_ n2_ n3_ n4_ n5_ n6_ n7_; (try clear hb); (try clear hb2); (try clear hk); (try clear hi)) | (go_at_call 33; (with_reducible refine (l01e.calls 4 1 t256 t257 _ A36.out).mono ?_); rintro e w63 ⟨rfl, hb⟩; have n0_ := Aside0.mk (Kd.R_below (by (with_reducible repeat (first | apply Kd.R_alloc | apply Kd.R_drewN | apply Kd.R_drew)); exact HO219.out) hb); have n1_ := Aside0.mk (Kd.R_below (by (with_reducible repeat (first | apply Kd.R_alloc | apply Kd.R_drewN | apply Kd.R_drew)); exact HO223.out) hb); have n2_ := Aside0.mk (Kd.R_below (by (with_reducible repeat (first | apply Kd.R_alloc | apply Kd.R_drewN | apply Kd.R_drew)); exact HO230.out) hb); have n3_ := Aside0.mk (Kd.R_below (by (with_reducible repeat (first | apply Kd.R_alloc | apply Kd.R_drewN | apply Kd.R_drew)); exact HO234.out) hb); have n4_ := Aside0.mk (Kd.R_below (by (with_reducible repeat (first | apply Kd.R_alloc | apply Kd.R_drewN | apply Kd.R_drew)); exact HO239.out) hb); have n5_ := Aside0.mk (Kd.R_below (by (with_reducible repeat (first | apply Kd.R_alloc | apply Kd.R_drewN | apply Kd.R_drew)); exact HO243.out) hb); have n6_ := Aside0.mk (Kd.R_below (by (with_reducible repeat (first | apply Kd.R_alloc | apply Kd.R_drewN | apply Kd.R_drew)); exact HO250.out) hb); have n7_ := Aside0.mk (below_step (by repeat (first | (with_reducible first | exact HB.out | apply below_alloc | apply pw_below_drewN | apply below_drew1) | exact HB.out)) hb); clear HO219; clear HO223; clear HO230; clear HO234; clear HO239; clear HO243; clear HO250; clear HB; have HO219 := n0_; have HO223 := n1_; have HO230 := n2_; have HO234 := n3_; have HO239 := n4_; have HO243 := n5_; have HO250 := n6_; have HB := n7_; clear n0_ n1_ n2_ n3_ n4_ n5_ n6_ n7_; (try clear hb); (try clear hb2); (try clear hk); (try clear hi)) | (go_at_call 33; (with_reducible refine (l01e.calls 10 2 t258 t259 _ A37.out).mono ?_); rintro e w64 ⟨rfl, hb⟩; have n0_ := Aside0.mk (Kd.R_below (by (with_reducible repeat (first | apply Kd.R_alloc | apply Kd.R_drewN | apply Kd.R_drew)); exact HO219.out) hb); have n1_ := Aside0.mk (Kd.R_below (by (with_reducible repeat (first | apply Kd.R_alloc | apply Kd.R_drewN | apply Kd.R_drew)); exact HO223.out) hb); have n2_ := Aside0.mk (Kd.R_below (by (with_reducible repeat (first | apply Kd.R_alloc | apply Kd.R_drewN | apply Kd.R_drew)); exact HO230.out) hb); have n3_ := Aside0.mk (Kd.R_below (by (with_reducible repeat (first | apply Kd.R_alloc | apply Kd.R_drewN | apply Kd.R_drew)); exact HO234.out) hb); have n4_ := Aside0.mk (Kd.R_below (by (with_reducible repeat (first | apply Kd.R_alloc | apply Kd.R_drewN | apply Kd.R_drew)); exact HO239.out) hb); have n5_ := Aside0.mk (Kd.R_below (by (with_reducible repeat (first | apply Kd.R_alloc | apply Kd.R_drewN | apply Kd.R_drew)); exact HO243.out) hb); have n6_ := Aside0.mk (Kd.R_below (by (with_reducible repeat (first | apply Kd.R_alloc | apply Kd.R_drewN | apply Kd.R_drew)); exact HO250.out) hb); have n7_ := Aside0.mk (below_step (by repeat (first | (with_reducible first | exact HB.out | apply below_alloc | apply pw_below_drewN | apply below_drew1) | exact HB.out)) hb); clear HO219; clear HO223; clear HO230; clear HO234; clear HO239; clear HO243; clear HO250; clear HB; have HO219 := n0_; have HO223 := n1_; have HO230 := n2_; have HO234 := n3_; have HO239 := n4_; have HO243 := n5_; have HO250 := n6_; have HB := n7_; clear n0_ n1_ n2_ n3_ n4_ n5_ n6_ n7_; (try clear hb); (try clear hb2); (try clear hk); (try clear hi)) | ((with_reducible refine gate_dst (N := 44) rfl ?_); (try (refine gate_guard (by rfl) ?_; dsimp only)); refine Kd.R_lit k40 _ 40 ?hg (N := 44) ?hd (xs := ([(⟨t252, t253⟩ : S40), (⟨t254, t255⟩ : S40), (⟨t256, t257⟩ : S40), (⟨t258, t259⟩ : S40)] : List (S40))) (inner := [.int .i64 t252, .int .i64 t253, .int .i64 t254, .int .i64 t255, .int .i64 t256, .int .i64 t257, .int .i64 t258, .int .i64 t259]) (ok := fun _ => True) (okp := fun _ => True) ?hr ?hp (fun _ hk => hk) trivial (Below.refl _ _) (Nat.le_refl _) (by simp) ?_; (case hd => rfl); (case hg => rfl); (case hr => first | (go_simp; done) | (go_simp; rfl)); (case hp => exact (Reps.c2 (show Kd.M k40 _ _ _ (⟨t252, t253⟩ : S40) [.int .i64 t252, .int .i64 t253] from (k40_mkM _ _ _ (⟨t252, t253⟩ : S40) )) (Reps.c2 (show Kd.M k40 _ _ _ (⟨t254, t255⟩ : S40) [.int .i64 t254, .int .i64 t255] from (k40_mkM _ _ _ (⟨t254, t255⟩ : S40) )) (Reps.c2 (show Kd.M k40 _ _ _ (⟨t256, t257⟩ : S40) [.int .i64 t256, .int .i64 t257] from (k40_mkM _ _ _ (⟨t256, t257⟩ : S40) )) (Reps.c2 (show Kd.M k40 _ _ _ (⟨t258, t259⟩ : S40) [.int .i64 t258, .int .i64 t259] from (k40_mkM _ _ _ (⟨t258, t259⟩ : S40) )) (Reps.none _ _)))))); intro v261 w65 ho66 hb hg_ hnew_; clear hg_ hnew_; (first | rw [← Ny260.out] at ho66 | (simp only [Int.reduceToNat] at ho66; rw [← Ny260.out] at ho66)); have n0_ := Aside0.mk (Kd.R_elder' (by (with_reducible repeat (first | apply Kd.R_alloc | apply Kd.R_drewN | apply Kd.R_drew)); exact HO219.out) (Kd.R_base ho66) hb); have n1_ := Aside0.mk (Kd.R_elder' (by (with_reducible repeat (first | apply Kd.R_alloc | apply Kd.R_drewN | apply Kd.R_drew)); exact HO223.out) (Kd.R_base ho66) hb); have n2_ := Aside0.mk (Kd.R_elder' (by (with_reducible repeat (first | apply Kd.R_alloc | apply Kd.R_drewN | apply Kd.R_drew)); exact HO230.out) (Kd.R_base ho66) hb); have n3_ := Aside0.mk (Kd.R_elder' (by (with_reducible repeat (first | apply Kd.R_alloc | apply Kd.R_drewN | apply Kd.R_drew)); exact HO234.out) (Kd.R_base ho66) hb); have n4_ := Aside0.mk (Kd.R_elder' (by (with_reducible repeat (first | apply Kd.R_alloc | apply Kd.R_drewN | apply Kd.R_drew)); exact HO239.out) (Kd.R_base ho66) hb); have n5_ := Aside0.mk (Kd.R_elder' (by (with_reducible repeat (first | apply Kd.R_alloc | apply Kd.R_drewN | apply Kd.R_drew)); exact HO243.out) (Kd.R_base ho66) hb); have n6_ := Aside0.mk (Kd.R_elder' (by (with_reducible repeat (first | apply Kd.R_alloc | apply Kd.R_drewN | apply Kd.R_drew)); exact HO250.out) (Kd.R_base ho66) hb); have n7_ := Aside0.mk (Kd.R_lower (Kd.R_new' (Kd.R_new' (Kd.R_new' (Kd.R_new' (Kd.R_new' (Kd.R_new' (Kd.R_new' ho66 (Kd.R_lt (by (with_reducible repeat (first | apply Kd.R_alloc | apply Kd.R_drewN | apply Kd.R_drew)); exact HO219.out))) (Kd.R_lt (by (with_reducible repeat (first | apply Kd.R_alloc | apply Kd.R_drewN | apply Kd.R_drew)); exact HO223.out))) (Kd.R_lt (by (with_reducible repeat (first | apply Kd.R_alloc | apply Kd.R_drewN | apply Kd.R_drew)); exact HO230.out))) (Kd.R_lt (by (with_reducible repeat (first | apply Kd.R_alloc | apply Kd.R_drewN | apply Kd.R_drew)); exact HO234.out))) (Kd.R_lt (by (with_reducible repeat (first | apply Kd.R_alloc | apply Kd.R_drewN | apply Kd.R_drew)); exact HO239.out))) (Kd.R_lt (by (with_reducible repeat (first | apply Kd.R_alloc | apply Kd.R_drewN | apply Kd.R_drew)); exact HO243.out))) (Kd.R_lt (by (with_reducible repeat (first | apply Kd.R_alloc | apply Kd.R_drewN | apply Kd.R_drew)); exact HO250.out))) (below_size (by repeat (first | (with_reducible first | exact HB.out | apply below_alloc | apply pw_below_drewN | apply below_drew1) | exact HB.out)))); have n8_ := Aside0.mk (below_step (by repeat (first | (with_reducible first | exact HB.out | apply below_alloc | apply pw_below_drewN | apply below_drew1) | exact HB.out)) hb); clear HO219; clear HO223; clear HO230; clear HO234; clear HO239; clear HO243; clear HO250; clear HB; have HO219 := n0_; have HO223 := n1_; have HO230 := n2_; have HO234 := n3_; have HO239 := n4_; have HO243 := n5_; have HO250 := n6_; have HO262 := n7_; have HB := n8_; clear n0_ n1_ n2_ n3_ n4_ n5_ n6_ n7_ n8_; clear hb ho66; obtain ⟨Ao67, co67, eo67⟩ := Kd.R_slice HO234.out; subst eo67; obtain ⟨Ao68, co68, eo68⟩ := Kd.R_slice HO262.out; subst eo68) | (go_at_call 18; (with_reducible refine (r01Same.calls k _ _ t231 _ _ y260 true _ ?side1 ?side2 ?side3 ?side4 A38.out).mono ?_); (case side1 => repeat (first | exact (Kd.R_reads' HO234.out).2.2 | (with_reducible refine Kd.C_alloc ?_ _) | (with_reducible refine Kd.C_drewN ?_ _) | (with_reducible refine Kd.C_drew ?_))); (case side2 => exact (Kd.R_reads' HO234.out).2.1); (case side3 => repeat (first | exact (Kd.R_reads' HO262.out).2.2 | (with_reducible refine Kd.C_alloc ?_ _) | (with_reducible refine Kd.C_drewN ?_ _) | (with_reducible refine Kd.C_drew ?_))); (case side4 => exact (Kd.R_reads' HO262.out).2.1); rintro e w' ⟨rfl, ⟨nd, rfl⟩⟩))
            go_meet
            case rel => exact ⟨_, (false), (by first | rfl | (simp; done) | (simp [*]; done)), H', ⟨by first | omega | exact Nat.le_refl _⟩, ⟨by (with_reducible repeat (first | apply Kd.R_alloc | apply Kd.R_drewN | apply Kd.R_drew)); exact Kd.R_mono HO223.out (fun _ hk => trivial)⟩, ⟨by repeat (first | (with_reducible first | exact HB.out | apply below_alloc | apply pw_below_drewN | apply below_drew1) | exact HB.out)⟩⟩
        · replace c39 := Bool.eq_false_iff.mpr c39
          subst c39
          have H1 : (l01awake.j0 k t220 false) = some r := by rw [if_neg (show ¬ (false = true) by decide)] at H; exact H
          clear H
          have H := H1
          clear H1
          have H' := Aside0.mk H
          clear H
          go_wp2_with (first | ((with_reducible refine gate_callee (f := 33) rfl ?_); refine goesL_ (some 30) rfl rfl Try.func33 (by kernel_rfl) rfl #[.int .i64 0, .int .i64 2] rfl (by (try simp only [List.map_toArray, List.map_cons, List.map_nil]); first | done | rfl | (simp only [List.length_drop, List.length_take]; rfl)) ?_; (with_reducible refine (l01e.calls 0 2 t244 t245 _ A29.out).mono ?_); rintro e w69 ⟨rfl, hb⟩; refine ⟨_, rfl, ?_⟩; have n0_ := Aside0.mk (Kd.R_below (by (with_reducible repeat (first | apply Kd.R_alloc | apply Kd.R_drewN | apply Kd.R_drew)); exact HO219.out) hb); have n1_ := Aside0.mk (Kd.R_below (by (with_reducible repeat (first | apply Kd.R_alloc | apply Kd.R_drewN | apply Kd.R_drew)); exact HO223.out) hb); have n2_ := Aside0.mk (Kd.R_below (by (with_reducible repeat (first | apply Kd.R_alloc | apply Kd.R_drewN | apply Kd.R_drew)); exact HO230.out) hb); have n3_ := Aside0.mk (Kd.R_below (by (with_reducible repeat (first | apply Kd.R_alloc | apply Kd.R_drewN | apply Kd.R_drew)); exact HO234.out) hb); have n4_ := Aside0.mk (Kd.R_below (by (with_reducible repeat (first | apply Kd.R_alloc | apply Kd.R_drewN | apply Kd.R_drew)); exact HO239.out) hb); have n5_ := Aside0.mk (Kd.R_below (by (with_reducible repeat (first | apply Kd.R_alloc | apply Kd.R_drewN | apply Kd.R_drew)); exact HO243.out) hb); have n6_ := Aside0.mk (below_step (by repeat (first | (with_reducible first | exact HB.out | apply below_alloc | apply pw_below_drewN | apply below_drew1) | exact HB.out)) hb); clear HO219; clear HO223; clear HO230; clear HO234; clear HO239; clear HO243; clear HB; have HO219 := n0_; have HO223 := n1_; have HO230 := n2_; have HO234 := n3_; have HO239 := n4_; have HO243 := n5_; have HB := n6_; clear n0_ n1_ n2_ n3_ n4_ n5_ n6_; (try clear hb); (try clear hb2); (try clear hk); (try clear hi)) | ((with_reducible refine gate_callee (f := 33) rfl ?_); refine goesL_ (some 31) rfl rfl Try.func33 (by kernel_rfl) rfl #[.int .i64 5, .int .i64 6] rfl (by (try simp only [List.map_toArray, List.map_cons, List.map_nil]); first | done | rfl | (simp only [List.length_drop, List.length_take]; rfl)) ?_; (with_reducible refine (l01e.calls 5 6 t246 t247 _ A30.out).mono ?_); rintro e w70 ⟨rfl, hb⟩; refine ⟨_, rfl, ?_⟩; have n0_ := Aside0.mk (Kd.R_below (by (with_reducible repeat (first | apply Kd.R_alloc | apply Kd.R_drewN | apply Kd.R_drew)); exact HO219.out) hb); have n1_ := Aside0.mk (Kd.R_below (by (with_reducible repeat (first | apply Kd.R_alloc | apply Kd.R_drewN | apply Kd.R_drew)); exact HO223.out) hb); have n2_ := Aside0.mk (Kd.R_below (by (with_reducible repeat (first | apply Kd.R_alloc | apply Kd.R_drewN | apply Kd.R_drew)); exact HO230.out) hb); have n3_ := Aside0.mk (Kd.R_below (by (with_reducible repeat (first | apply Kd.R_alloc | apply Kd.R_drewN | apply Kd.R_drew)); exact HO234.out) hb); have n4_ := Aside0.mk (Kd.R_below (by (with_reducible repeat (first | apply Kd.R_alloc | apply Kd.R_drewN | apply Kd.R_drew)); exact HO239.out) hb); have n5_ := Aside0.mk (Kd.R_below (by (with_reducible repeat (first | apply Kd.R_alloc | apply Kd.R_drewN | apply Kd.R_drew)); exact HO243.out) hb); have n6_ := Aside0.mk (below_step (by repeat (first | (with_reducible first | exact HB.out | apply below_alloc | apply pw_below_drewN | apply below_drew1) | exact HB.out)) hb); clear HO219; clear HO223; clear HO230; clear HO234; clear HO239; clear HO243; clear HB; have HO219 := n0_; have HO223 := n1_; have HO230 := n2_; have HO234 := n3_; have HO239 := n4_; have HO243 := n5_; have HB := n6_; clear n0_ n1_ n2_ n3_ n4_ n5_ n6_; (try clear hb); (try clear hb2); (try clear hk); (try clear hi)) | ((with_reducible refine gate_dst (N := 32) rfl ?_); (try (refine gate_guard (by rfl) ?_; dsimp only)); refine Kd.R_lit k40 _ 40 ?hg (N := 32) ?hd (xs := ([(⟨t244, t245⟩ : S40), (⟨t246, t247⟩ : S40)] : List (S40))) (inner := [.int .i64 t244, .int .i64 t245, .int .i64 t246, .int .i64 t247]) (ok := fun _ => True) (okp := fun _ => True) ?hr ?hp (fun _ hk => hk) trivial (Below.refl _ _) (Nat.le_refl _) (by simp) ?_; (case hd => rfl); (case hg => rfl); (case hr => first | (go_simp; done) | (go_simp; rfl)); (case hp => exact (Reps.c2 (show Kd.M k40 _ _ _ (⟨t244, t245⟩ : S40) [.int .i64 t244, .int .i64 t245] from (k40_mkM _ _ _ (⟨t244, t245⟩ : S40) )) (Reps.c2 (show Kd.M k40 _ _ _ (⟨t246, t247⟩ : S40) [.int .i64 t246, .int .i64 t247] from (k40_mkM _ _ _ (⟨t246, t247⟩ : S40) )) (Reps.none _ _)))); intro v249 w71 ho72 hb hg_ hnew_; clear hg_ hnew_; (first | rw [← Ny248.out] at ho72 | (simp only [Int.reduceToNat] at ho72; rw [← Ny248.out] at ho72)); have n0_ := Aside0.mk (Kd.R_elder' (by (with_reducible repeat (first | apply Kd.R_alloc | apply Kd.R_drewN | apply Kd.R_drew)); exact HO219.out) (Kd.R_base ho72) hb); have n1_ := Aside0.mk (Kd.R_elder' (by (with_reducible repeat (first | apply Kd.R_alloc | apply Kd.R_drewN | apply Kd.R_drew)); exact HO223.out) (Kd.R_base ho72) hb); have n2_ := Aside0.mk (Kd.R_elder' (by (with_reducible repeat (first | apply Kd.R_alloc | apply Kd.R_drewN | apply Kd.R_drew)); exact HO230.out) (Kd.R_base ho72) hb); have n3_ := Aside0.mk (Kd.R_elder' (by (with_reducible repeat (first | apply Kd.R_alloc | apply Kd.R_drewN | apply Kd.R_drew)); exact HO234.out) (Kd.R_base ho72) hb); have n4_ := Aside0.mk (Kd.R_elder' (by (with_reducible repeat (first | apply Kd.R_alloc | apply Kd.R_drewN | apply Kd.R_drew)); exact HO239.out) (Kd.R_base ho72) hb); have n5_ := Aside0.mk (Kd.R_elder' (by (with_reducible repeat (first | apply Kd.R_alloc | apply Kd.R_drewN | apply Kd.R_drew)); exact HO243.out) (Kd.R_base ho72) hb); have n6_ := Aside0.mk (Kd.R_lower (Kd.R_new' (Kd.R_new' (Kd.R_new' (Kd.R_new' (Kd.R_new' (Kd.R_new' ho72 (Kd.R_lt (by (with_reducible repeat (first | apply Kd.R_alloc | apply Kd.R_drewN | apply Kd.R_drew)); exact HO219.out))) (Kd.R_lt (by (with_reducible repeat (first | apply Kd.R_alloc | apply Kd.R_drewN | apply Kd.R_drew)); exact HO223.out))) (Kd.R_lt (by (with_reducible repeat (first | apply Kd.R_alloc | apply Kd.R_drewN | apply Kd.R_drew)); exact HO230.out))) (Kd.R_lt (by (with_reducible repeat (first | apply Kd.R_alloc | apply Kd.R_drewN | apply Kd.R_drew)); exact HO234.out))) (Kd.R_lt (by (with_reducible repeat (first | apply Kd.R_alloc | apply Kd.R_drewN | apply Kd.R_drew)); exact HO239.out))) (Kd.R_lt (by (with_reducible repeat (first | apply Kd.R_alloc | apply Kd.R_drewN | apply Kd.R_drew)); exact HO243.out))) (below_size (by repeat (first | (with_reducible first | exact HB.out | apply below_alloc | apply pw_below_drewN | apply below_drew1) | exact HB.out)))); have n7_ := Aside0.mk (below_step (by repeat (first | (with_reducible first | exact HB.out | apply below_alloc | apply pw_below_drewN | apply below_drew1) | exact HB.out)) hb); clear HO219; clear HO223; clear HO230; clear HO234; clear HO239; clear HO243; clear HB; have HO219 := n0_; have HO223 := n1_; have HO230 := n2_; have HO234 := n3_; have HO239 := n4_; have HO243 := n5_; have HO250 := n6_; have HB := n7_; clear n0_ n1_ n2_ n3_ n4_ n5_ n6_ n7_; clear hb ho72; obtain ⟨Ao73, co73, eo73⟩ := Kd.R_slice HO223.out; subst eo73; obtain ⟨Ao74, co74, eo74⟩ := Kd.R_slice HO250.out; subst eo74) | ((with_reducible refine gate_callee (f := 18) rfl ?_); refine goesL_ (some 33) rfl rfl Try.func18 (by kernel_rfl) rfl #[.slice Ao73 t220.length co73, .slice Ao74 y248.length co74] rfl (by (try simp only [List.map_toArray, List.map_cons, List.map_nil]); first | done | rfl | (simp only [List.length_drop, List.length_take]; rfl)) ?_; (with_reducible refine (r01Same.calls k _ _ t220 _ _ y248 true _ ?side1 ?side2 ?side3 ?side4 A31.out).mono ?_); (case side1 => repeat (first | exact (Kd.R_reads' HO223.out).2.2 | (with_reducible refine Kd.C_alloc ?_ _) | (with_reducible refine Kd.C_drewN ?_ _) | (with_reducible refine Kd.C_drew ?_))); (case side2 => exact (Kd.R_reads' HO223.out).2.1); (case side3 => repeat (first | exact (Kd.R_reads' HO250.out).2.2 | (with_reducible refine Kd.C_alloc ?_ _) | (with_reducible refine Kd.C_drewN ?_ _) | (with_reducible refine Kd.C_drew ?_))); (case side4 => exact (Kd.R_reads' HO250.out).2.1); rintro e w' ⟨rfl, ⟨nd, rfl⟩⟩; refine ⟨_, rfl, ?_⟩) | (go_at_call 33; (with_reducible refine (l01e.calls 0 2 t252 t253 _ A34.out).mono ?_); rintro e w75 ⟨rfl, hb⟩; have n0_ := Aside0.mk (Kd.R_below (by (with_reducible repeat (first | apply Kd.R_alloc | apply Kd.R_drewN | apply Kd.R_drew)); exact HO219.out) hb); have n1_ := Aside0.mk (Kd.R_below (by (with_reducible repeat (first | apply Kd.R_alloc | apply Kd.R_drewN | apply Kd.R_drew)); exact HO223.out) hb); have n2_ := Aside0.mk (Kd.R_below (by (with_reducible repeat (first | apply Kd.R_alloc | apply Kd.R_drewN | apply Kd.R_drew)); exact HO230.out) hb); have n3_ := Aside0.mk (Kd.R_below (by (with_reducible repeat (first | apply Kd.R_alloc | apply Kd.R_drewN | apply Kd.R_drew)); exact HO234.out) hb); have n4_ := Aside0.mk (Kd.R_below (by (with_reducible repeat (first | apply Kd.R_alloc | apply Kd.R_drewN | apply Kd.R_drew)); exact HO239.out) hb); have n5_ := Aside0.mk (Kd.R_below (by (with_reducible repeat (first | apply Kd.R_alloc | apply Kd.R_drewN | apply Kd.R_drew)); exact HO243.out) hb); have n6_ := Aside0.mk (Kd.R_below (by (with_reducible repeat (first | apply Kd.R_alloc | apply Kd.R_drewN | apply Kd.R_drew)); exact HO250.out) hb); have n7_ := Aside0.mk (below_step (by repeat (first | (with_reducible first | exact HB.out | apply below_alloc | apply pw_below_drewN | apply below_drew1) | exact HB.out)) hb); clear HO219; clear HO223; clear HO230; clear HO234; clear HO239; clear HO243; clear HO250; clear HB; have HO219 := n0_; have HO223 := n1_; have HO230 := n2_; have HO234 := n3_; have HO239 := n4_; have HO243 := n5_; have HO250 := n6_; have HB := n7_; clear n0_ n1_ n2_ n3_ n4_ n5_ n6_ n7_; (try clear hb); (try clear hb2); (try clear hk); (try clear hi)) | (go_at_call 33; (with_reducible refine (l01e.calls 2 2 t254 t255 _ A35.out).mono ?_); rintro e w76 ⟨rfl, hb⟩; have n0_ := Aside0.mk (Kd.R_below (by (with_reducible repeat (first | apply Kd.R_alloc | apply Kd.R_drewN | apply Kd.R_drew)); exact HO219.out) hb); have n1_ := Aside0.mk (Kd.R_below (by (with_reducible repeat (first | apply Kd.R_alloc | apply Kd.R_drewN | apply Kd.R_drew)); exact HO223.out) hb); have n2_ := Aside0.mk (Kd.R_below (by (with_reducible repeat (first | apply Kd.R_alloc | apply Kd.R_drewN | apply Kd.R_drew)); exact HO230.out) hb); have n3_ := Aside0.mk (Kd.R_below (by (with_reducible repeat (first | apply Kd.R_alloc | apply Kd.R_drewN | apply Kd.R_drew)); exact HO234.out) hb); have n4_ := Aside0.mk (Kd.R_below (by (with_reducible repeat (first | apply Kd.R_alloc | apply Kd.R_drewN | apply Kd.R_drew)); exact HO239.out) hb); have n5_ := Aside0.mk (Kd.R_below (by (with_reducible repeat (first | apply Kd.R_alloc | apply Kd.R_drewN | apply Kd.R_drew)); exact HO243.out) hb); have n6_ := Aside0.mk (Kd.R_below (by (with_reducible repeat (first | apply Kd.R_alloc | apply Kd.R_drewN | apply Kd.R_drew)); exact HO250.out) hb); have n7_ := Aside0.mk (below_step (by repeat (first | (with_reducible first | exact HB.out | apply below_alloc | apply pw_below_drewN | apply below_drew1) | exact HB.out)) hb); clear HO219; clear HO223; clear HO230; clear HO234; clear HO239; clear HO243; clear HO250; clear HB; have HO219 := n0_; have HO223 := n1_; have HO230 := n2_; have HO234 := n3_; have HO239 := n4_; have HO243 := n5_; have HO250 := n6_; have HB := n7_; clear n0_ n1_ n2_ n3_ n4_ n5_ n6_ n7_; (try clear hb); (try clear hb2); (try clear hk); (try clear hi)) | (go_at_call 33; (with_reducible refine (l01e.calls 4 1 t256 t257 _ A36.out).mono ?_); rintro e w77 ⟨rfl, hb⟩; have n0_ := Aside0.mk (Kd.R_below (by (with_reducible repeat (first | apply Kd.R_alloc | apply Kd.R_drewN | apply Kd.R_drew)); exact HO219.out) hb); have n1_ := Aside0.mk (Kd.R_below (by (with_reducible repeat (first | apply Kd.R_alloc | apply Kd.R_drewN | apply Kd.R_drew)); exact HO223.out) hb); have n2_ := Aside0.mk (Kd.R_below (by (with_reducible repeat (first | apply Kd.R_alloc | apply Kd.R_drewN | apply Kd.R_drew)); exact HO230.out) hb); have n3_ := Aside0.mk (Kd.R_below (by (with_reducible repeat (first | apply Kd.R_alloc | apply Kd.R_drewN | apply Kd.R_drew)); exact HO234.out) hb); have n4_ := Aside0.mk (Kd.R_below (by (with_reducible repeat (first | apply Kd.R_alloc | apply Kd.R_drewN | apply Kd.R_drew)); exact HO239.out) hb); have n5_ := Aside0.mk (Kd.R_below (by (with_reducible repeat (first | apply Kd.R_alloc | apply Kd.R_drewN | apply Kd.R_drew)); exact HO243.out) hb); have n6_ := Aside0.mk (Kd.R_below (by (with_reducible repeat (first | apply Kd.R_alloc | apply Kd.R_drewN | apply Kd.R_drew)); exact HO250.out) hb); have n7_ := Aside0.mk (below_step (by repeat (first | (with_reducible first | exact HB.out | apply below_alloc | apply pw_below_drewN | apply below_drew1) | exact HB.out)) hb); clear HO219; clear HO223; clear HO230; clear HO234; clear HO239; clear HO243; clear HO250; clear HB; have HO219 := n0_; have HO223 := n1_; have HO230 := n2_; have HO234 := n3_; have HO239 := n4_; have HO243 := n5_; have HO250 := n6_; have HB := n7_; clear n0_ n1_ n2_ n3_ n4_ n5_ n6_ n7_; (try clear hb); (try clear hb2); (try clear hk); (try clear hi)) | (go_at_call 33; (with_reducible refine (l01e.calls 10 2 t258 t259 _ A37.out).mono ?_); rintro e w78 ⟨rfl, hb⟩; have n0_ := Aside0.mk (Kd.R_below (by (with_reducible repeat (first | apply Kd.R_alloc | apply Kd.R_drewN | apply Kd.R_drew)); exact HO219.out) hb); have n1_ := Aside0.mk (Kd.R_below (by (with_reducible repeat (first | apply Kd.R_alloc | apply Kd.R_drewN | apply Kd.R_drew)); exact HO223.out) hb); have n2_ := Aside0.mk (Kd.R_below (by (with_reducible repeat (first | apply Kd.R_alloc | apply Kd.R_drewN | apply Kd.R_drew)); exact HO230.out) hb); have n3_ := Aside0.mk (Kd.R_below (by (with_reducible repeat (first | apply Kd.R_alloc | apply Kd.R_drewN | apply Kd.R_drew)); exact HO234.out) hb); have n4_ := Aside0.mk (Kd.R_below (by (with_reducible repeat (first | apply Kd.R_alloc | apply Kd.R_drewN | apply Kd.R_drew)); exact HO239.out) hb); have n5_ := Aside0.mk (Kd.R_below (by (with_reducible repeat (first | apply Kd.R_alloc | apply Kd.R_drewN | apply Kd.R_drew)); exact HO243.out) hb); have n6_ := Aside0.mk (Kd.R_below (by (with_reducible repeat (first | apply Kd.R_alloc | apply Kd.R_drewN | apply Kd.R_drew)); exact HO250.out) hb); have n7_ := Aside0.mk (below_step (by repeat (first | (with_reducible first | exact HB.out | apply below_alloc | apply pw_below_drewN | apply below_drew1) | exact HB.out)) hb); clear HO219; clear HO223; clear HO230; clear HO234; clear HO239; clear HO243; clear HO250; clear HB; have HO219 := n0_; have HO223 := n1_; have HO230 := n2_; have HO234 := n3_; have HO239 := n4_; have HO243 := n5_; have HO250 := n6_; have HB := n7_; clear n0_ n1_ n2_ n3_ n4_ n5_ n6_ n7_; (try clear hb); (try clear hb2); (try clear hk); (try clear hi)) | ((with_reducible refine gate_dst (N := 44) rfl ?_); (try (refine gate_guard (by rfl) ?_; dsimp only)); refine Kd.R_lit k40 _ 40 ?hg (N := 44) ?hd (xs := ([(⟨t252, t253⟩ : S40), (⟨t254, t255⟩ : S40), (⟨t256, t257⟩ : S40), (⟨t258, t259⟩ : S40)] : List (S40))) (inner := [.int .i64 t252, .int .i64 t253, .int .i64 t254, .int .i64 t255, .int .i64 t256, .int .i64 t257, .int .i64 t258, .int .i64 t259]) (ok := fun _ => True) (okp := fun _ => True) ?hr ?hp (fun _ hk => hk) trivial (Below.refl _ _) (Nat.le_refl _) (by simp) ?_; (case hd => rfl); (case hg => rfl); (case hr => first | (go_simp; done) | (go_simp; rfl)); (case hp => exact (Reps.c2 (show Kd.M k40 _ _ _ (⟨t252, t253⟩ : S40) [.int .i64 t252, .int .i64 t253] from (k40_mkM _ _ _ (⟨t252, t253⟩ : S40) )) (Reps.c2 (show Kd.M k40 _ _ _ (⟨t254, t255⟩ : S40) [.int .i64 t254, .int .i64 t255] from (k40_mkM _ _ _ (⟨t254, t255⟩ : S40) )) (Reps.c2 (show Kd.M k40 _ _ _ (⟨t256, t257⟩ : S40) [.int .i64 t256, .int .i64 t257] from (k40_mkM _ _ _ (⟨t256, t257⟩ : S40) )) (Reps.c2 (show Kd.M k40 _ _ _ (⟨t258, t259⟩ : S40) [.int .i64 t258, .int .i64 t259] from (k40_mkM _ _ _ (⟨t258, t259⟩ : S40) )) (Reps.none _ _)))))); intro v261 w79 ho80 hb hg_ hnew_; clear hg_ hnew_; (first | rw [← Ny260.out] at ho80 | (simp only [Int.reduceToNat] at ho80; rw [← Ny260.out] at ho80)); have n0_ := Aside0.mk (Kd.R_elder' (by (with_reducible repeat (first | apply Kd.R_alloc | apply Kd.R_drewN | apply Kd.R_drew)); exact HO219.out) (Kd.R_base ho80) hb); have n1_ := Aside0.mk (Kd.R_elder' (by (with_reducible repeat (first | apply Kd.R_alloc | apply Kd.R_drewN | apply Kd.R_drew)); exact HO223.out) (Kd.R_base ho80) hb); have n2_ := Aside0.mk (Kd.R_elder' (by (with_reducible repeat (first | apply Kd.R_alloc | apply Kd.R_drewN | apply Kd.R_drew)); exact HO230.out) (Kd.R_base ho80) hb); have n3_ := Aside0.mk (Kd.R_elder' (by (with_reducible repeat (first | apply Kd.R_alloc | apply Kd.R_drewN | apply Kd.R_drew)); exact HO234.out) (Kd.R_base ho80) hb); have n4_ := Aside0.mk (Kd.R_elder' (by (with_reducible repeat (first | apply Kd.R_alloc | apply Kd.R_drewN | apply Kd.R_drew)); exact HO239.out) (Kd.R_base ho80) hb); have n5_ := Aside0.mk (Kd.R_elder' (by (with_reducible repeat (first | apply Kd.R_alloc | apply Kd.R_drewN | apply Kd.R_drew)); exact HO243.out) (Kd.R_base ho80) hb); have n6_ := Aside0.mk (Kd.R_elder' (by (with_reducible repeat (first | apply Kd.R_alloc | apply Kd.R_drewN | apply Kd.R_drew)); exact HO250.out) (Kd.R_base ho80) hb); have n7_ := Aside0.mk (Kd.R_lower (Kd.R_new' (Kd.R_new' (Kd.R_new' (Kd.R_new' (Kd.R_new' (Kd.R_new' (Kd.R_new' ho80 (Kd.R_lt (by (with_reducible repeat (first | apply Kd.R_alloc | apply Kd.R_drewN | apply Kd.R_drew)); exact HO219.out))) (Kd.R_lt (by (with_reducible repeat (first | apply Kd.R_alloc | apply Kd.R_drewN | apply Kd.R_drew)); exact HO223.out))) (Kd.R_lt (by (with_reducible repeat (first | apply Kd.R_alloc | apply Kd.R_drewN | apply Kd.R_drew)); exact HO230.out))) (Kd.R_lt (by (with_reducible repeat (first | apply Kd.R_alloc | apply Kd.R_drewN | apply Kd.R_drew)); exact HO234.out))) (Kd.R_lt (by (with_reducible repeat (first | apply Kd.R_alloc | apply Kd.R_drewN | apply Kd.R_drew)); exact HO239.out))) (Kd.R_lt (by (with_reducible repeat (first | apply Kd.R_alloc | apply Kd.R_drewN | apply Kd.R_drew)); exact HO243.out))) (Kd.R_lt (by (with_reducible repeat (first | apply Kd.R_alloc | apply Kd.R_drewN | apply Kd.R_drew)); exact HO250.out))) (below_size (by repeat (first | (with_reducible first | exact HB.out | apply below_alloc | apply pw_below_drewN | apply below_drew1) | exact HB.out)))); have n8_ := Aside0.mk (below_step (by repeat (first | (with_reducible first | exact HB.out | apply below_alloc | apply pw_below_drewN | apply below_drew1) | exact HB.out)) hb); clear HO219; clear HO223; clear HO230; clear HO234; clear HO239; clear HO243; clear HO250; clear HB; have HO219 := n0_; have HO223 := n1_; have HO230 := n2_; have HO234 := n3_; have HO239 := n4_; have HO243 := n5_; have HO250 := n6_; have HO262 := n7_; have HB := n8_; clear n0_ n1_ n2_ n3_ n4_ n5_ n6_ n7_ n8_; clear hb ho80; obtain ⟨Ao81, co81, eo81⟩ := Kd.R_slice HO234.out; subst eo81; obtain ⟨Ao82, co82, eo82⟩ := Kd.R_slice HO262.out; subst eo82) | (go_at_call 18; (with_reducible refine (r01Same.calls k _ _ t231 _ _ y260 false _ ?side1 ?side2 ?side3 ?side4 A38.out).mono ?_); (case side1 => repeat (first | exact (Kd.R_reads' HO234.out).2.2 | (with_reducible refine Kd.C_alloc ?_ _) | (with_reducible refine Kd.C_drewN ?_ _) | (with_reducible refine Kd.C_drew ?_))); (case side2 => exact (Kd.R_reads' HO234.out).2.1); (case side3 => repeat (first | exact (Kd.R_reads' HO262.out).2.2 | (with_reducible refine Kd.C_alloc ?_ _) | (with_reducible refine Kd.C_drewN ?_ _) | (with_reducible refine Kd.C_drew ?_))); (case side4 => exact (Kd.R_reads' HO262.out).2.1); rintro e w' ⟨rfl, ⟨nd, rfl⟩⟩))
          go_meet
          case rel => exact ⟨_, (false), (by first | rfl | (simp; done) | (simp [*]; done)), H', ⟨by first | omega | exact Nat.le_refl _⟩, ⟨by (with_reducible repeat (first | apply Kd.R_alloc | apply Kd.R_drewN | apply Kd.R_drew)); exact Kd.R_mono HO223.out (fun _ hk => trivial)⟩, ⟨by repeat (first | (with_reducible first | exact HB.out | apply below_alloc | apply pw_below_drewN | apply below_drew1) | exact HB.out)⟩⟩
      · rw [if_neg c33] at H
        have c33b0 : (t221 == 0) = false := beq_eq_false_iff_ne.mpr c33
        have c33b1 : (t221 != 0) = true := bne_iff_ne.mpr c33
        (first | rw [c33b0] | (simp only [i64_w, i32_w]; rw [c33b0]) | skip)
        have H' := Aside0.mk H
        clear H
        go_wp2_with (first | ((with_reducible refine gate_callee (f := 33) rfl ?_); refine goesL_ (some 30) rfl rfl Try.func33 (by kernel_rfl) rfl #[.int .i64 0, .int .i64 2] rfl (by (try simp only [List.map_toArray, List.map_cons, List.map_nil]); first | done | rfl | (simp only [List.length_drop, List.length_take]; rfl)) ?_; (with_reducible refine (l01e.calls 0 2 t244 t245 _ A29.out).mono ?_); rintro e w83 ⟨rfl, hb⟩; refine ⟨_, rfl, ?_⟩; have n0_ := Aside0.mk (Kd.R_below (by (with_reducible repeat (first | apply Kd.R_alloc | apply Kd.R_drewN | apply Kd.R_drew)); exact HO219.out) hb); have n1_ := Aside0.mk (Kd.R_below (by (with_reducible repeat (first | apply Kd.R_alloc | apply Kd.R_drewN | apply Kd.R_drew)); exact HO223.out) hb); have n2_ := Aside0.mk (Kd.R_below (by (with_reducible repeat (first | apply Kd.R_alloc | apply Kd.R_drewN | apply Kd.R_drew)); exact HO230.out) hb); have n3_ := Aside0.mk (Kd.R_below (by (with_reducible repeat (first | apply Kd.R_alloc | apply Kd.R_drewN | apply Kd.R_drew)); exact HO234.out) hb); have n4_ := Aside0.mk (Kd.R_below (by (with_reducible repeat (first | apply Kd.R_alloc | apply Kd.R_drewN | apply Kd.R_drew)); exact HO239.out) hb); have n5_ := Aside0.mk (Kd.R_below (by (with_reducible repeat (first | apply Kd.R_alloc | apply Kd.R_drewN | apply Kd.R_drew)); exact HO243.out) hb); have n6_ := Aside0.mk (below_step (by repeat (first | (with_reducible first | exact HB.out | apply below_alloc | apply pw_below_drewN | apply below_drew1) | exact HB.out)) hb); clear HO219; clear HO223; clear HO230; clear HO234; clear HO239; clear HO243; clear HB; have HO219 := n0_; have HO223 := n1_; have HO230 := n2_; have HO234 := n3_; have HO239 := n4_; have HO243 := n5_; have HB := n6_; clear n0_ n1_ n2_ n3_ n4_ n5_ n6_; (try clear hb); (try clear hb2); (try clear hk); (try clear hi)) | ((with_reducible refine gate_callee (f := 33) rfl ?_); refine goesL_ (some 31) rfl rfl Try.func33 (by kernel_rfl) rfl #[.int .i64 5, .int .i64 6] rfl (by (try simp only [List.map_toArray, List.map_cons, List.map_nil]); first | done | rfl | (simp only [List.length_drop, List.length_take]; rfl)) ?_; (with_reducible refine (l01e.calls 5 6 t246 t247 _ A30.out).mono ?_); rintro e w84 ⟨rfl, hb⟩; refine ⟨_, rfl, ?_⟩; have n0_ := Aside0.mk (Kd.R_below (by (with_reducible repeat (first | apply Kd.R_alloc | apply Kd.R_drewN | apply Kd.R_drew)); exact HO219.out) hb); have n1_ := Aside0.mk (Kd.R_below (by (with_reducible repeat (first | apply Kd.R_alloc | apply Kd.R_drewN | apply Kd.R_drew)); exact HO223.out) hb); have n2_ := Aside0.mk (Kd.R_below (by (with_reducible repeat (first | apply Kd.R_alloc | apply Kd.R_drewN | apply Kd.R_drew)); exact HO230.out) hb); have n3_ := Aside0.mk (Kd.R_below (by (with_reducible repeat (first | apply Kd.R_alloc | apply Kd.R_drewN | apply Kd.R_drew)); exact HO234.out) hb); have n4_ := Aside0.mk (Kd.R_below (by (with_reducible repeat (first | apply Kd.R_alloc | apply Kd.R_drewN | apply Kd.R_drew)); exact HO239.out) hb); have n5_ := Aside0.mk (Kd.R_below (by (with_reducible repeat (first | apply Kd.R_alloc | apply Kd.R_drewN | apply Kd.R_drew)); exact HO243.out) hb); have n6_ := Aside0.mk (below_step (by repeat (first | (with_reducible first | exact HB.out | apply below_alloc | apply pw_below_drewN | apply below_drew1) | exact HB.out)) hb); clear HO219; clear HO223; clear HO230; clear HO234; clear HO239; clear HO243; clear HB; have HO219 := n0_; have HO223 := n1_; have HO230 := n2_; have HO234 := n3_; have HO239 := n4_; have HO243 := n5_; have HB := n6_; clear n0_ n1_ n2_ n3_ n4_ n5_ n6_; (try clear hb); (try clear hb2); (try clear hk); (try clear hi)) | ((with_reducible refine gate_dst (N := 32) rfl ?_); (try (refine gate_guard (by rfl) ?_; dsimp only)); refine Kd.R_lit k40 _ 40 ?hg (N := 32) ?hd (xs := ([(⟨t244, t245⟩ : S40), (⟨t246, t247⟩ : S40)] : List (S40))) (inner := [.int .i64 t244, .int .i64 t245, .int .i64 t246, .int .i64 t247]) (ok := fun _ => True) (okp := fun _ => True) ?hr ?hp (fun _ hk => hk) trivial (Below.refl _ _) (Nat.le_refl _) (by simp) ?_; (case hd => rfl); (case hg => rfl); (case hr => first | (go_simp; done) | (go_simp; rfl)); (case hp => exact (Reps.c2 (show Kd.M k40 _ _ _ (⟨t244, t245⟩ : S40) [.int .i64 t244, .int .i64 t245] from (k40_mkM _ _ _ (⟨t244, t245⟩ : S40) )) (Reps.c2 (show Kd.M k40 _ _ _ (⟨t246, t247⟩ : S40) [.int .i64 t246, .int .i64 t247] from (k40_mkM _ _ _ (⟨t246, t247⟩ : S40) )) (Reps.none _ _)))); intro v249 w85 ho86 hb hg_ hnew_; clear hg_ hnew_; (first | rw [← Ny248.out] at ho86 | (simp only [Int.reduceToNat] at ho86; rw [← Ny248.out] at ho86)); have n0_ := Aside0.mk (Kd.R_elder' (by (with_reducible repeat (first | apply Kd.R_alloc | apply Kd.R_drewN | apply Kd.R_drew)); exact HO219.out) (Kd.R_base ho86) hb); have n1_ := Aside0.mk (Kd.R_elder' (by (with_reducible repeat (first | apply Kd.R_alloc | apply Kd.R_drewN | apply Kd.R_drew)); exact HO223.out) (Kd.R_base ho86) hb); have n2_ := Aside0.mk (Kd.R_elder' (by (with_reducible repeat (first | apply Kd.R_alloc | apply Kd.R_drewN | apply Kd.R_drew)); exact HO230.out) (Kd.R_base ho86) hb); have n3_ := Aside0.mk (Kd.R_elder' (by (with_reducible repeat (first | apply Kd.R_alloc | apply Kd.R_drewN | apply Kd.R_drew)); exact HO234.out) (Kd.R_base ho86) hb); have n4_ := Aside0.mk (Kd.R_elder' (by (with_reducible repeat (first | apply Kd.R_alloc | apply Kd.R_drewN | apply Kd.R_drew)); exact HO239.out) (Kd.R_base ho86) hb); have n5_ := Aside0.mk (Kd.R_elder' (by (with_reducible repeat (first | apply Kd.R_alloc | apply Kd.R_drewN | apply Kd.R_drew)); exact HO243.out) (Kd.R_base ho86) hb); have n6_ := Aside0.mk (Kd.R_lower (Kd.R_new' (Kd.R_new' (Kd.R_new' (Kd.R_new' (Kd.R_new' (Kd.R_new' ho86 (Kd.R_lt (by (with_reducible repeat (first | apply Kd.R_alloc | apply Kd.R_drewN | apply Kd.R_drew)); exact HO219.out))) (Kd.R_lt (by (with_reducible repeat (first | apply Kd.R_alloc | apply Kd.R_drewN | apply Kd.R_drew)); exact HO223.out))) (Kd.R_lt (by (with_reducible repeat (first | apply Kd.R_alloc | apply Kd.R_drewN | apply Kd.R_drew)); exact HO230.out))) (Kd.R_lt (by (with_reducible repeat (first | apply Kd.R_alloc | apply Kd.R_drewN | apply Kd.R_drew)); exact HO234.out))) (Kd.R_lt (by (with_reducible repeat (first | apply Kd.R_alloc | apply Kd.R_drewN | apply Kd.R_drew)); exact HO239.out))) (Kd.R_lt (by (with_reducible repeat (first | apply Kd.R_alloc | apply Kd.R_drewN | apply Kd.R_drew)); exact HO243.out))) (below_size (by repeat (first | (with_reducible first | exact HB.out | apply below_alloc | apply pw_below_drewN | apply below_drew1) | exact HB.out)))); have n7_ := Aside0.mk (below_step (by repeat (first | (with_reducible first | exact HB.out | apply below_alloc | apply pw_below_drewN | apply below_drew1) | exact HB.out)) hb); clear HO219; clear HO223; clear HO230; clear HO234; clear HO239; clear HO243; clear HB; have HO219 := n0_; have HO223 := n1_; have HO230 := n2_; have HO234 := n3_; have HO239 := n4_; have HO243 := n5_; have HO250 := n6_; have HB := n7_; clear n0_ n1_ n2_ n3_ n4_ n5_ n6_ n7_; clear hb ho86; obtain ⟨Ao87, co87, eo87⟩ := Kd.R_slice HO223.out; subst eo87; obtain ⟨Ao88, co88, eo88⟩ := Kd.R_slice HO250.out; subst eo88) | ((with_reducible refine gate_callee (f := 18) rfl ?_); refine goesL_ (some 33) rfl rfl Try.func18 (by kernel_rfl) rfl #[.slice Ao87 t220.length co87, .slice Ao88 y248.length co88] rfl (by (try simp only [List.map_toArray, List.map_cons, List.map_nil]); first | done | rfl | (simp only [List.length_drop, List.length_take]; rfl)) ?_; (with_reducible refine (r01Same.calls k _ _ t220 _ _ y248 true _ ?side1 ?side2 ?side3 ?side4 A31.out).mono ?_); (case side1 => repeat (first | exact (Kd.R_reads' HO223.out).2.2 | (with_reducible refine Kd.C_alloc ?_ _) | (with_reducible refine Kd.C_drewN ?_ _) | (with_reducible refine Kd.C_drew ?_))); (case side2 => exact (Kd.R_reads' HO223.out).2.1); (case side3 => repeat (first | exact (Kd.R_reads' HO250.out).2.2 | (with_reducible refine Kd.C_alloc ?_ _) | (with_reducible refine Kd.C_drewN ?_ _) | (with_reducible refine Kd.C_drew ?_))); (case side4 => exact (Kd.R_reads' HO250.out).2.1); rintro e w' ⟨rfl, ⟨nd, rfl⟩⟩; refine ⟨_, rfl, ?_⟩))
        go_meet
        case rel => exact ⟨_, (false), (by first | rfl | (simp; done) | (simp [*]; done)), H', ⟨by first | omega | exact Nat.le_refl _⟩, ⟨by (with_reducible repeat (first | apply Kd.R_alloc | apply Kd.R_drewN | apply Kd.R_drew)); exact Kd.R_mono HO223.out (fun _ hk => trivial)⟩, ⟨by repeat (first | (with_reducible first | exact HB.out | apply below_alloc | apply pw_below_drewN | apply below_drew1) | exact HB.out)⟩⟩
    · replace c32 := Bool.eq_false_iff.mpr c32
      subst c32
      have H1 : (l01awake.j0 k t220 false) = some r := by rw [if_neg (show ¬ (false = true) by decide)] at H; exact H
      clear H
      have H := H1
      clear H1
      have H' := Aside0.mk H
      clear H
      go_wp2_with (first | ((with_reducible refine gate_callee (f := 33) rfl ?_); refine goesL_ (some 30) rfl rfl Try.func33 (by kernel_rfl) rfl #[.int .i64 0, .int .i64 2] rfl (by (try simp only [List.map_toArray, List.map_cons, List.map_nil]); first | done | rfl | (simp only [List.length_drop, List.length_take]; rfl)) ?_; (with_reducible refine (l01e.calls 0 2 t244 t245 _ A29.out).mono ?_); rintro e w89 ⟨rfl, hb⟩; refine ⟨_, rfl, ?_⟩; have n0_ := Aside0.mk (Kd.R_below (by (with_reducible repeat (first | apply Kd.R_alloc | apply Kd.R_drewN | apply Kd.R_drew)); exact HO219.out) hb); have n1_ := Aside0.mk (Kd.R_below (by (with_reducible repeat (first | apply Kd.R_alloc | apply Kd.R_drewN | apply Kd.R_drew)); exact HO223.out) hb); have n2_ := Aside0.mk (Kd.R_below (by (with_reducible repeat (first | apply Kd.R_alloc | apply Kd.R_drewN | apply Kd.R_drew)); exact HO230.out) hb); have n3_ := Aside0.mk (Kd.R_below (by (with_reducible repeat (first | apply Kd.R_alloc | apply Kd.R_drewN | apply Kd.R_drew)); exact HO234.out) hb); have n4_ := Aside0.mk (Kd.R_below (by (with_reducible repeat (first | apply Kd.R_alloc | apply Kd.R_drewN | apply Kd.R_drew)); exact HO239.out) hb); have n5_ := Aside0.mk (Kd.R_below (by (with_reducible repeat (first | apply Kd.R_alloc | apply Kd.R_drewN | apply Kd.R_drew)); exact HO243.out) hb); have n6_ := Aside0.mk (below_step (by repeat (first | (with_reducible first | exact HB.out | apply below_alloc | apply pw_below_drewN | apply below_drew1) | exact HB.out)) hb); clear HO219; clear HO223; clear HO230; clear HO234; clear HO239; clear HO243; clear HB; have HO219 := n0_; have HO223 := n1_; have HO230 := n2_; have HO234 := n3_; have HO239 := n4_; have HO243 := n5_; have HB := n6_; clear n0_ n1_ n2_ n3_ n4_ n5_ n6_; (try clear hb); (try clear hb2); (try clear hk); (try clear hi)) | ((with_reducible refine gate_callee (f := 33) rfl ?_); refine goesL_ (some 31) rfl rfl Try.func33 (by kernel_rfl) rfl #[.int .i64 5, .int .i64 6] rfl (by (try simp only [List.map_toArray, List.map_cons, List.map_nil]); first | done | rfl | (simp only [List.length_drop, List.length_take]; rfl)) ?_; (with_reducible refine (l01e.calls 5 6 t246 t247 _ A30.out).mono ?_); rintro e w90 ⟨rfl, hb⟩; refine ⟨_, rfl, ?_⟩; have n0_ := Aside0.mk (Kd.R_below (by (with_reducible repeat (first | apply Kd.R_alloc | apply Kd.R_drewN | apply Kd.R_drew)); exact HO219.out) hb); have n1_ := Aside0.mk (Kd.R_below (by (with_reducible repeat (first | apply Kd.R_alloc | apply Kd.R_drewN | apply Kd.R_drew)); exact HO223.out) hb); have n2_ := Aside0.mk (Kd.R_below (by (with_reducible repeat (first | apply Kd.R_alloc | apply Kd.R_drewN | apply Kd.R_drew)); exact HO230.out) hb); have n3_ := Aside0.mk (Kd.R_below (by (with_reducible repeat (first | apply Kd.R_alloc | apply Kd.R_drewN | apply Kd.R_drew)); exact HO234.out) hb); have n4_ := Aside0.mk (Kd.R_below (by (with_reducible repeat (first | apply Kd.R_alloc | apply Kd.R_drewN | apply Kd.R_drew)); exact HO239.out) hb); have n5_ := Aside0.mk (Kd.R_below (by (with_reducible repeat (first | apply Kd.R_alloc | apply Kd.R_drewN | apply Kd.R_drew)); exact HO243.out) hb); have n6_ := Aside0.mk (below_step (by repeat (first | (with_reducible first | exact HB.out | apply below_alloc | apply pw_below_drewN | apply below_drew1) | exact HB.out)) hb); clear HO219; clear HO223; clear HO230; clear HO234; clear HO239; clear HO243; clear HB; have HO219 := n0_; have HO223 := n1_; have HO230 := n2_; have HO234 := n3_; have HO239 := n4_; have HO243 := n5_; have HB := n6_; clear n0_ n1_ n2_ n3_ n4_ n5_ n6_; (try clear hb); (try clear hb2); (try clear hk); (try clear hi)) | ((with_reducible refine gate_dst (N := 32) rfl ?_); (try (refine gate_guard (by rfl) ?_; dsimp only)); refine Kd.R_lit k40 _ 40 ?hg (N := 32) ?hd (xs := ([(⟨t244, t245⟩ : S40), (⟨t246, t247⟩ : S40)] : List (S40))) (inner := [.int .i64 t244, .int .i64 t245, .int .i64 t246, .int .i64 t247]) (ok := fun _ => True) (okp := fun _ => True) ?hr ?hp (fun _ hk => hk) trivial (Below.refl _ _) (Nat.le_refl _) (by simp) ?_; (case hd => rfl); (case hg => rfl); (case hr => first | (go_simp; done) | (go_simp; rfl)); (case hp => exact (Reps.c2 (show Kd.M k40 _ _ _ (⟨t244, t245⟩ : S40) [.int .i64 t244, .int .i64 t245] from (k40_mkM _ _ _ (⟨t244, t245⟩ : S40) )) (Reps.c2 (show Kd.M k40 _ _ _ (⟨t246, t247⟩ : S40) [.int .i64 t246, .int .i64 t247] from (k40_mkM _ _ _ (⟨t246, t247⟩ : S40) )) (Reps.none _ _)))); intro v249 w91 ho92 hb hg_ hnew_; clear hg_ hnew_; (first | rw [← Ny248.out] at ho92 | (simp only [Int.reduceToNat] at ho92; rw [← Ny248.out] at ho92)); have n0_ := Aside0.mk (Kd.R_elder' (by (with_reducible repeat (first | apply Kd.R_alloc | apply Kd.R_drewN | apply Kd.R_drew)); exact HO219.out) (Kd.R_base ho92) hb); have n1_ := Aside0.mk (Kd.R_elder' (by (with_reducible repeat (first | apply Kd.R_alloc | apply Kd.R_drewN | apply Kd.R_drew)); exact HO223.out) (Kd.R_base ho92) hb); have n2_ := Aside0.mk (Kd.R_elder' (by (with_reducible repeat (first | apply Kd.R_alloc | apply Kd.R_drewN | apply Kd.R_drew)); exact HO230.out) (Kd.R_base ho92) hb); have n3_ := Aside0.mk (Kd.R_elder' (by (with_reducible repeat (first | apply Kd.R_alloc | apply Kd.R_drewN | apply Kd.R_drew)); exact HO234.out) (Kd.R_base ho92) hb); have n4_ := Aside0.mk (Kd.R_elder' (by (with_reducible repeat (first | apply Kd.R_alloc | apply Kd.R_drewN | apply Kd.R_drew)); exact HO239.out) (Kd.R_base ho92) hb); have n5_ := Aside0.mk (Kd.R_elder' (by (with_reducible repeat (first | apply Kd.R_alloc | apply Kd.R_drewN | apply Kd.R_drew)); exact HO243.out) (Kd.R_base ho92) hb); have n6_ := Aside0.mk (Kd.R_lower (Kd.R_new' (Kd.R_new' (Kd.R_new' (Kd.R_new' (Kd.R_new' (Kd.R_new' ho92 (Kd.R_lt (by (with_reducible repeat (first | apply Kd.R_alloc | apply Kd.R_drewN | apply Kd.R_drew)); exact HO219.out))) (Kd.R_lt (by (with_reducible repeat (first | apply Kd.R_alloc | apply Kd.R_drewN | apply Kd.R_drew)); exact HO223.out))) (Kd.R_lt (by (with_reducible repeat (first | apply Kd.R_alloc | apply Kd.R_drewN | apply Kd.R_drew)); exact HO230.out))) (Kd.R_lt (by (with_reducible repeat (first | apply Kd.R_alloc | apply Kd.R_drewN | apply Kd.R_drew)); exact HO234.out))) (Kd.R_lt (by (with_reducible repeat (first | apply Kd.R_alloc | apply Kd.R_drewN | apply Kd.R_drew)); exact HO239.out))) (Kd.R_lt (by (with_reducible repeat (first | apply Kd.R_alloc | apply Kd.R_drewN | apply Kd.R_drew)); exact HO243.out))) (below_size (by repeat (first | (with_reducible first | exact HB.out | apply below_alloc | apply pw_below_drewN | apply below_drew1) | exact HB.out)))); have n7_ := Aside0.mk (below_step (by repeat (first | (with_reducible first | exact HB.out | apply below_alloc | apply pw_below_drewN | apply below_drew1) | exact HB.out)) hb); clear HO219; clear HO223; clear HO230; clear HO234; clear HO239; clear HO243; clear HB; have HO219 := n0_; have HO223 := n1_; have HO230 := n2_; have HO234 := n3_; have HO239 := n4_; have HO243 := n5_; have HO250 := n6_; have HB := n7_; clear n0_ n1_ n2_ n3_ n4_ n5_ n6_ n7_; clear hb ho92; obtain ⟨Ao93, co93, eo93⟩ := Kd.R_slice HO223.out; subst eo93; obtain ⟨Ao94, co94, eo94⟩ := Kd.R_slice HO250.out; subst eo94) | ((with_reducible refine gate_callee (f := 18) rfl ?_); refine goesL_ (some 33) rfl rfl Try.func18 (by kernel_rfl) rfl #[.slice Ao93 t220.length co93, .slice Ao94 y248.length co94] rfl (by (try simp only [List.map_toArray, List.map_cons, List.map_nil]); first | done | rfl | (simp only [List.length_drop, List.length_take]; rfl)) ?_; (with_reducible refine (r01Same.calls k _ _ t220 _ _ y248 false _ ?side1 ?side2 ?side3 ?side4 A31.out).mono ?_); (case side1 => repeat (first | exact (Kd.R_reads' HO223.out).2.2 | (with_reducible refine Kd.C_alloc ?_ _) | (with_reducible refine Kd.C_drewN ?_ _) | (with_reducible refine Kd.C_drew ?_))); (case side2 => exact (Kd.R_reads' HO223.out).2.1); (case side3 => repeat (first | exact (Kd.R_reads' HO250.out).2.2 | (with_reducible refine Kd.C_alloc ?_ _) | (with_reducible refine Kd.C_drewN ?_ _) | (with_reducible refine Kd.C_drew ?_))); (case side4 => exact (Kd.R_reads' HO250.out).2.1); rintro e w' ⟨rfl, ⟨nd, rfl⟩⟩; refine ⟨_, rfl, ?_⟩))
      go_meet
      case rel => exact ⟨_, (false), (by first | rfl | (simp; done) | (simp [*]; done)), H', ⟨by first | omega | exact Nat.le_refl _⟩, ⟨by (with_reducible repeat (first | apply Kd.R_alloc | apply Kd.R_drewN | apply Kd.R_drew)); exact Kd.R_mono HO223.out (fun _ hk => trivial)⟩, ⟨by repeat (first | (with_reducible first | exact HB.out | apply below_alloc | apply pw_below_drewN | apply below_drew1) | exact HB.out)⟩⟩
  case rest =>
    clear HC10
    try clear c1
    try clear c2
    try clear p2
    try clear c3
    try clear c4
    try clear c13
    try clear c16
    try clear c18
    try clear c23
    try clear c32
    try clear c33
    try clear c33b0
    try clear c33b1
    try clear c39
    try clear c40
    try clear c40b0
    try clear c40b1
    obtain ⟨kq, x7_9, rfl, HA, HJ9, HO_1, HB⟩ := hcut
    cases kq with
    | zero => exact absurd HA.out (by simp [l01awake.j0])
    | succ kj9 =>
      have H := HA.out
      clear HA
      simp only [l01awake.j0] at H
      have HC95 := Aside0.mk H
      clear H
      go_upto_region 5 with (fail)
      go_cut [7] (fun v7 wc => ∃ (kq : Nat) (x7_94 : Bool), v7 = .bool x7_94 ∧ Aside0 (l01awake.j1 kq t220 x7_94 = some r) ∧ Aside0 (kq ≤ kj9) ∧ Aside0 (Kd.R k40 40 wc w.heap.size (fun _ => True) v222 t220) ∧ Aside0 (Below w.heap.size w wc))
      case first =>
        have H := HC95.out
        clear HC95
        by_cases c96 : x7_9 = true
        · subst c96
          have H1 : ((xCheck.f kj9 t220 11).bind fun t264 => (if t264 = 0 then ((xCheck.f kj9 t220 10).bind fun t265 => (if t265 = 2 then ((l01e.f 0 2).bind fun bt266 => ((l01e.f 2 1).bind fun bt268 => ((xCheck.f kj9 (([(⟨bt266.1, bt266.2⟩ : S40), (⟨bt268.1, bt268.2⟩ : S40)] : List (S40))) 5).bind fun t273 => (l01awake.j1 kj9 t220 (t273 == 3))))) else (l01awake.j1 kj9 t220 false))) else (l01awake.j1 kj9 t220 false))) = some r := by rw [if_pos rfl] at H; exact H
          clear H
          have H := H1
          clear H1
          replace H := Option.bind_eq_some_iff.mp H
          obtain ⟨t264, A970, H⟩ := H
          replace H : (if t264 = 0 then ((xCheck.f kj9 t220 10).bind fun t265 => (if t265 = 2 then ((l01e.f 0 2).bind fun bt266 => ((l01e.f 2 1).bind fun bt268 => ((xCheck.f kj9 (([(⟨bt266.1, bt266.2⟩ : S40), (⟨bt268.1, bt268.2⟩ : S40)] : List (S40))) 5).bind fun t273 => (l01awake.j1 kj9 t220 (t273 == 3))))) else (l01awake.j1 kj9 t220 false))) else (l01awake.j1 kj9 t220 false)) = some r := H
          have A97 := Aside0.mk A970
          clear A970
          by_cases c98 : t264 = 0
          · rw [if_pos c98] at H
            have c98b0 : (t264 == 0) = true := beq_iff_eq.mpr c98
            have c98b1 : (t264 != 0) = false := bne_eq_false_iff_eq.mpr c98
            clear c98
            (first | rw [c98b0] | (simp only [i64_w, i32_w]; rw [c98b0]) | skip)
            replace H := Option.bind_eq_some_iff.mp H
            obtain ⟨t265, A990, H⟩ := H
            replace H : (if t265 = 2 then ((l01e.f 0 2).bind fun bt266 => ((l01e.f 2 1).bind fun bt268 => ((xCheck.f kj9 (([(⟨bt266.1, bt266.2⟩ : S40), (⟨bt268.1, bt268.2⟩ : S40)] : List (S40))) 5).bind fun t273 => (l01awake.j1 kj9 t220 (t273 == 3))))) else (l01awake.j1 kj9 t220 false)) = some r := H
            have A99 := Aside0.mk A990
            clear A990
            by_cases c100 : t265 = 2
            · rw [if_pos c100] at H
              have c100b0 : (t265 == 2) = true := beq_iff_eq.mpr c100
              have c100b1 : (t265 != 2) = false := bne_eq_false_iff_eq.mpr c100
              clear c100
              replace H := Option.bind_eq_some_iff.mp H
              obtain ⟨⟨t266, t267⟩, A1010, H⟩ := H
              replace H : ((l01e.f 2 1).bind fun bt268 => ((xCheck.f kj9 (([(⟨t266, t267⟩ : S40), (⟨bt268.1, bt268.2⟩ : S40)] : List (S40))) 5).bind fun t273 => (l01awake.j1 kj9 t220 (t273 == 3)))) = some r := H
              have A101 := Aside0.mk A1010
              clear A1010
              replace H := Option.bind_eq_some_iff.mp H
              obtain ⟨⟨t268, t269⟩, A1020, H⟩ := H
              replace H : ((xCheck.f kj9 (([(⟨t266, t267⟩ : S40), (⟨t268, t269⟩ : S40)] : List (S40))) 5).bind fun t273 => (l01awake.j1 kj9 t220 (t273 == 3))) = some r := H
              have A102 := Aside0.mk A1020
              clear A1020
              obtain ⟨y270, hy270⟩ : ∃ y_ : List (S40), y_ = (([(⟨t266, t267⟩ : S40), (⟨t268, t269⟩ : S40)] : List (S40))) := ⟨_, rfl⟩
              replace H : ((xCheck.f kj9 y270 5).bind fun t273 => (l01awake.j1 kj9 t220 (t273 == 3))) = some r := by first | (rw [hy270]; with_reducible exact H) | (have H2_ := (Option.bind_some _ _).symm.trans H; rw [hy270]; with_reducible exact H2_) | (have H2_ := (Option.bind_some _ _).symm.trans H; with_reducible exact H2_) | with_reducible exact H | (rw [hy270]; exact H) | exact H
              have Ny270 := Aside0.mk hy270
              clear hy270
              replace H := Option.bind_eq_some_iff.mp H
              obtain ⟨t273, A1030, H⟩ := H
              replace H : (l01awake.j1 kj9 t220 (t273 == 3)) = some r := H
              have A103 := Aside0.mk A1030
              clear A1030
              have H' := Aside0.mk H
              clear H
              obtain ⟨Ao104, co104, eo104⟩ := Kd.R_slice HO_1.out
              subst eo104
              go_wp2_with (first | (go_at_call 14; (with_reducible refine (xCheck.calls kj9 _ _ t220 11 t264 _ ?side1 ?side2 A97.out).mono ?_); (case side1 => repeat (first | exact (Kd.R_reads' HO_1.out).2.2 | (with_reducible refine Kd.C_alloc ?_ _) | (with_reducible refine Kd.C_drewN ?_ _) | (with_reducible refine Kd.C_drew ?_))); (case side2 => exact (Kd.R_reads' HO_1.out).2.1); rintro e w105 ⟨rfl, hb⟩; have n0_ := Aside0.mk (Kd.R_below (by (with_reducible repeat (first | apply Kd.R_alloc | apply Kd.R_drewN | apply Kd.R_drew)); exact HO_1.out) hb); have n1_ := Aside0.mk (below_step (by repeat (first | (with_reducible first | exact HB.out | apply below_alloc | apply pw_below_drewN | apply below_drew1) | exact HB.out)) hb); clear HO_1; clear HB; have HO_1 := n0_; have HB := n1_; clear n0_ n1_; (try clear hb); (try clear hb2); (try clear hk); (try clear hi)) | (go_at_call 14; (with_reducible refine (xCheck.calls kj9 _ _ t220 10 t265 _ ?side1 ?side2 A99.out).mono ?_); (case side1 => repeat (first | exact (Kd.R_reads' HO_1.out).2.2 | (with_reducible refine Kd.C_alloc ?_ _) | (with_reducible refine Kd.C_drewN ?_ _) | (with_reducible refine Kd.C_drew ?_))); (case side2 => exact (Kd.R_reads' HO_1.out).2.1); rintro e w106 ⟨rfl, hb⟩; have n0_ := Aside0.mk (Kd.R_below (by (with_reducible repeat (first | apply Kd.R_alloc | apply Kd.R_drewN | apply Kd.R_drew)); exact HO_1.out) hb); have n1_ := Aside0.mk (below_step (by repeat (first | (with_reducible first | exact HB.out | apply below_alloc | apply pw_below_drewN | apply below_drew1) | exact HB.out)) hb); clear HO_1; clear HB; have HO_1 := n0_; have HB := n1_; clear n0_ n1_; (try clear hb); (try clear hb2); (try clear hk); (try clear hi)) | (go_at_call 33; (with_reducible refine (l01e.calls 0 2 t266 t267 _ A101.out).mono ?_); rintro e w107 ⟨rfl, hb⟩; have n0_ := Aside0.mk (Kd.R_below (by (with_reducible repeat (first | apply Kd.R_alloc | apply Kd.R_drewN | apply Kd.R_drew)); exact HO_1.out) hb); have n1_ := Aside0.mk (below_step (by repeat (first | (with_reducible first | exact HB.out | apply below_alloc | apply pw_below_drewN | apply below_drew1) | exact HB.out)) hb); clear HO_1; clear HB; have HO_1 := n0_; have HB := n1_; clear n0_ n1_; (try clear hb); (try clear hb2); (try clear hk); (try clear hi)) | (go_at_call 33; (with_reducible refine (l01e.calls 2 1 t268 t269 _ A102.out).mono ?_); rintro e w108 ⟨rfl, hb⟩; have n0_ := Aside0.mk (Kd.R_below (by (with_reducible repeat (first | apply Kd.R_alloc | apply Kd.R_drewN | apply Kd.R_drew)); exact HO_1.out) hb); have n1_ := Aside0.mk (below_step (by repeat (first | (with_reducible first | exact HB.out | apply below_alloc | apply pw_below_drewN | apply below_drew1) | exact HB.out)) hb); clear HO_1; clear HB; have HO_1 := n0_; have HB := n1_; clear n0_ n1_; (try clear hb); (try clear hb2); (try clear hk); (try clear hi)) | ((with_reducible refine gate_dst (N := 69) rfl ?_); (try (refine gate_guard (by rfl) ?_; dsimp only)); refine Kd.R_lit k40 _ 40 ?hg (N := 69) ?hd (xs := ([(⟨t266, t267⟩ : S40), (⟨t268, t269⟩ : S40)] : List (S40))) (inner := [.int .i64 t266, .int .i64 t267, .int .i64 t268, .int .i64 t269]) (ok := fun _ => True) (okp := fun _ => True) ?hr ?hp (fun _ hk => hk) trivial (Below.refl _ _) (Nat.le_refl _) (by simp) ?_; (case hd => rfl); (case hg => rfl); (case hr => first | (go_simp; done) | (go_simp; rfl)); (case hp => exact (Reps.c2 (show Kd.M k40 _ _ _ (⟨t266, t267⟩ : S40) [.int .i64 t266, .int .i64 t267] from (k40_mkM _ _ _ (⟨t266, t267⟩ : S40) )) (Reps.c2 (show Kd.M k40 _ _ _ (⟨t268, t269⟩ : S40) [.int .i64 t268, .int .i64 t269] from (k40_mkM _ _ _ (⟨t268, t269⟩ : S40) )) (Reps.none _ _)))); intro v271 w109 ho110 hb hg_ hnew_; clear hg_ hnew_; (first | rw [← Ny270.out] at ho110 | (simp only [Int.reduceToNat] at ho110; rw [← Ny270.out] at ho110)); have n0_ := Aside0.mk (Kd.R_elder' (by (with_reducible repeat (first | apply Kd.R_alloc | apply Kd.R_drewN | apply Kd.R_drew)); exact HO_1.out) (Kd.R_base ho110) hb); have n1_ := Aside0.mk (Kd.R_lower (Kd.R_new' ho110 (Kd.R_lt (by (with_reducible repeat (first | apply Kd.R_alloc | apply Kd.R_drewN | apply Kd.R_drew)); exact HO_1.out))) (below_size (by repeat (first | (with_reducible first | exact HB.out | apply below_alloc | apply pw_below_drewN | apply below_drew1) | exact HB.out)))); have n2_ := Aside0.mk (below_step (by repeat (first | (with_reducible first | exact HB.out | apply below_alloc | apply pw_below_drewN | apply below_drew1) | exact HB.out)) hb); clear HO_1; clear HB; have HO_1 := n0_; have HO272 := n1_; have HB := n2_; clear n0_ n1_ n2_; clear hb ho110; obtain ⟨Ao111, co111, eo111⟩ := Kd.R_slice HO272.out; subst eo111) | (go_at_call 14; (with_reducible refine (xCheck.calls kj9 _ _ y270 5 t273 _ ?side1 ?side2 A103.out).mono ?_); (case side1 => repeat (first | exact (Kd.R_reads' HO272.out).2.2 | (with_reducible refine Kd.C_alloc ?_ _) | (with_reducible refine Kd.C_drewN ?_ _) | (with_reducible refine Kd.C_drew ?_))); (case side2 => exact (Kd.R_reads' HO272.out).2.1); rintro e w112 ⟨rfl, hb⟩; have n0_ := Aside0.mk (Kd.R_below (by (with_reducible repeat (first | apply Kd.R_alloc | apply Kd.R_drewN | apply Kd.R_drew)); exact HO_1.out) hb); have n1_ := Aside0.mk (Kd.R_below (by (with_reducible repeat (first | apply Kd.R_alloc | apply Kd.R_drewN | apply Kd.R_drew)); exact HO272.out) hb); have n2_ := Aside0.mk (below_step (by repeat (first | (with_reducible first | exact HB.out | apply below_alloc | apply pw_below_drewN | apply below_drew1) | exact HB.out)) hb); clear HO_1; clear HO272; clear HB; have HO_1 := n0_; have HO272 := n1_; have HB := n2_; clear n0_ n1_ n2_; (try clear hb); (try clear hb2); (try clear hk); (try clear hi)))
              go_meet
              case rel => exact ⟨_, ((t273 == 3)), (by first | rfl | (simp; done) | (simp [*]; done)), H', ⟨by have := HJ9.out; first | omega | exact Nat.le_refl _⟩, ⟨by (with_reducible repeat (first | apply Kd.R_alloc | apply Kd.R_drewN | apply Kd.R_drew)); exact Kd.R_mono HO_1.out (fun _ hk => trivial)⟩, ⟨by repeat (first | (with_reducible first | exact HB.out | apply below_alloc | apply pw_below_drewN | apply below_drew1) | exact HB.out)⟩⟩
            · rw [if_neg c100] at H
              have c100b0 : (t265 == 2) = false := beq_eq_false_iff_ne.mpr c100
              have c100b1 : (t265 != 2) = true := bne_iff_ne.mpr c100
              have H' := Aside0.mk H
              clear H
              obtain ⟨Ao113, co113, eo113⟩ := Kd.R_slice HO_1.out
              subst eo113
              go_wp2_with (first | (go_at_call 14; (with_reducible refine (xCheck.calls kj9 _ _ t220 11 t264 _ ?side1 ?side2 A97.out).mono ?_); (case side1 => repeat (first | exact (Kd.R_reads' HO_1.out).2.2 | (with_reducible refine Kd.C_alloc ?_ _) | (with_reducible refine Kd.C_drewN ?_ _) | (with_reducible refine Kd.C_drew ?_))); (case side2 => exact (Kd.R_reads' HO_1.out).2.1); rintro e w114 ⟨rfl, hb⟩; have n0_ := Aside0.mk (Kd.R_below (by (with_reducible repeat (first | apply Kd.R_alloc | apply Kd.R_drewN | apply Kd.R_drew)); exact HO_1.out) hb); have n1_ := Aside0.mk (below_step (by repeat (first | (with_reducible first | exact HB.out | apply below_alloc | apply pw_below_drewN | apply below_drew1) | exact HB.out)) hb); clear HO_1; clear HB; have HO_1 := n0_; have HB := n1_; clear n0_ n1_; (try clear hb); (try clear hb2); (try clear hk); (try clear hi)) | (go_at_call 14; (with_reducible refine (xCheck.calls kj9 _ _ t220 10 t265 _ ?side1 ?side2 A99.out).mono ?_); (case side1 => repeat (first | exact (Kd.R_reads' HO_1.out).2.2 | (with_reducible refine Kd.C_alloc ?_ _) | (with_reducible refine Kd.C_drewN ?_ _) | (with_reducible refine Kd.C_drew ?_))); (case side2 => exact (Kd.R_reads' HO_1.out).2.1); rintro e w115 ⟨rfl, hb⟩; have n0_ := Aside0.mk (Kd.R_below (by (with_reducible repeat (first | apply Kd.R_alloc | apply Kd.R_drewN | apply Kd.R_drew)); exact HO_1.out) hb); have n1_ := Aside0.mk (below_step (by repeat (first | (with_reducible first | exact HB.out | apply below_alloc | apply pw_below_drewN | apply below_drew1) | exact HB.out)) hb); clear HO_1; clear HB; have HO_1 := n0_; have HB := n1_; clear n0_ n1_; (try clear hb); (try clear hb2); (try clear hk); (try clear hi)))
              go_meet
              case rel => exact ⟨_, (false), (by first | rfl | (simp; done) | (simp [*]; done)), H', ⟨by have := HJ9.out; first | omega | exact Nat.le_refl _⟩, ⟨by (with_reducible repeat (first | apply Kd.R_alloc | apply Kd.R_drewN | apply Kd.R_drew)); exact HO_1.out⟩, ⟨by repeat (first | (with_reducible first | exact HB.out | apply below_alloc | apply pw_below_drewN | apply below_drew1) | exact HB.out)⟩⟩
          · rw [if_neg c98] at H
            have c98b0 : (t264 == 0) = false := beq_eq_false_iff_ne.mpr c98
            have c98b1 : (t264 != 0) = true := bne_iff_ne.mpr c98
            (first | rw [c98b0] | (simp only [i64_w, i32_w]; rw [c98b0]) | skip)
            have H' := Aside0.mk H
            clear H
            obtain ⟨Ao116, co116, eo116⟩ := Kd.R_slice HO_1.out
            subst eo116
            go_wp2_with (first | (go_at_call 14; (with_reducible refine (xCheck.calls kj9 _ _ t220 11 t264 _ ?side1 ?side2 A97.out).mono ?_); (case side1 => repeat (first | exact (Kd.R_reads' HO_1.out).2.2 | (with_reducible refine Kd.C_alloc ?_ _) | (with_reducible refine Kd.C_drewN ?_ _) | (with_reducible refine Kd.C_drew ?_))); (case side2 => exact (Kd.R_reads' HO_1.out).2.1); rintro e w117 ⟨rfl, hb⟩; have n0_ := Aside0.mk (Kd.R_below (by (with_reducible repeat (first | apply Kd.R_alloc | apply Kd.R_drewN | apply Kd.R_drew)); exact HO_1.out) hb); have n1_ := Aside0.mk (below_step (by repeat (first | (with_reducible first | exact HB.out | apply below_alloc | apply pw_below_drewN | apply below_drew1) | exact HB.out)) hb); clear HO_1; clear HB; have HO_1 := n0_; have HB := n1_; clear n0_ n1_; (try clear hb); (try clear hb2); (try clear hk); (try clear hi)))
            go_meet
            case rel => exact ⟨_, (false), (by first | rfl | (simp; done) | (simp [*]; done)), H', ⟨by have := HJ9.out; first | omega | exact Nat.le_refl _⟩, ⟨by (with_reducible repeat (first | apply Kd.R_alloc | apply Kd.R_drewN | apply Kd.R_drew)); exact HO_1.out⟩, ⟨by repeat (first | (with_reducible first | exact HB.out | apply below_alloc | apply pw_below_drewN | apply below_drew1) | exact HB.out)⟩⟩
        · replace c96 := Bool.eq_false_iff.mpr c96
          subst c96
          have H1 : (l01awake.j1 kj9 t220 false) = some r := by rw [if_neg (show ¬ (false = true) by decide)] at H; exact H
          clear H
          have H := H1
          clear H1
          have H' := Aside0.mk H
          clear H
          go_wp2
          go_meet
          case rel => exact ⟨_, (false), (by first | rfl | (simp; done) | (simp [*]; done)), H', ⟨by have := HJ9.out; first | omega | exact Nat.le_refl _⟩, ⟨by (with_reducible repeat (first | apply Kd.R_alloc | apply Kd.R_drewN | apply Kd.R_drew)); exact HO_1.out⟩, ⟨by repeat (first | (with_reducible first | exact HB.out | apply below_alloc | apply pw_below_drewN | apply below_drew1) | exact HB.out)⟩⟩
      case rest =>
        clear HC95
        try clear c1
        try clear c2
        try clear p2
        try clear c3
        try clear c4
        try clear c9
        try clear c10
        try clear c13
        try clear c16
        try clear c18
        try clear c23
        try clear c32
        try clear c33
        try clear c33b0
        try clear c33b1
        try clear c39
        try clear c40
        try clear c40b0
        try clear c40b1
        try clear c96
        try clear c98
        try clear c98b0
        try clear c98b1
        try clear c100
        try clear c100b0
        try clear c100b1
        try clear p2
        obtain ⟨kq, x7_94, rfl, HA, HJ94, HO_1, HB⟩ := hcut
        cases kq with
        | zero => exact absurd HA.out (by simp [l01awake.j1])
        | succ kj94 =>
          have H := HA.out
          clear HA
          simp only [l01awake.j1] at H
          have HC118 := Aside0.mk H
          clear H
          go_upto_region 6 with (fail)
          go_cut [7] (fun v7 wc => ∃ (kq : Nat) (x7_117 : Bool), v7 = .bool x7_117 ∧ Aside0 (l01awake.j2 kq t220 x7_117 = some r) ∧ Aside0 (kq ≤ kj94) ∧ Aside0 (Kd.R k40 40 wc w.heap.size (fun _ => True) v222 t220) ∧ Aside0 (Below w.heap.size w wc))
          case first =>
            have H := HC118.out
            clear HC118
            by_cases c119 : x7_94 = true
            · subst c119
              have H1 : ((l01e.f 0 2).bind fun bt274 => ((l01e.f 2 1).bind fun bt279 => ((xUnion.f (([(⟨bt274.1, bt274.2⟩ : S40)] : List (S40))) (([(⟨bt279.1, bt279.2⟩ : S40)] : List (S40)))).bind fun t284 => ((l01e.f 0 3).bind fun bt287 => ((r01Same.f kj94 t284 (([(⟨bt287.1, bt287.2⟩ : S40)] : List (S40)))).bind fun t292 => (l01awake.j2 kj94 t220 t292)))))) = some r := by rw [if_pos rfl] at H; exact H
              clear H
              have H := H1
              clear H1
              replace H := Option.bind_eq_some_iff.mp H
              obtain ⟨⟨t274, t275⟩, A1200, H⟩ := H
              replace H : ((l01e.f 2 1).bind fun bt279 => ((xUnion.f (([(⟨t274, t275⟩ : S40)] : List (S40))) (([(⟨bt279.1, bt279.2⟩ : S40)] : List (S40)))).bind fun t284 => ((l01e.f 0 3).bind fun bt287 => ((r01Same.f kj94 t284 (([(⟨bt287.1, bt287.2⟩ : S40)] : List (S40)))).bind fun t292 => (l01awake.j2 kj94 t220 t292))))) = some r := H
              have A120 := Aside0.mk A1200
              clear A1200
              obtain ⟨y276, hy276⟩ : ∃ y_ : List (S40), y_ = (([(⟨t274, t275⟩ : S40)] : List (S40))) := ⟨_, rfl⟩
              replace H : ((l01e.f 2 1).bind fun bt279 => ((xUnion.f y276 (([(⟨bt279.1, bt279.2⟩ : S40)] : List (S40)))).bind fun t284 => ((l01e.f 0 3).bind fun bt287 => ((r01Same.f kj94 t284 (([(⟨bt287.1, bt287.2⟩ : S40)] : List (S40)))).bind fun t292 => (l01awake.j2 kj94 t220 t292))))) = some r := by first | (rw [hy276]; with_reducible exact H) | (have H2_ := (Option.bind_some _ _).symm.trans H; rw [hy276]; with_reducible exact H2_) | (have H2_ := (Option.bind_some _ _).symm.trans H; with_reducible exact H2_) | with_reducible exact H | (rw [hy276]; exact H) | exact H
              have Ny276 := Aside0.mk hy276
              clear hy276
              replace H := Option.bind_eq_some_iff.mp H
              obtain ⟨⟨t279, t280⟩, A1210, H⟩ := H
              replace H : ((xUnion.f y276 (([(⟨t279, t280⟩ : S40)] : List (S40)))).bind fun t284 => ((l01e.f 0 3).bind fun bt287 => ((r01Same.f kj94 t284 (([(⟨bt287.1, bt287.2⟩ : S40)] : List (S40)))).bind fun t292 => (l01awake.j2 kj94 t220 t292)))) = some r := H
              have A121 := Aside0.mk A1210
              clear A1210
              obtain ⟨y281, hy281⟩ : ∃ y_ : List (S40), y_ = (([(⟨t279, t280⟩ : S40)] : List (S40))) := ⟨_, rfl⟩
              replace H : ((xUnion.f y276 y281).bind fun t284 => ((l01e.f 0 3).bind fun bt287 => ((r01Same.f kj94 t284 (([(⟨bt287.1, bt287.2⟩ : S40)] : List (S40)))).bind fun t292 => (l01awake.j2 kj94 t220 t292)))) = some r := by first | (rw [hy281]; with_reducible exact H) | (have H2_ := (Option.bind_some _ _).symm.trans H; rw [hy281]; with_reducible exact H2_) | (have H2_ := (Option.bind_some _ _).symm.trans H; with_reducible exact H2_) | with_reducible exact H | (rw [hy281]; exact H) | exact H
              have Ny281 := Aside0.mk hy281
              clear hy281
              replace H := Option.bind_eq_some_iff.mp H
              obtain ⟨t284, A1220, H⟩ := H
              replace H : ((l01e.f 0 3).bind fun bt287 => ((r01Same.f kj94 t284 (([(⟨bt287.1, bt287.2⟩ : S40)] : List (S40)))).bind fun t292 => (l01awake.j2 kj94 t220 t292))) = some r := H
              have A122 := Aside0.mk A1220
              clear A1220
              replace H := Option.bind_eq_some_iff.mp H
              obtain ⟨⟨t287, t288⟩, A1230, H⟩ := H
              replace H : ((r01Same.f kj94 t284 (([(⟨t287, t288⟩ : S40)] : List (S40)))).bind fun t292 => (l01awake.j2 kj94 t220 t292)) = some r := H
              have A123 := Aside0.mk A1230
              clear A1230
              obtain ⟨y289, hy289⟩ : ∃ y_ : List (S40), y_ = (([(⟨t287, t288⟩ : S40)] : List (S40))) := ⟨_, rfl⟩
              replace H : ((r01Same.f kj94 t284 y289).bind fun t292 => (l01awake.j2 kj94 t220 t292)) = some r := by first | (rw [hy289]; with_reducible exact H) | (have H2_ := (Option.bind_some _ _).symm.trans H; rw [hy289]; with_reducible exact H2_) | (have H2_ := (Option.bind_some _ _).symm.trans H; with_reducible exact H2_) | with_reducible exact H | (rw [hy289]; exact H) | exact H
              have Ny289 := Aside0.mk hy289
              clear hy289
              replace H := Option.bind_eq_some_iff.mp H
              obtain ⟨t292, A1240, H⟩ := H
              replace H : (l01awake.j2 kj94 t220 t292) = some r := H
              have A124 := Aside0.mk A1240
              clear A1240
              have H' := Aside0.mk H
              clear H
              go_wp2_with (first | (go_at_call 33; (with_reducible refine (l01e.calls 0 2 t274 t275 _ A120.out).mono ?_); rintro e w125 ⟨rfl, hb⟩; have n0_ := Aside0.mk (Kd.R_below (by (with_reducible repeat (first | apply Kd.R_alloc | apply Kd.R_drewN | apply Kd.R_drew)); exact HO_1.out) hb); have n1_ := Aside0.mk (below_step (by repeat (first | (with_reducible first | exact HB.out | apply below_alloc | apply pw_below_drewN | apply below_drew1) | exact HB.out)) hb); clear HO_1; clear HB; have HO_1 := n0_; have HB := n1_; clear n0_ n1_; (try clear hb); (try clear hb2); (try clear hk); (try clear hi)) | ((with_reducible refine gate_dst (N := 76) rfl ?_); (try (refine gate_guard (by rfl) ?_; dsimp only)); refine Kd.R_lit k40 _ 40 ?hg (N := 76) ?hd (xs := ([(⟨t274, t275⟩ : S40)] : List (S40))) (inner := [.int .i64 t274, .int .i64 t275]) (ok := fun _ => True) (okp := fun _ => True) ?hr ?hp (fun _ hk => hk) trivial (Below.refl _ _) (Nat.le_refl _) (by simp) ?_; (case hd => rfl); (case hg => rfl); (case hr => first | (go_simp; done) | (go_simp; rfl)); (case hp => exact (Reps.c2 (show Kd.M k40 _ _ _ (⟨t274, t275⟩ : S40) [.int .i64 t274, .int .i64 t275] from (k40_mkM _ _ _ (⟨t274, t275⟩ : S40) )) (Reps.none _ _))); intro v277 w126 ho127 hb hg_ hnew_; clear hg_ hnew_; (first | rw [← Ny276.out] at ho127 | (simp only [Int.reduceToNat] at ho127; rw [← Ny276.out] at ho127)); have n0_ := Aside0.mk (Kd.R_elder' (by (with_reducible repeat (first | apply Kd.R_alloc | apply Kd.R_drewN | apply Kd.R_drew)); exact HO_1.out) (Kd.R_base ho127) hb); have n1_ := Aside0.mk (Kd.R_lower (Kd.R_new' ho127 (Kd.R_lt (by (with_reducible repeat (first | apply Kd.R_alloc | apply Kd.R_drewN | apply Kd.R_drew)); exact HO_1.out))) (below_size (by repeat (first | (with_reducible first | exact HB.out | apply below_alloc | apply pw_below_drewN | apply below_drew1) | exact HB.out)))); have n2_ := Aside0.mk (below_step (by repeat (first | (with_reducible first | exact HB.out | apply below_alloc | apply pw_below_drewN | apply below_drew1) | exact HB.out)) hb); clear HO_1; clear HB; have HO_1 := n0_; have HO278 := n1_; have HB := n2_; clear n0_ n1_ n2_; clear hb ho127) | (go_at_call 33; (with_reducible refine (l01e.calls 2 1 t279 t280 _ A121.out).mono ?_); rintro e w128 ⟨rfl, hb⟩; have n0_ := Aside0.mk (Kd.R_below (by (with_reducible repeat (first | apply Kd.R_alloc | apply Kd.R_drewN | apply Kd.R_drew)); exact HO_1.out) hb); have n1_ := Aside0.mk (Kd.R_below (by (with_reducible repeat (first | apply Kd.R_alloc | apply Kd.R_drewN | apply Kd.R_drew)); exact HO278.out) hb); have n2_ := Aside0.mk (below_step (by repeat (first | (with_reducible first | exact HB.out | apply below_alloc | apply pw_below_drewN | apply below_drew1) | exact HB.out)) hb); clear HO_1; clear HO278; clear HB; have HO_1 := n0_; have HO278 := n1_; have HB := n2_; clear n0_ n1_ n2_; (try clear hb); (try clear hb2); (try clear hk); (try clear hi)) | ((with_reducible refine gate_dst (N := 78) rfl ?_); (try (refine gate_guard (by rfl) ?_; dsimp only)); refine Kd.R_lit k40 _ 40 ?hg (N := 78) ?hd (xs := ([(⟨t279, t280⟩ : S40)] : List (S40))) (inner := [.int .i64 t279, .int .i64 t280]) (ok := fun _ => True) (okp := fun _ => True) ?hr ?hp (fun _ hk => hk) trivial (Below.refl _ _) (Nat.le_refl _) (by simp) ?_; (case hd => rfl); (case hg => rfl); (case hr => first | (go_simp; done) | (go_simp; rfl)); (case hp => exact (Reps.c2 (show Kd.M k40 _ _ _ (⟨t279, t280⟩ : S40) [.int .i64 t279, .int .i64 t280] from (k40_mkM _ _ _ (⟨t279, t280⟩ : S40) )) (Reps.none _ _))); intro v282 w129 ho130 hb hg_ hnew_; clear hg_ hnew_; (first | rw [← Ny281.out] at ho130 | (simp only [Int.reduceToNat] at ho130; rw [← Ny281.out] at ho130)); have n0_ := Aside0.mk (Kd.R_elder' (by (with_reducible repeat (first | apply Kd.R_alloc | apply Kd.R_drewN | apply Kd.R_drew)); exact HO_1.out) (Kd.R_base ho130) hb); have n1_ := Aside0.mk (Kd.R_elder' (by (with_reducible repeat (first | apply Kd.R_alloc | apply Kd.R_drewN | apply Kd.R_drew)); exact HO278.out) (Kd.R_base ho130) hb); have n2_ := Aside0.mk (Kd.R_lower (Kd.R_new' (Kd.R_new' ho130 (Kd.R_lt (by (with_reducible repeat (first | apply Kd.R_alloc | apply Kd.R_drewN | apply Kd.R_drew)); exact HO_1.out))) (Kd.R_lt (by (with_reducible repeat (first | apply Kd.R_alloc | apply Kd.R_drewN | apply Kd.R_drew)); exact HO278.out))) (below_size (by repeat (first | (with_reducible first | exact HB.out | apply below_alloc | apply pw_below_drewN | apply below_drew1) | exact HB.out)))); have n3_ := Aside0.mk (below_step (by repeat (first | (with_reducible first | exact HB.out | apply below_alloc | apply pw_below_drewN | apply below_drew1) | exact HB.out)) hb); clear HO_1; clear HO278; clear HB; have HO_1 := n0_; have HO278 := n1_; have HO283 := n2_; have HB := n3_; clear n0_ n1_ n2_ n3_; clear hb ho130; obtain ⟨Ao131, co131, eo131⟩ := Kd.R_slice HO278.out; subst eo131; obtain ⟨Ao132, co132, eo132⟩ := Kd.R_slice HO283.out; subst eo132) | (go_at_call 25; (with_reducible refine (xUnion.calls _ _ y276 _ _ y281 t284 _ ?side1 ?side2 ?side3 ?side4 A122.out).mono ?_); (case side1 => repeat (first | exact (Kd.R_reads' HO278.out).2.2 | (with_reducible refine Kd.C_alloc ?_ _) | (with_reducible refine Kd.C_drewN ?_ _) | (with_reducible refine Kd.C_drew ?_))); (case side2 => exact (Kd.R_reads' HO278.out).2.1); (case side3 => repeat (first | exact (Kd.R_reads' HO283.out).2.2 | (with_reducible refine Kd.C_alloc ?_ _) | (with_reducible refine Kd.C_drewN ?_ _) | (with_reducible refine Kd.C_drew ?_))); (case side4 => exact (Kd.R_reads' HO283.out).2.1); rintro e w133 ⟨v285, rfl, ho0, hb⟩; have n0_ := Aside0.mk (Kd.R_elder' (by (with_reducible repeat (first | apply Kd.R_alloc | apply Kd.R_drewN | apply Kd.R_drew)); exact HO_1.out) (Kd.R_base ho0) hb); have n1_ := Aside0.mk (Kd.R_elder' (by (with_reducible repeat (first | apply Kd.R_alloc | apply Kd.R_drewN | apply Kd.R_drew)); exact HO278.out) (Kd.R_base ho0) hb); have n2_ := Aside0.mk (Kd.R_elder' (by (with_reducible repeat (first | apply Kd.R_alloc | apply Kd.R_drewN | apply Kd.R_drew)); exact HO283.out) (Kd.R_base ho0) hb); have n3_ := Aside0.mk (Kd.R_lower (Kd.R_new' (Kd.R_new' (Kd.R_new' ho0 (Kd.R_lt (by (with_reducible repeat (first | apply Kd.R_alloc | apply Kd.R_drewN | apply Kd.R_drew)); exact HO_1.out))) (Kd.R_lt (by (with_reducible repeat (first | apply Kd.R_alloc | apply Kd.R_drewN | apply Kd.R_drew)); exact HO278.out))) (Kd.R_lt (by (with_reducible repeat (first | apply Kd.R_alloc | apply Kd.R_drewN | apply Kd.R_drew)); exact HO283.out))) (below_size (by repeat (first | (with_reducible first | exact HB.out | apply below_alloc | apply pw_below_drewN | apply below_drew1) | exact HB.out)))); have n4_ := Aside0.mk (below_step (by repeat (first | (with_reducible first | exact HB.out | apply below_alloc | apply pw_below_drewN | apply below_drew1) | exact HB.out)) hb); clear HO_1; clear HO278; clear HO283; clear HB; have HO_1 := n0_; have HO278 := n1_; have HO283 := n2_; have HO286 := n3_; have HB := n4_; clear n0_ n1_ n2_ n3_ n4_; (try clear hb); (try clear hb2); (try clear hk); (try clear hi); (try clear ho0)) | (go_at_call 33; (with_reducible refine (l01e.calls 0 3 t287 t288 _ A123.out).mono ?_); rintro e w134 ⟨rfl, hb⟩; have n0_ := Aside0.mk (Kd.R_below (by (with_reducible repeat (first | apply Kd.R_alloc | apply Kd.R_drewN | apply Kd.R_drew)); exact HO_1.out) hb); have n1_ := Aside0.mk (Kd.R_below (by (with_reducible repeat (first | apply Kd.R_alloc | apply Kd.R_drewN | apply Kd.R_drew)); exact HO278.out) hb); have n2_ := Aside0.mk (Kd.R_below (by (with_reducible repeat (first | apply Kd.R_alloc | apply Kd.R_drewN | apply Kd.R_drew)); exact HO283.out) hb); have n3_ := Aside0.mk (Kd.R_below (by (with_reducible repeat (first | apply Kd.R_alloc | apply Kd.R_drewN | apply Kd.R_drew)); exact HO286.out) hb); have n4_ := Aside0.mk (below_step (by repeat (first | (with_reducible first | exact HB.out | apply below_alloc | apply pw_below_drewN | apply below_drew1) | exact HB.out)) hb); clear HO_1; clear HO278; clear HO283; clear HO286; clear HB; have HO_1 := n0_; have HO278 := n1_; have HO283 := n2_; have HO286 := n3_; have HB := n4_; clear n0_ n1_ n2_ n3_ n4_; (try clear hb); (try clear hb2); (try clear hk); (try clear hi)) | ((with_reducible refine gate_dst (N := 81) rfl ?_); (try (refine gate_guard (by rfl) ?_; dsimp only)); refine Kd.R_lit k40 _ 40 ?hg (N := 81) ?hd (xs := ([(⟨t287, t288⟩ : S40)] : List (S40))) (inner := [.int .i64 t287, .int .i64 t288]) (ok := fun _ => True) (okp := fun _ => True) ?hr ?hp (fun _ hk => hk) trivial (Below.refl _ _) (Nat.le_refl _) (by simp) ?_; (case hd => rfl); (case hg => rfl); (case hr => first | (go_simp; done) | (go_simp; rfl)); (case hp => exact (Reps.c2 (show Kd.M k40 _ _ _ (⟨t287, t288⟩ : S40) [.int .i64 t287, .int .i64 t288] from (k40_mkM _ _ _ (⟨t287, t288⟩ : S40) )) (Reps.none _ _))); intro v290 w135 ho136 hb hg_ hnew_; clear hg_ hnew_; (first | rw [← Ny289.out] at ho136 | (simp only [Int.reduceToNat] at ho136; rw [← Ny289.out] at ho136)); have n0_ := Aside0.mk (Kd.R_elder' (by (with_reducible repeat (first | apply Kd.R_alloc | apply Kd.R_drewN | apply Kd.R_drew)); exact HO_1.out) (Kd.R_base ho136) hb); have n1_ := Aside0.mk (Kd.R_elder' (by (with_reducible repeat (first | apply Kd.R_alloc | apply Kd.R_drewN | apply Kd.R_drew)); exact HO278.out) (Kd.R_base ho136) hb); have n2_ := Aside0.mk (Kd.R_elder' (by (with_reducible repeat (first | apply Kd.R_alloc | apply Kd.R_drewN | apply Kd.R_drew)); exact HO283.out) (Kd.R_base ho136) hb); have n3_ := Aside0.mk (Kd.R_elder' (by (with_reducible repeat (first | apply Kd.R_alloc | apply Kd.R_drewN | apply Kd.R_drew)); exact HO286.out) (Kd.R_base ho136) hb); have n4_ := Aside0.mk (Kd.R_lower (Kd.R_new' (Kd.R_new' (Kd.R_new' (Kd.R_new' ho136 (Kd.R_lt (by (with_reducible repeat (first | apply Kd.R_alloc | apply Kd.R_drewN | apply Kd.R_drew)); exact HO_1.out))) (Kd.R_lt (by (with_reducible repeat (first | apply Kd.R_alloc | apply Kd.R_drewN | apply Kd.R_drew)); exact HO278.out))) (Kd.R_lt (by (with_reducible repeat (first | apply Kd.R_alloc | apply Kd.R_drewN | apply Kd.R_drew)); exact HO283.out))) (Kd.R_lt (by (with_reducible repeat (first | apply Kd.R_alloc | apply Kd.R_drewN | apply Kd.R_drew)); exact HO286.out))) (below_size (by repeat (first | (with_reducible first | exact HB.out | apply below_alloc | apply pw_below_drewN | apply below_drew1) | exact HB.out)))); have n5_ := Aside0.mk (below_step (by repeat (first | (with_reducible first | exact HB.out | apply below_alloc | apply pw_below_drewN | apply below_drew1) | exact HB.out)) hb); clear HO_1; clear HO278; clear HO283; clear HO286; clear HB; have HO_1 := n0_; have HO278 := n1_; have HO283 := n2_; have HO286 := n3_; have HO291 := n4_; have HB := n5_; clear n0_ n1_ n2_ n3_ n4_ n5_; clear hb ho136; obtain ⟨Ao137, co137, eo137⟩ := Kd.R_slice HO286.out; subst eo137; obtain ⟨Ao138, co138, eo138⟩ := Kd.R_slice HO291.out; subst eo138) | (go_at_call 18; (with_reducible refine (r01Same.calls kj94 _ _ t284 _ _ y289 t292 _ ?side1 ?side2 ?side3 ?side4 A124.out).mono ?_); (case side1 => repeat (first | exact (Kd.R_reads' HO286.out).2.2 | (with_reducible refine Kd.C_alloc ?_ _) | (with_reducible refine Kd.C_drewN ?_ _) | (with_reducible refine Kd.C_drew ?_))); (case side2 => exact (Kd.R_reads' HO286.out).2.1); (case side3 => repeat (first | exact (Kd.R_reads' HO291.out).2.2 | (with_reducible refine Kd.C_alloc ?_ _) | (with_reducible refine Kd.C_drewN ?_ _) | (with_reducible refine Kd.C_drew ?_))); (case side4 => exact (Kd.R_reads' HO291.out).2.1); rintro e w' ⟨rfl, ⟨nd, rfl⟩⟩))
              go_meet
              case rel => exact ⟨_, (t292), (by first | rfl | (simp; done) | (simp [*]; done)), H', ⟨by have := HJ9.out; have := HJ94.out; first | omega | exact Nat.le_refl _⟩, ⟨by (with_reducible repeat (first | apply Kd.R_alloc | apply Kd.R_drewN | apply Kd.R_drew)); exact Kd.R_mono HO_1.out (fun _ hk => trivial)⟩, ⟨by repeat (first | (with_reducible first | exact HB.out | apply below_alloc | apply pw_below_drewN | apply below_drew1) | exact HB.out)⟩⟩
            · replace c119 := Bool.eq_false_iff.mpr c119
              subst c119
              have H1 : (l01awake.j2 kj94 t220 false) = some r := by rw [if_neg (show ¬ (false = true) by decide)] at H; exact H
              clear H
              have H := H1
              clear H1
              have H' := Aside0.mk H
              clear H
              go_wp2
              go_meet
              case rel => exact ⟨_, (false), (by first | rfl | (simp; done) | (simp [*]; done)), H', ⟨by have := HJ9.out; have := HJ94.out; first | omega | exact Nat.le_refl _⟩, ⟨by (with_reducible repeat (first | apply Kd.R_alloc | apply Kd.R_drewN | apply Kd.R_drew)); exact HO_1.out⟩, ⟨by repeat (first | (with_reducible first | exact HB.out | apply below_alloc | apply pw_below_drewN | apply below_drew1) | exact HB.out)⟩⟩
          case rest =>
            clear HC118
            try clear c1
            try clear c2
            try clear p2
            try clear c3
            try clear c4
            try clear c9
            try clear c10
            try clear c11
            try clear c13
            try clear c16
            try clear c18
            try clear c23
            try clear c32
            try clear c33
            try clear c33b0
            try clear c33b1
            try clear c39
            try clear c40
            try clear c40b0
            try clear c40b1
            try clear c96
            try clear c98
            try clear c98b0
            try clear c98b1
            try clear c100
            try clear c100b0
            try clear c100b1
            try clear c119
            try clear p2
            obtain ⟨kq, x7_117, rfl, HA, HJ117, HO_1, HB⟩ := hcut
            cases kq with
            | zero => exact absurd HA.out (by simp [l01awake.j2])
            | succ kj117 =>
              have H := HA.out
              clear HA
              simp only [l01awake.j2] at H
              have HC139 := Aside0.mk H
              clear H
              go_upto_region 7 with (fail)
              go_cut [7] (fun v7 wc => ∃ (kq : Nat) (x7_138 : Bool), v7 = .bool x7_138 ∧ Aside0 (l01awake.j3 kq t220 x7_138 = some r) ∧ Aside0 (kq ≤ kj117) ∧ Aside0 (Kd.R k40 40 wc w.heap.size (fun _ => True) v222 t220) ∧ Aside0 (Below w.heap.size w wc))
              case first =>
                have H := HC139.out
                clear HC139
                by_cases c140 : x7_117 = true
                · subst c140
                  have H1 : ((l01e.f 0 10).bind fun bt293 => ((l01e.f 3 2).bind fun bt298 => ((xSubtract.f (([(⟨bt293.1, bt293.2⟩ : S40)] : List (S40))) (([(⟨bt298.1, bt298.2⟩ : S40)] : List (S40)))).bind fun t303 => ((l01e.f 0 3).bind fun bt306 => ((l01e.f 5 5).bind fun bt308 => ((r01Same.f kj117 t303 (([(⟨bt306.1, bt306.2⟩ : S40), (⟨bt308.1, bt308.2⟩ : S40)] : List (S40)))).bind fun t313 => (l01awake.j3 kj117 t220 t313))))))) = some r := by rw [if_pos rfl] at H; exact H
                  clear H
                  have H := H1
                  clear H1
                  replace H := Option.bind_eq_some_iff.mp H
                  obtain ⟨⟨t293, t294⟩, A1410, H⟩ := H
                  replace H : ((l01e.f 3 2).bind fun bt298 => ((xSubtract.f (([(⟨t293, t294⟩ : S40)] : List (S40))) (([(⟨bt298.1, bt298.2⟩ : S40)] : List (S40)))).bind fun t303 => ((l01e.f 0 3).bind fun bt306 => ((l01e.f 5 5).bind fun bt308 => ((r01Same.f kj117 t303 (([(⟨bt306.1, bt306.2⟩ : S40), (⟨bt308.1, bt308.2⟩ : S40)] : List (S40)))).bind fun t313 => (l01awake.j3 kj117 t220 t313)))))) = some r := H
                  have A141 := Aside0.mk A1410
                  clear A1410
                  obtain ⟨y295, hy295⟩ : ∃ y_ : List (S40), y_ = (([(⟨t293, t294⟩ : S40)] : List (S40))) := ⟨_, rfl⟩
                  replace H : ((l01e.f 3 2).bind fun bt298 => ((xSubtract.f y295 (([(⟨bt298.1, bt298.2⟩ : S40)] : List (S40)))).bind fun t303 => ((l01e.f 0 3).bind fun bt306 => ((l01e.f 5 5).bind fun bt308 => ((r01Same.f kj117 t303 (([(⟨bt306.1, bt306.2⟩ : S40), (⟨bt308.1, bt308.2⟩ : S40)] : List (S40)))).bind fun t313 => (l01awake.j3 kj117 t220 t313)))))) = some r := by first | (rw [hy295]; with_reducible exact H) | (have H2_ := (Option.bind_some _ _).symm.trans H; rw [hy295]; with_reducible exact H2_) | (have H2_ := (Option.bind_some _ _).symm.trans H; with_reducible exact H2_) | with_reducible exact H | (rw [hy295]; exact H) | exact H
                  have Ny295 := Aside0.mk hy295
                  clear hy295
                  replace H := Option.bind_eq_some_iff.mp H
                  obtain ⟨⟨t298, t299⟩, A1420, H⟩ := H
                  replace H : ((xSubtract.f y295 (([(⟨t298, t299⟩ : S40)] : List (S40)))).bind fun t303 => ((l01e.f 0 3).bind fun bt306 => ((l01e.f 5 5).bind fun bt308 => ((r01Same.f kj117 t303 (([(⟨bt306.1, bt306.2⟩ : S40), (⟨bt308.1, bt308.2⟩ : S40)] : List (S40)))).bind fun t313 => (l01awake.j3 kj117 t220 t313))))) = some r := H
                  have A142 := Aside0.mk A1420
                  clear A1420
                  obtain ⟨y300, hy300⟩ : ∃ y_ : List (S40), y_ = (([(⟨t298, t299⟩ : S40)] : List (S40))) := ⟨_, rfl⟩
                  replace H : ((xSubtract.f y295 y300).bind fun t303 => ((l01e.f 0 3).bind fun bt306 => ((l01e.f 5 5).bind fun bt308 => ((r01Same.f kj117 t303 (([(⟨bt306.1, bt306.2⟩ : S40), (⟨bt308.1, bt308.2⟩ : S40)] : List (S40)))).bind fun t313 => (l01awake.j3 kj117 t220 t313))))) = some r := by first | (rw [hy300]; with_reducible exact H) | (have H2_ := (Option.bind_some _ _).symm.trans H; rw [hy300]; with_reducible exact H2_) | (have H2_ := (Option.bind_some _ _).symm.trans H; with_reducible exact H2_) | with_reducible exact H | (rw [hy300]; exact H) | exact H
                  have Ny300 := Aside0.mk hy300
                  clear hy300
                  replace H := Option.bind_eq_some_iff.mp H
                  obtain ⟨t303, A1430, H⟩ := H
                  replace H : ((l01e.f 0 3).bind fun bt306 => ((l01e.f 5 5).bind fun bt308 => ((r01Same.f kj117 t303 (([(⟨bt306.1, bt306.2⟩ : S40), (⟨bt308.1, bt308.2⟩ : S40)] : List (S40)))).bind fun t313 => (l01awake.j3 kj117 t220 t313)))) = some r := H
                  have A143 := Aside0.mk A1430
                  clear A1430
                  replace H := Option.bind_eq_some_iff.mp H
                  obtain ⟨⟨t306, t307⟩, A1440, H⟩ := H
                  replace H : ((l01e.f 5 5).bind fun bt308 => ((r01Same.f kj117 t303 (([(⟨t306, t307⟩ : S40), (⟨bt308.1, bt308.2⟩ : S40)] : List (S40)))).bind fun t313 => (l01awake.j3 kj117 t220 t313))) = some r := H
                  have A144 := Aside0.mk A1440
                  clear A1440
                  replace H := Option.bind_eq_some_iff.mp H
                  obtain ⟨⟨t308, t309⟩, A1450, H⟩ := H
                  replace H : ((r01Same.f kj117 t303 (([(⟨t306, t307⟩ : S40), (⟨t308, t309⟩ : S40)] : List (S40)))).bind fun t313 => (l01awake.j3 kj117 t220 t313)) = some r := H
                  have A145 := Aside0.mk A1450
                  clear A1450
                  obtain ⟨y310, hy310⟩ : ∃ y_ : List (S40), y_ = (([(⟨t306, t307⟩ : S40), (⟨t308, t309⟩ : S40)] : List (S40))) := ⟨_, rfl⟩
                  replace H : ((r01Same.f kj117 t303 y310).bind fun t313 => (l01awake.j3 kj117 t220 t313)) = some r := by first | (rw [hy310]; with_reducible exact H) | (have H2_ := (Option.bind_some _ _).symm.trans H; rw [hy310]; with_reducible exact H2_) | (have H2_ := (Option.bind_some _ _).symm.trans H; with_reducible exact H2_) | with_reducible exact H | (rw [hy310]; exact H) | exact H
                  have Ny310 := Aside0.mk hy310
                  clear hy310
                  replace H := Option.bind_eq_some_iff.mp H
                  obtain ⟨t313, A1460, H⟩ := H
                  replace H : (l01awake.j3 kj117 t220 t313) = some r := H
                  have A146 := Aside0.mk A1460
                  clear A1460
                  have H' := Aside0.mk H
                  clear H
                  go_wp2_with (first | (go_at_call 33; (with_reducible refine (l01e.calls 0 10 t293 t294 _ A141.out).mono ?_); rintro e w147 ⟨rfl, hb⟩; have n0_ := Aside0.mk (Kd.R_below (by (with_reducible repeat (first | apply Kd.R_alloc | apply Kd.R_drewN | apply Kd.R_drew)); exact HO_1.out) hb); have n1_ := Aside0.mk (below_step (by repeat (first | (with_reducible first | exact HB.out | apply below_alloc | apply pw_below_drewN | apply below_drew1) | exact HB.out)) hb); clear HO_1; clear HB; have HO_1 := n0_; have HB := n1_; clear n0_ n1_; (try clear hb); (try clear hb2); (try clear hk); (try clear hi)) | ((with_reducible refine gate_dst (N := 87) rfl ?_); (try (refine gate_guard (by rfl) ?_; dsimp only)); refine Kd.R_lit k40 _ 40 ?hg (N := 87) ?hd (xs := ([(⟨t293, t294⟩ : S40)] : List (S40))) (inner := [.int .i64 t293, .int .i64 t294]) (ok := fun _ => True) (okp := fun _ => True) ?hr ?hp (fun _ hk => hk) trivial (Below.refl _ _) (Nat.le_refl _) (by simp) ?_; (case hd => rfl); (case hg => rfl); (case hr => first | (go_simp; done) | (go_simp; rfl)); (case hp => exact (Reps.c2 (show Kd.M k40 _ _ _ (⟨t293, t294⟩ : S40) [.int .i64 t293, .int .i64 t294] from (k40_mkM _ _ _ (⟨t293, t294⟩ : S40) )) (Reps.none _ _))); intro v296 w148 ho149 hb hg_ hnew_; clear hg_ hnew_; (first | rw [← Ny295.out] at ho149 | (simp only [Int.reduceToNat] at ho149; rw [← Ny295.out] at ho149)); have n0_ := Aside0.mk (Kd.R_elder' (by (with_reducible repeat (first | apply Kd.R_alloc | apply Kd.R_drewN | apply Kd.R_drew)); exact HO_1.out) (Kd.R_base ho149) hb); have n1_ := Aside0.mk (Kd.R_lower (Kd.R_new' ho149 (Kd.R_lt (by (with_reducible repeat (first | apply Kd.R_alloc | apply Kd.R_drewN | apply Kd.R_drew)); exact HO_1.out))) (below_size (by repeat (first | (with_reducible first | exact HB.out | apply below_alloc | apply pw_below_drewN | apply below_drew1) | exact HB.out)))); have n2_ := Aside0.mk (below_step (by repeat (first | (with_reducible first | exact HB.out | apply below_alloc | apply pw_below_drewN | apply below_drew1) | exact HB.out)) hb); clear HO_1; clear HB; have HO_1 := n0_; have HO297 := n1_; have HB := n2_; clear n0_ n1_ n2_; clear hb ho149) | (go_at_call 33; (with_reducible refine (l01e.calls 3 2 t298 t299 _ A142.out).mono ?_); rintro e w150 ⟨rfl, hb⟩; have n0_ := Aside0.mk (Kd.R_below (by (with_reducible repeat (first | apply Kd.R_alloc | apply Kd.R_drewN | apply Kd.R_drew)); exact HO_1.out) hb); have n1_ := Aside0.mk (Kd.R_below (by (with_reducible repeat (first | apply Kd.R_alloc | apply Kd.R_drewN | apply Kd.R_drew)); exact HO297.out) hb); have n2_ := Aside0.mk (below_step (by repeat (first | (with_reducible first | exact HB.out | apply below_alloc | apply pw_below_drewN | apply below_drew1) | exact HB.out)) hb); clear HO_1; clear HO297; clear HB; have HO_1 := n0_; have HO297 := n1_; have HB := n2_; clear n0_ n1_ n2_; (try clear hb); (try clear hb2); (try clear hk); (try clear hi)) | ((with_reducible refine gate_dst (N := 89) rfl ?_); (try (refine gate_guard (by rfl) ?_; dsimp only)); refine Kd.R_lit k40 _ 40 ?hg (N := 89) ?hd (xs := ([(⟨t298, t299⟩ : S40)] : List (S40))) (inner := [.int .i64 t298, .int .i64 t299]) (ok := fun _ => True) (okp := fun _ => True) ?hr ?hp (fun _ hk => hk) trivial (Below.refl _ _) (Nat.le_refl _) (by simp) ?_; (case hd => rfl); (case hg => rfl); (case hr => first | (go_simp; done) | (go_simp; rfl)); (case hp => exact (Reps.c2 (show Kd.M k40 _ _ _ (⟨t298, t299⟩ : S40) [.int .i64 t298, .int .i64 t299] from (k40_mkM _ _ _ (⟨t298, t299⟩ : S40) )) (Reps.none _ _))); intro v301 w151 ho152 hb hg_ hnew_; clear hg_ hnew_; (first | rw [← Ny300.out] at ho152 | (simp only [Int.reduceToNat] at ho152; rw [← Ny300.out] at ho152)); have n0_ := Aside0.mk (Kd.R_elder' (by (with_reducible repeat (first | apply Kd.R_alloc | apply Kd.R_drewN | apply Kd.R_drew)); exact HO_1.out) (Kd.R_base ho152) hb); have n1_ := Aside0.mk (Kd.R_elder' (by (with_reducible repeat (first | apply Kd.R_alloc | apply Kd.R_drewN | apply Kd.R_drew)); exact HO297.out) (Kd.R_base ho152) hb); have n2_ := Aside0.mk (Kd.R_lower (Kd.R_new' (Kd.R_new' ho152 (Kd.R_lt (by (with_reducible repeat (first | apply Kd.R_alloc | apply Kd.R_drewN | apply Kd.R_drew)); exact HO_1.out))) (Kd.R_lt (by (with_reducible repeat (first | apply Kd.R_alloc | apply Kd.R_drewN | apply Kd.R_drew)); exact HO297.out))) (below_size (by repeat (first | (with_reducible first | exact HB.out | apply below_alloc | apply pw_below_drewN | apply below_drew1) | exact HB.out)))); have n3_ := Aside0.mk (below_step (by repeat (first | (with_reducible first | exact HB.out | apply below_alloc | apply pw_below_drewN | apply below_drew1) | exact HB.out)) hb); clear HO_1; clear HO297; clear HB; have HO_1 := n0_; have HO297 := n1_; have HO302 := n2_; have HB := n3_; clear n0_ n1_ n2_ n3_; clear hb ho152; obtain ⟨Ao153, co153, eo153⟩ := Kd.R_slice HO297.out; subst eo153; obtain ⟨Ao154, co154, eo154⟩ := Kd.R_slice HO302.out; subst eo154) | (go_at_call 29; (with_reducible refine (xSubtract.calls _ _ y295 _ _ y300 t303 _ ?side1 ?side2 ?side3 ?side4 A143.out).mono ?_); (case side1 => repeat (first | exact (Kd.R_reads' HO297.out).2.2 | (with_reducible refine Kd.C_alloc ?_ _) | (with_reducible refine Kd.C_drewN ?_ _) | (with_reducible refine Kd.C_drew ?_))); (case side2 => exact (Kd.R_reads' HO297.out).2.1); (case side3 => repeat (first | exact (Kd.R_reads' HO302.out).2.2 | (with_reducible refine Kd.C_alloc ?_ _) | (with_reducible refine Kd.C_drewN ?_ _) | (with_reducible refine Kd.C_drew ?_))); (case side4 => exact (Kd.R_reads' HO302.out).2.1); rintro e w155 ⟨v304, rfl, ho0, hb⟩; have n0_ := Aside0.mk (Kd.R_elder' (by (with_reducible repeat (first | apply Kd.R_alloc | apply Kd.R_drewN | apply Kd.R_drew)); exact HO_1.out) (Kd.R_base ho0) hb); have n1_ := Aside0.mk (Kd.R_elder' (by (with_reducible repeat (first | apply Kd.R_alloc | apply Kd.R_drewN | apply Kd.R_drew)); exact HO297.out) (Kd.R_base ho0) hb); have n2_ := Aside0.mk (Kd.R_elder' (by (with_reducible repeat (first | apply Kd.R_alloc | apply Kd.R_drewN | apply Kd.R_drew)); exact HO302.out) (Kd.R_base ho0) hb); have n3_ := Aside0.mk (Kd.R_lower (Kd.R_new' (Kd.R_new' (Kd.R_new' ho0 (Kd.R_lt (by (with_reducible repeat (first | apply Kd.R_alloc | apply Kd.R_drewN | apply Kd.R_drew)); exact HO_1.out))) (Kd.R_lt (by (with_reducible repeat (first | apply Kd.R_alloc | apply Kd.R_drewN | apply Kd.R_drew)); exact HO297.out))) (Kd.R_lt (by (with_reducible repeat (first | apply Kd.R_alloc | apply Kd.R_drewN | apply Kd.R_drew)); exact HO302.out))) (below_size (by repeat (first | (with_reducible first | exact HB.out | apply below_alloc | apply pw_below_drewN | apply below_drew1) | exact HB.out)))); have n4_ := Aside0.mk (below_step (by repeat (first | (with_reducible first | exact HB.out | apply below_alloc | apply pw_below_drewN | apply below_drew1) | exact HB.out)) hb); clear HO_1; clear HO297; clear HO302; clear HB; have HO_1 := n0_; have HO297 := n1_; have HO302 := n2_; have HO305 := n3_; have HB := n4_; clear n0_ n1_ n2_ n3_ n4_; (try clear hb); (try clear hb2); (try clear hk); (try clear hi); (try clear ho0)) | (go_at_call 33; (with_reducible refine (l01e.calls 0 3 t306 t307 _ A144.out).mono ?_); rintro e w156 ⟨rfl, hb⟩; have n0_ := Aside0.mk (Kd.R_below (by (with_reducible repeat (first | apply Kd.R_alloc | apply Kd.R_drewN | apply Kd.R_drew)); exact HO_1.out) hb); have n1_ := Aside0.mk (Kd.R_below (by (with_reducible repeat (first | apply Kd.R_alloc | apply Kd.R_drewN | apply Kd.R_drew)); exact HO297.out) hb); have n2_ := Aside0.mk (Kd.R_below (by (with_reducible repeat (first | apply Kd.R_alloc | apply Kd.R_drewN | apply Kd.R_drew)); exact HO302.out) hb); have n3_ := Aside0.mk (Kd.R_below (by (with_reducible repeat (first | apply Kd.R_alloc | apply Kd.R_drewN | apply Kd.R_drew)); exact HO305.out) hb); have n4_ := Aside0.mk (below_step (by repeat (first | (with_reducible first | exact HB.out | apply below_alloc | apply pw_below_drewN | apply below_drew1) | exact HB.out)) hb); clear HO_1; clear HO297; clear HO302; clear HO305; clear HB; have HO_1 := n0_; have HO297 := n1_; have HO302 := n2_; have HO305 := n3_; have HB := n4_; clear n0_ n1_ n2_ n3_ n4_; (try clear hb); (try clear hb2); (try clear hk); (try clear hi)) | (go_at_call 33; (with_reducible refine (l01e.calls 5 5 t308 t309 _ A145.out).mono ?_); rintro e w157 ⟨rfl, hb⟩; have n0_ := Aside0.mk (Kd.R_below (by (with_reducible repeat (first | apply Kd.R_alloc | apply Kd.R_drewN | apply Kd.R_drew)); exact HO_1.out) hb); have n1_ := Aside0.mk (Kd.R_below (by (with_reducible repeat (first | apply Kd.R_alloc | apply Kd.R_drewN | apply Kd.R_drew)); exact HO297.out) hb); have n2_ := Aside0.mk (Kd.R_below (by (with_reducible repeat (first | apply Kd.R_alloc | apply Kd.R_drewN | apply Kd.R_drew)); exact HO302.out) hb); have n3_ := Aside0.mk (Kd.R_below (by (with_reducible repeat (first | apply Kd.R_alloc | apply Kd.R_drewN | apply Kd.R_drew)); exact HO305.out) hb); have n4_ := Aside0.mk (below_step (by repeat (first | (with_reducible first | exact HB.out | apply below_alloc | apply pw_below_drewN | apply below_drew1) | exact HB.out)) hb); clear HO_1; clear HO297; clear HO302; clear HO305; clear HB; have HO_1 := n0_; have HO297 := n1_; have HO302 := n2_; have HO305 := n3_; have HB := n4_; clear n0_ n1_ n2_ n3_ n4_; (try clear hb); (try clear hb2); (try clear hk); (try clear hi)) | ((with_reducible refine gate_dst (N := 93) rfl ?_); (try (refine gate_guard (by rfl) ?_; dsimp only)); refine Kd.R_lit k40 _ 40 ?hg (N := 93) ?hd (xs := ([(⟨t306, t307⟩ : S40), (⟨t308, t309⟩ : S40)] : List (S40))) (inner := [.int .i64 t306, .int .i64 t307, .int .i64 t308, .int .i64 t309]) (ok := fun _ => True) (okp := fun _ => True) ?hr ?hp (fun _ hk => hk) trivial (Below.refl _ _) (Nat.le_refl _) (by simp) ?_; (case hd => rfl); (case hg => rfl); (case hr => first | (go_simp; done) | (go_simp; rfl)); (case hp => exact (Reps.c2 (show Kd.M k40 _ _ _ (⟨t306, t307⟩ : S40) [.int .i64 t306, .int .i64 t307] from (k40_mkM _ _ _ (⟨t306, t307⟩ : S40) )) (Reps.c2 (show Kd.M k40 _ _ _ (⟨t308, t309⟩ : S40) [.int .i64 t308, .int .i64 t309] from (k40_mkM _ _ _ (⟨t308, t309⟩ : S40) )) (Reps.none _ _)))); intro v311 w158 ho159 hb hg_ hnew_; clear hg_ hnew_; (first | rw [← Ny310.out] at ho159 | (simp only [Int.reduceToNat] at ho159; rw [← Ny310.out] at ho159)); have n0_ := Aside0.mk (Kd.R_elder' (by (with_reducible repeat (first | apply Kd.R_alloc | apply Kd.R_drewN | apply Kd.R_drew)); exact HO_1.out) (Kd.R_base ho159) hb); have n1_ := Aside0.mk (Kd.R_elder' (by (with_reducible repeat (first | apply Kd.R_alloc | apply Kd.R_drewN | apply Kd.R_drew)); exact HO297.out) (Kd.R_base ho159) hb); have n2_ := Aside0.mk (Kd.R_elder' (by (with_reducible repeat (first | apply Kd.R_alloc | apply Kd.R_drewN | apply Kd.R_drew)); exact HO302.out) (Kd.R_base ho159) hb); have n3_ := Aside0.mk (Kd.R_elder' (by (with_reducible repeat (first | apply Kd.R_alloc | apply Kd.R_drewN | apply Kd.R_drew)); exact HO305.out) (Kd.R_base ho159) hb); have n4_ := Aside0.mk (Kd.R_lower (Kd.R_new' (Kd.R_new' (Kd.R_new' (Kd.R_new' ho159 (Kd.R_lt (by (with_reducible repeat (first | apply Kd.R_alloc | apply Kd.R_drewN | apply Kd.R_drew)); exact HO_1.out))) (Kd.R_lt (by (with_reducible repeat (first | apply Kd.R_alloc | apply Kd.R_drewN | apply Kd.R_drew)); exact HO297.out))) (Kd.R_lt (by (with_reducible repeat (first | apply Kd.R_alloc | apply Kd.R_drewN | apply Kd.R_drew)); exact HO302.out))) (Kd.R_lt (by (with_reducible repeat (first | apply Kd.R_alloc | apply Kd.R_drewN | apply Kd.R_drew)); exact HO305.out))) (below_size (by repeat (first | (with_reducible first | exact HB.out | apply below_alloc | apply pw_below_drewN | apply below_drew1) | exact HB.out)))); have n5_ := Aside0.mk (below_step (by repeat (first | (with_reducible first | exact HB.out | apply below_alloc | apply pw_below_drewN | apply below_drew1) | exact HB.out)) hb); clear HO_1; clear HO297; clear HO302; clear HO305; clear HB; have HO_1 := n0_; have HO297 := n1_; have HO302 := n2_; have HO305 := n3_; have HO312 := n4_; have HB := n5_; clear n0_ n1_ n2_ n3_ n4_ n5_; clear hb ho159; obtain ⟨Ao160, co160, eo160⟩ := Kd.R_slice HO305.out; subst eo160; obtain ⟨Ao161, co161, eo161⟩ := Kd.R_slice HO312.out; subst eo161) | (go_at_call 18; (with_reducible refine (r01Same.calls kj117 _ _ t303 _ _ y310 t313 _ ?side1 ?side2 ?side3 ?side4 A146.out).mono ?_); (case side1 => repeat (first | exact (Kd.R_reads' HO305.out).2.2 | (with_reducible refine Kd.C_alloc ?_ _) | (with_reducible refine Kd.C_drewN ?_ _) | (with_reducible refine Kd.C_drew ?_))); (case side2 => exact (Kd.R_reads' HO305.out).2.1); (case side3 => repeat (first | exact (Kd.R_reads' HO312.out).2.2 | (with_reducible refine Kd.C_alloc ?_ _) | (with_reducible refine Kd.C_drewN ?_ _) | (with_reducible refine Kd.C_drew ?_))); (case side4 => exact (Kd.R_reads' HO312.out).2.1); rintro e w' ⟨rfl, ⟨nd, rfl⟩⟩))
                  go_meet
                  case rel => exact ⟨_, (t313), (by first | rfl | (simp; done) | (simp [*]; done)), H', ⟨by have := HJ9.out; have := HJ94.out; have := HJ117.out; first | omega | exact Nat.le_refl _⟩, ⟨by (with_reducible repeat (first | apply Kd.R_alloc | apply Kd.R_drewN | apply Kd.R_drew)); exact Kd.R_mono HO_1.out (fun _ hk => trivial)⟩, ⟨by repeat (first | (with_reducible first | exact HB.out | apply below_alloc | apply pw_below_drewN | apply below_drew1) | exact HB.out)⟩⟩
                · replace c140 := Bool.eq_false_iff.mpr c140
                  subst c140
                  have H1 : (l01awake.j3 kj117 t220 false) = some r := by rw [if_neg (show ¬ (false = true) by decide)] at H; exact H
                  clear H
                  have H := H1
                  clear H1
                  have H' := Aside0.mk H
                  clear H
                  go_wp2
                  go_meet
                  case rel => exact ⟨_, (false), (by first | rfl | (simp; done) | (simp [*]; done)), H', ⟨by have := HJ9.out; have := HJ94.out; have := HJ117.out; first | omega | exact Nat.le_refl _⟩, ⟨by (with_reducible repeat (first | apply Kd.R_alloc | apply Kd.R_drewN | apply Kd.R_drew)); exact HO_1.out⟩, ⟨by repeat (first | (with_reducible first | exact HB.out | apply below_alloc | apply pw_below_drewN | apply below_drew1) | exact HB.out)⟩⟩
              case rest =>
                clear HC139
                try clear c1
                try clear c2
                try clear p2
                try clear c3
                try clear c4
                try clear c9
                try clear c10
                try clear c11
                try clear c13
                try clear c14
                try clear c16
                try clear c18
                try clear c23
                try clear c32
                try clear c33
                try clear c33b0
                try clear c33b1
                try clear c39
                try clear c40
                try clear c40b0
                try clear c40b1
                try clear c96
                try clear c98
                try clear c98b0
                try clear c98b1
                try clear c100
                try clear c100b0
                try clear c100b1
                try clear c119
                try clear c140
                try clear p2
                obtain ⟨kq, x7_138, rfl, HA, HJ138, HO_1, HB⟩ := hcut
                cases kq with
                | zero => exact absurd HA.out (by simp [l01awake.j3])
                | succ kj138 =>
                  have H := HA.out
                  clear HA
                  simp only [l01awake.j3] at H
                  have HC162 := Aside0.mk H
                  clear H
                  go_upto_region 8 with (fail)
                  go_cut [7] (fun v7 wc => ∃ (kq : Nat) (x7_161 : Bool), v7 = .bool x7_161 ∧ Aside0 (l01awake.j4 kq t220 x7_161 = some r) ∧ Aside0 (kq ≤ kj138) ∧ Aside0 (Kd.R k40 40 wc w.heap.size (fun _ => True) v222 t220) ∧ Aside0 (Below w.heap.size w wc))
                  case first =>
                    have H := HC162.out
                    clear HC162
                    by_cases c163 : x7_138 = true
                    · subst c163
                      have H1 : ((l01e.f 3 2).bind fun bt314 => ((xComplement.f (([(⟨bt314.1, bt314.2⟩ : S40)] : List (S40))) 8).bind fun t319 => ((l01e.f 0 3).bind fun bt322 => ((l01e.f 5 3).bind fun bt324 => ((r01Same.f kj138 t319 (([(⟨bt322.1, bt322.2⟩ : S40), (⟨bt324.1, bt324.2⟩ : S40)] : List (S40)))).bind fun t329 => (l01awake.j4 kj138 t220 t329)))))) = some r := by rw [if_pos rfl] at H; exact H
                      clear H
                      have H := H1
                      clear H1
                      replace H := Option.bind_eq_some_iff.mp H
                      obtain ⟨⟨t314, t315⟩, A1640, H⟩ := H
                      replace H : ((xComplement.f (([(⟨t314, t315⟩ : S40)] : List (S40))) 8).bind fun t319 => ((l01e.f 0 3).bind fun bt322 => ((l01e.f 5 3).bind fun bt324 => ((r01Same.f kj138 t319 (([(⟨bt322.1, bt322.2⟩ : S40), (⟨bt324.1, bt324.2⟩ : S40)] : List (S40)))).bind fun t329 => (l01awake.j4 kj138 t220 t329))))) = some r := H
                      have A164 := Aside0.mk A1640
                      clear A1640
                      obtain ⟨y316, hy316⟩ : ∃ y_ : List (S40), y_ = (([(⟨t314, t315⟩ : S40)] : List (S40))) := ⟨_, rfl⟩
                      replace H : ((xComplement.f y316 8).bind fun t319 => ((l01e.f 0 3).bind fun bt322 => ((l01e.f 5 3).bind fun bt324 => ((r01Same.f kj138 t319 (([(⟨bt322.1, bt322.2⟩ : S40), (⟨bt324.1, bt324.2⟩ : S40)] : List (S40)))).bind fun t329 => (l01awake.j4 kj138 t220 t329))))) = some r := by first | (rw [hy316]; with_reducible exact H) | (have H2_ := (Option.bind_some _ _).symm.trans H; rw [hy316]; with_reducible exact H2_) | (have H2_ := (Option.bind_some _ _).symm.trans H; with_reducible exact H2_) | with_reducible exact H | (rw [hy316]; exact H) | exact H
                      have Ny316 := Aside0.mk hy316
                      clear hy316
                      replace H := Option.bind_eq_some_iff.mp H
                      obtain ⟨t319, A1650, H⟩ := H
                      replace H : ((l01e.f 0 3).bind fun bt322 => ((l01e.f 5 3).bind fun bt324 => ((r01Same.f kj138 t319 (([(⟨bt322.1, bt322.2⟩ : S40), (⟨bt324.1, bt324.2⟩ : S40)] : List (S40)))).bind fun t329 => (l01awake.j4 kj138 t220 t329)))) = some r := H
                      have A165 := Aside0.mk A1650
                      clear A1650
                      replace H := Option.bind_eq_some_iff.mp H
                      obtain ⟨⟨t322, t323⟩, A1660, H⟩ := H
                      replace H : ((l01e.f 5 3).bind fun bt324 => ((r01Same.f kj138 t319 (([(⟨t322, t323⟩ : S40), (⟨bt324.1, bt324.2⟩ : S40)] : List (S40)))).bind fun t329 => (l01awake.j4 kj138 t220 t329))) = some r := H
                      have A166 := Aside0.mk A1660
                      clear A1660
                      replace H := Option.bind_eq_some_iff.mp H
                      obtain ⟨⟨t324, t325⟩, A1670, H⟩ := H
                      replace H : ((r01Same.f kj138 t319 (([(⟨t322, t323⟩ : S40), (⟨t324, t325⟩ : S40)] : List (S40)))).bind fun t329 => (l01awake.j4 kj138 t220 t329)) = some r := H
                      have A167 := Aside0.mk A1670
                      clear A1670
                      obtain ⟨y326, hy326⟩ : ∃ y_ : List (S40), y_ = (([(⟨t322, t323⟩ : S40), (⟨t324, t325⟩ : S40)] : List (S40))) := ⟨_, rfl⟩
                      replace H : ((r01Same.f kj138 t319 y326).bind fun t329 => (l01awake.j4 kj138 t220 t329)) = some r := by first | (rw [hy326]; with_reducible exact H) | (have H2_ := (Option.bind_some _ _).symm.trans H; rw [hy326]; with_reducible exact H2_) | (have H2_ := (Option.bind_some _ _).symm.trans H; with_reducible exact H2_) | with_reducible exact H | (rw [hy326]; exact H) | exact H
                      have Ny326 := Aside0.mk hy326
                      clear hy326
                      replace H := Option.bind_eq_some_iff.mp H
                      obtain ⟨t329, A1680, H⟩ := H
                      replace H : (l01awake.j4 kj138 t220 t329) = some r := H
                      have A168 := Aside0.mk A1680
                      clear A1680
                      have H' := Aside0.mk H
                      clear H
                      go_wp2_with (first | (go_at_call 33; (with_reducible refine (l01e.calls 3 2 t314 t315 _ A164.out).mono ?_); rintro e w169 ⟨rfl, hb⟩; have n0_ := Aside0.mk (Kd.R_below (by (with_reducible repeat (first | apply Kd.R_alloc | apply Kd.R_drewN | apply Kd.R_drew)); exact HO_1.out) hb); have n1_ := Aside0.mk (below_step (by repeat (first | (with_reducible first | exact HB.out | apply below_alloc | apply pw_below_drewN | apply below_drew1) | exact HB.out)) hb); clear HO_1; clear HB; have HO_1 := n0_; have HB := n1_; clear n0_ n1_; (try clear hb); (try clear hb2); (try clear hk); (try clear hi)) | ((with_reducible refine gate_dst (N := 99) rfl ?_); (try (refine gate_guard (by rfl) ?_; dsimp only)); refine Kd.R_lit k40 _ 40 ?hg (N := 99) ?hd (xs := ([(⟨t314, t315⟩ : S40)] : List (S40))) (inner := [.int .i64 t314, .int .i64 t315]) (ok := fun _ => True) (okp := fun _ => True) ?hr ?hp (fun _ hk => hk) trivial (Below.refl _ _) (Nat.le_refl _) (by simp) ?_; (case hd => rfl); (case hg => rfl); (case hr => first | (go_simp; done) | (go_simp; rfl)); (case hp => exact (Reps.c2 (show Kd.M k40 _ _ _ (⟨t314, t315⟩ : S40) [.int .i64 t314, .int .i64 t315] from (k40_mkM _ _ _ (⟨t314, t315⟩ : S40) )) (Reps.none _ _))); intro v317 w170 ho171 hb hg_ hnew_; clear hg_ hnew_; (first | rw [← Ny316.out] at ho171 | (simp only [Int.reduceToNat] at ho171; rw [← Ny316.out] at ho171)); have n0_ := Aside0.mk (Kd.R_elder' (by (with_reducible repeat (first | apply Kd.R_alloc | apply Kd.R_drewN | apply Kd.R_drew)); exact HO_1.out) (Kd.R_base ho171) hb); have n1_ := Aside0.mk (Kd.R_lower (Kd.R_new' ho171 (Kd.R_lt (by (with_reducible repeat (first | apply Kd.R_alloc | apply Kd.R_drewN | apply Kd.R_drew)); exact HO_1.out))) (below_size (by repeat (first | (with_reducible first | exact HB.out | apply below_alloc | apply pw_below_drewN | apply below_drew1) | exact HB.out)))); have n2_ := Aside0.mk (below_step (by repeat (first | (with_reducible first | exact HB.out | apply below_alloc | apply pw_below_drewN | apply below_drew1) | exact HB.out)) hb); clear HO_1; clear HB; have HO_1 := n0_; have HO318 := n1_; have HB := n2_; clear n0_ n1_ n2_; clear hb ho171; obtain ⟨Ao172, co172, eo172⟩ := Kd.R_slice HO318.out; subst eo172) | (go_at_call 19; (with_reducible refine (xComplement.calls _ _ y316 8 t319 _ ?side1 ?side2 A165.out).mono ?_); (case side1 => repeat (first | exact (Kd.R_reads' HO318.out).2.2 | (with_reducible refine Kd.C_alloc ?_ _) | (with_reducible refine Kd.C_drewN ?_ _) | (with_reducible refine Kd.C_drew ?_))); (case side2 => exact (Kd.R_reads' HO318.out).2.1); rintro e w173 ⟨v320, rfl, ho0, hb⟩; have n0_ := Aside0.mk (Kd.R_elder' (by (with_reducible repeat (first | apply Kd.R_alloc | apply Kd.R_drewN | apply Kd.R_drew)); exact HO_1.out) (Kd.R_base ho0) hb); have n1_ := Aside0.mk (Kd.R_elder' (by (with_reducible repeat (first | apply Kd.R_alloc | apply Kd.R_drewN | apply Kd.R_drew)); exact HO318.out) (Kd.R_base ho0) hb); have n2_ := Aside0.mk (Kd.R_lower (Kd.R_new' (Kd.R_new' ho0 (Kd.R_lt (by (with_reducible repeat (first | apply Kd.R_alloc | apply Kd.R_drewN | apply Kd.R_drew)); exact HO_1.out))) (Kd.R_lt (by (with_reducible repeat (first | apply Kd.R_alloc | apply Kd.R_drewN | apply Kd.R_drew)); exact HO318.out))) (below_size (by repeat (first | (with_reducible first | exact HB.out | apply below_alloc | apply pw_below_drewN | apply below_drew1) | exact HB.out)))); have n3_ := Aside0.mk (below_step (by repeat (first | (with_reducible first | exact HB.out | apply below_alloc | apply pw_below_drewN | apply below_drew1) | exact HB.out)) hb); clear HO_1; clear HO318; clear HB; have HO_1 := n0_; have HO318 := n1_; have HO321 := n2_; have HB := n3_; clear n0_ n1_ n2_ n3_; (try clear hb); (try clear hb2); (try clear hk); (try clear hi); (try clear ho0)) | (go_at_call 33; (with_reducible refine (l01e.calls 0 3 t322 t323 _ A166.out).mono ?_); rintro e w174 ⟨rfl, hb⟩; have n0_ := Aside0.mk (Kd.R_below (by (with_reducible repeat (first | apply Kd.R_alloc | apply Kd.R_drewN | apply Kd.R_drew)); exact HO_1.out) hb); have n1_ := Aside0.mk (Kd.R_below (by (with_reducible repeat (first | apply Kd.R_alloc | apply Kd.R_drewN | apply Kd.R_drew)); exact HO318.out) hb); have n2_ := Aside0.mk (Kd.R_below (by (with_reducible repeat (first | apply Kd.R_alloc | apply Kd.R_drewN | apply Kd.R_drew)); exact HO321.out) hb); have n3_ := Aside0.mk (below_step (by repeat (first | (with_reducible first | exact HB.out | apply below_alloc | apply pw_below_drewN | apply below_drew1) | exact HB.out)) hb); clear HO_1; clear HO318; clear HO321; clear HB; have HO_1 := n0_; have HO318 := n1_; have HO321 := n2_; have HB := n3_; clear n0_ n1_ n2_ n3_; (try clear hb); (try clear hb2); (try clear hk); (try clear hi)) | (go_at_call 33; (with_reducible refine (l01e.calls 5 3 t324 t325 _ A167.out).mono ?_); rintro e w175 ⟨rfl, hb⟩; have n0_ := Aside0.mk (Kd.R_below (by (with_reducible repeat (first | apply Kd.R_alloc | apply Kd.R_drewN | apply Kd.R_drew)); exact HO_1.out) hb); have n1_ := Aside0.mk (Kd.R_below (by (with_reducible repeat (first | apply Kd.R_alloc | apply Kd.R_drewN | apply Kd.R_drew)); exact HO318.out) hb); have n2_ := Aside0.mk (Kd.R_below (by (with_reducible repeat (first | apply Kd.R_alloc | apply Kd.R_drewN | apply Kd.R_drew)); exact HO321.out) hb); have n3_ := Aside0.mk (below_step (by repeat (first | (with_reducible first | exact HB.out | apply below_alloc | apply pw_below_drewN | apply below_drew1) | exact HB.out)) hb); clear HO_1; clear HO318; clear HO321; clear HB; have HO_1 := n0_; have HO318 := n1_; have HO321 := n2_; have HB := n3_; clear n0_ n1_ n2_ n3_; (try clear hb); (try clear hb2); (try clear hk); (try clear hi)) | ((with_reducible refine gate_dst (N := 103) rfl ?_); (try (refine gate_guard (by rfl) ?_; dsimp only)); refine Kd.R_lit k40 _ 40 ?hg (N := 103) ?hd (xs := ([(⟨t322, t323⟩ : S40), (⟨t324, t325⟩ : S40)] : List (S40))) (inner := [.int .i64 t322, .int .i64 t323, .int .i64 t324, .int .i64 t325]) (ok := fun _ => True) (okp := fun _ => True) ?hr ?hp (fun _ hk => hk) trivial (Below.refl _ _) (Nat.le_refl _) (by simp) ?_; (case hd => rfl); (case hg => rfl); (case hr => first | (go_simp; done) | (go_simp; rfl)); (case hp => exact (Reps.c2 (show Kd.M k40 _ _ _ (⟨t322, t323⟩ : S40) [.int .i64 t322, .int .i64 t323] from (k40_mkM _ _ _ (⟨t322, t323⟩ : S40) )) (Reps.c2 (show Kd.M k40 _ _ _ (⟨t324, t325⟩ : S40) [.int .i64 t324, .int .i64 t325] from (k40_mkM _ _ _ (⟨t324, t325⟩ : S40) )) (Reps.none _ _)))); intro v327 w176 ho177 hb hg_ hnew_; clear hg_ hnew_; (first | rw [← Ny326.out] at ho177 | (simp only [Int.reduceToNat] at ho177; rw [← Ny326.out] at ho177)); have n0_ := Aside0.mk (Kd.R_elder' (by (with_reducible repeat (first | apply Kd.R_alloc | apply Kd.R_drewN | apply Kd.R_drew)); exact HO_1.out) (Kd.R_base ho177) hb); have n1_ := Aside0.mk (Kd.R_elder' (by (with_reducible repeat (first | apply Kd.R_alloc | apply Kd.R_drewN | apply Kd.R_drew)); exact HO318.out) (Kd.R_base ho177) hb); have n2_ := Aside0.mk (Kd.R_elder' (by (with_reducible repeat (first | apply Kd.R_alloc | apply Kd.R_drewN | apply Kd.R_drew)); exact HO321.out) (Kd.R_base ho177) hb); have n3_ := Aside0.mk (Kd.R_lower (Kd.R_new' (Kd.R_new' (Kd.R_new' ho177 (Kd.R_lt (by (with_reducible repeat (first | apply Kd.R_alloc | apply Kd.R_drewN | apply Kd.R_drew)); exact HO_1.out))) (Kd.R_lt (by (with_reducible repeat (first | apply Kd.R_alloc | apply Kd.R_drewN | apply Kd.R_drew)); exact HO318.out))) (Kd.R_lt (by (with_reducible repeat (first | apply Kd.R_alloc | apply Kd.R_drewN | apply Kd.R_drew)); exact HO321.out))) (below_size (by repeat (first | (with_reducible first | exact HB.out | apply below_alloc | apply pw_below_drewN | apply below_drew1) | exact HB.out)))); have n4_ := Aside0.mk (below_step (by repeat (first | (with_reducible first | exact HB.out | apply below_alloc | apply pw_below_drewN | apply below_drew1) | exact HB.out)) hb); clear HO_1; clear HO318; clear HO321; clear HB; have HO_1 := n0_; have HO318 := n1_; have HO321 := n2_; have HO328 := n3_; have HB := n4_; clear n0_ n1_ n2_ n3_ n4_; clear hb ho177; obtain ⟨Ao178, co178, eo178⟩ := Kd.R_slice HO321.out; subst eo178; obtain ⟨Ao179, co179, eo179⟩ := Kd.R_slice HO328.out; subst eo179) | (go_at_call 18; (with_reducible refine (r01Same.calls kj138 _ _ t319 _ _ y326 t329 _ ?side1 ?side2 ?side3 ?side4 A168.out).mono ?_); (case side1 => repeat (first | exact (Kd.R_reads' HO321.out).2.2 | (with_reducible refine Kd.C_alloc ?_ _) | (with_reducible refine Kd.C_drewN ?_ _) | (with_reducible refine Kd.C_drew ?_))); (case side2 => exact (Kd.R_reads' HO321.out).2.1); (case side3 => repeat (first | exact (Kd.R_reads' HO328.out).2.2 | (with_reducible refine Kd.C_alloc ?_ _) | (with_reducible refine Kd.C_drewN ?_ _) | (with_reducible refine Kd.C_drew ?_))); (case side4 => exact (Kd.R_reads' HO328.out).2.1); rintro e w' ⟨rfl, ⟨nd, rfl⟩⟩))
                      go_meet
                      case rel => exact ⟨_, (t329), (by first | rfl | (simp; done) | (simp [*]; done)), H', ⟨by have := HJ9.out; have := HJ94.out; have := HJ117.out; have := HJ138.out; first | omega | exact Nat.le_refl _⟩, ⟨by (with_reducible repeat (first | apply Kd.R_alloc | apply Kd.R_drewN | apply Kd.R_drew)); exact Kd.R_mono HO_1.out (fun _ hk => trivial)⟩, ⟨by repeat (first | (with_reducible first | exact HB.out | apply below_alloc | apply pw_below_drewN | apply below_drew1) | exact HB.out)⟩⟩
                    · replace c163 := Bool.eq_false_iff.mpr c163
                      subst c163
                      have H1 : (l01awake.j4 kj138 t220 false) = some r := by rw [if_neg (show ¬ (false = true) by decide)] at H; exact H
                      clear H
                      have H := H1
                      clear H1
                      have H' := Aside0.mk H
                      clear H
                      go_wp2
                      go_meet
                      case rel => exact ⟨_, (false), (by first | rfl | (simp; done) | (simp [*]; done)), H', ⟨by have := HJ9.out; have := HJ94.out; have := HJ117.out; have := HJ138.out; first | omega | exact Nat.le_refl _⟩, ⟨by (with_reducible repeat (first | apply Kd.R_alloc | apply Kd.R_drewN | apply Kd.R_drew)); exact HO_1.out⟩, ⟨by repeat (first | (with_reducible first | exact HB.out | apply below_alloc | apply pw_below_drewN | apply below_drew1) | exact HB.out)⟩⟩
                  case rest =>
                    clear HC162
                    try clear c1
                    try clear c2
                    try clear p2
                    try clear c3
                    try clear c4
                    try clear c9
                    try clear c10
                    try clear c11
                    try clear c13
                    try clear c14
                    try clear c16
                    try clear c18
                    try clear c23
                    try clear c32
                    try clear c33
                    try clear c33b0
                    try clear c33b1
                    try clear c39
                    try clear c40
                    try clear c40b0
                    try clear c40b1
                    try clear c96
                    try clear c98
                    try clear c98b0
                    try clear c98b1
                    try clear c100
                    try clear c100b0
                    try clear c100b1
                    try clear c119
                    try clear c140
                    try clear c163
                    try clear p2
                    obtain ⟨kq, x7_161, rfl, HA, HJ161, HO_1, HB⟩ := hcut
                    cases kq with
                    | zero => exact absurd HA.out (by simp [l01awake.j4])
                    | succ kj161 =>
                      have H := HA.out
                      clear HA
                      simp only [l01awake.j4] at H
                      by_cases c180 : x7_161 = true
                      · subst c180
                        have H1 : ((l01e.f (-3) 5).bind fun bt330 => ((xCount.f kj161 (([(⟨bt330.1, bt330.2⟩ : S40)] : List (S40)))).bind fun t335 => (if t335 = 2 then ((xContains.f t220 10).bind fun t336 => (if t336 = true then ((xContains.f t220 11).bind fun t337 => (some (!t337))) else (some false))) else (some false)))) = some r := by rw [if_pos rfl] at H; exact H
                        clear H
                        have H := H1
                        clear H1
                        replace H := Option.bind_eq_some_iff.mp H
                        obtain ⟨⟨t330, t331⟩, A1810, H⟩ := H
                        replace H : ((xCount.f kj161 (([(⟨t330, t331⟩ : S40)] : List (S40)))).bind fun t335 => (if t335 = 2 then ((xContains.f t220 10).bind fun t336 => (if t336 = true then ((xContains.f t220 11).bind fun t337 => (some (!t337))) else (some false))) else (some false))) = some r := H
                        have A181 := Aside0.mk A1810
                        clear A1810
                        obtain ⟨y332, hy332⟩ : ∃ y_ : List (S40), y_ = (([(⟨t330, t331⟩ : S40)] : List (S40))) := ⟨_, rfl⟩
                        replace H : ((xCount.f kj161 y332).bind fun t335 => (if t335 = 2 then ((xContains.f t220 10).bind fun t336 => (if t336 = true then ((xContains.f t220 11).bind fun t337 => (some (!t337))) else (some false))) else (some false))) = some r := by first | (rw [hy332]; with_reducible exact H) | (have H2_ := (Option.bind_some _ _).symm.trans H; rw [hy332]; with_reducible exact H2_) | (have H2_ := (Option.bind_some _ _).symm.trans H; with_reducible exact H2_) | with_reducible exact H | (rw [hy332]; exact H) | exact H
                        have Ny332 := Aside0.mk hy332
                        clear hy332
                        replace H := Option.bind_eq_some_iff.mp H
                        obtain ⟨t335, A1820, H⟩ := H
                        replace H : (if t335 = 2 then ((xContains.f t220 10).bind fun t336 => (if t336 = true then ((xContains.f t220 11).bind fun t337 => (some (!t337))) else (some false))) else (some false)) = some r := H
                        have A182 := Aside0.mk A1820
                        clear A1820
                        by_cases c183 : t335 = 2
                        · rw [if_pos c183] at H
                          have c183b0 : (t335 == 2) = true := beq_iff_eq.mpr c183
                          have c183b1 : (t335 != 2) = false := bne_eq_false_iff_eq.mpr c183
                          clear c183
                          replace H := Option.bind_eq_some_iff.mp H
                          obtain ⟨t336, A1840, H⟩ := H
                          replace H : (if t336 = true then ((xContains.f t220 11).bind fun t337 => (some (!t337))) else (some false)) = some r := H
                          have A184 := Aside0.mk A1840
                          clear A1840
                          by_cases c185 : t336 = true
                          · subst c185
                            have H1 : ((xContains.f t220 11).bind fun t337 => (some (!t337))) = some r := by rw [if_pos rfl] at H; exact H
                            clear H
                            have H := H1
                            clear H1
                            replace H := Option.bind_eq_some_iff.mp H
                            obtain ⟨t337, A1860, H⟩ := H
                            replace H : (some (!t337)) = some r := H
                            have A186 := Aside0.mk A1860
                            clear A1860
                            obtain rfl := Option.some.inj H
                            go_wp2_with (first | (go_at_call 33; (with_reducible refine (l01e.calls (-3) 5 t330 t331 _ A181.out).mono ?_); rintro e w187 ⟨rfl, hb⟩; have n0_ := Aside0.mk (Kd.R_below (by (with_reducible repeat (first | apply Kd.R_alloc | apply Kd.R_drewN | apply Kd.R_drew)); exact HO_1.out) hb); have n1_ := Aside0.mk (below_step (by repeat (first | (with_reducible first | exact HB.out | apply below_alloc | apply pw_below_drewN | apply below_drew1) | exact HB.out)) hb); clear HO_1; clear HB; have HO_1 := n0_; have HB := n1_; clear n0_ n1_; (try clear hb); (try clear hb2); (try clear hk); (try clear hi)) | ((with_reducible refine gate_dst (N := 109) rfl ?_); (try (refine gate_guard (by rfl) ?_; dsimp only)); refine Kd.R_lit k40 _ 40 ?hg (N := 109) ?hd (xs := ([(⟨t330, t331⟩ : S40)] : List (S40))) (inner := [.int .i64 t330, .int .i64 t331]) (ok := fun _ => True) (okp := fun _ => True) ?hr ?hp (fun _ hk => hk) trivial (Below.refl _ _) (Nat.le_refl _) (by simp) ?_; (case hd => rfl); (case hg => rfl); (case hr => first | (go_simp; done) | (go_simp; rfl)); (case hp => exact (Reps.c2 (show Kd.M k40 _ _ _ (⟨t330, t331⟩ : S40) [.int .i64 t330, .int .i64 t331] from (k40_mkM _ _ _ (⟨t330, t331⟩ : S40) )) (Reps.none _ _))); intro v333 w188 ho189 hb hg_ hnew_; clear hg_ hnew_; (first | rw [← Ny332.out] at ho189 | (simp only [Int.reduceToNat] at ho189; rw [← Ny332.out] at ho189)); have n0_ := Aside0.mk (Kd.R_elder' (by (with_reducible repeat (first | apply Kd.R_alloc | apply Kd.R_drewN | apply Kd.R_drew)); exact HO_1.out) (Kd.R_base ho189) hb); have n1_ := Aside0.mk (Kd.R_lower (Kd.R_new' ho189 (Kd.R_lt (by (with_reducible repeat (first | apply Kd.R_alloc | apply Kd.R_drewN | apply Kd.R_drew)); exact HO_1.out))) (below_size (by repeat (first | (with_reducible first | exact HB.out | apply below_alloc | apply pw_below_drewN | apply below_drew1) | exact HB.out)))); have n2_ := Aside0.mk (below_step (by repeat (first | (with_reducible first | exact HB.out | apply below_alloc | apply pw_below_drewN | apply below_drew1) | exact HB.out)) hb); clear HO_1; clear HB; have HO_1 := n0_; have HO334 := n1_; have HB := n2_; clear n0_ n1_ n2_; clear hb ho189; obtain ⟨Ao190, co190, eo190⟩ := Kd.R_slice HO334.out; subst eo190) | (go_at_call 31; (with_reducible refine (xCount.calls kj161 _ _ y332 t335 _ ?side1 ?side2 A182.out).mono ?_); (case side1 => repeat (first | exact (Kd.R_reads' HO334.out).2.2 | (with_reducible refine Kd.C_alloc ?_ _) | (with_reducible refine Kd.C_drewN ?_ _) | (with_reducible refine Kd.C_drew ?_))); (case side2 => exact (Kd.R_reads' HO334.out).2.1); rintro e w191 ⟨rfl, hb⟩; have n0_ := Aside0.mk (Kd.R_below (by (with_reducible repeat (first | apply Kd.R_alloc | apply Kd.R_drewN | apply Kd.R_drew)); exact HO_1.out) hb); have n1_ := Aside0.mk (Kd.R_below (by (with_reducible repeat (first | apply Kd.R_alloc | apply Kd.R_drewN | apply Kd.R_drew)); exact HO334.out) hb); have n2_ := Aside0.mk (below_step (by repeat (first | (with_reducible first | exact HB.out | apply below_alloc | apply pw_below_drewN | apply below_drew1) | exact HB.out)) hb); clear HO_1; clear HO334; clear HB; have HO_1 := n0_; have HO334 := n1_; have HB := n2_; clear n0_ n1_ n2_; (try clear hb); (try clear hb2); (try clear hk); (try clear hi); obtain ⟨Ao192, co192, eo192⟩ := Kd.R_slice HO_1.out; subst eo192) | (go_at_call 21; (with_reducible refine (xContains.calls _ _ t220 10 true _ ?side1 ?side2 A184.out).mono ?_); (case side1 => repeat (first | exact (Kd.R_reads' HO_1.out).2.2 | (with_reducible refine Kd.C_alloc ?_ _) | (with_reducible refine Kd.C_drewN ?_ _) | (with_reducible refine Kd.C_drew ?_))); (case side2 => exact (Kd.R_reads' HO_1.out).2.1); rintro e w193 ⟨rfl, hb⟩; have n0_ := Aside0.mk (Kd.R_below (by (with_reducible repeat (first | apply Kd.R_alloc | apply Kd.R_drewN | apply Kd.R_drew)); exact HO_1.out) hb); have n1_ := Aside0.mk (Kd.R_below (by (with_reducible repeat (first | apply Kd.R_alloc | apply Kd.R_drewN | apply Kd.R_drew)); exact HO334.out) hb); have n2_ := Aside0.mk (below_step (by repeat (first | (with_reducible first | exact HB.out | apply below_alloc | apply pw_below_drewN | apply below_drew1) | exact HB.out)) hb); clear HO_1; clear HO334; clear HB; have HO_1 := n0_; have HO334 := n1_; have HB := n2_; clear n0_ n1_ n2_; (try clear hb); (try clear hb2); (try clear hk); (try clear hi)) | (go_at_call 21; (with_reducible refine (xContains.calls _ _ t220 11 t337 _ ?side1 ?side2 A186.out).mono ?_); (case side1 => repeat (first | exact (Kd.R_reads' HO_1.out).2.2 | (with_reducible refine Kd.C_alloc ?_ _) | (with_reducible refine Kd.C_drewN ?_ _) | (with_reducible refine Kd.C_drew ?_))); (case side2 => exact (Kd.R_reads' HO_1.out).2.1); rintro e w194 ⟨rfl, hb⟩; have n0_ := Aside0.mk (Kd.R_below (by (with_reducible repeat (first | apply Kd.R_alloc | apply Kd.R_drewN | apply Kd.R_drew)); exact HO_1.out) hb); have n1_ := Aside0.mk (Kd.R_below (by (with_reducible repeat (first | apply Kd.R_alloc | apply Kd.R_drewN | apply Kd.R_drew)); exact HO334.out) hb); have n2_ := Aside0.mk (below_step (by repeat (first | (with_reducible first | exact HB.out | apply below_alloc | apply pw_below_drewN | apply below_drew1) | exact HB.out)) hb); clear HO_1; clear HO334; clear HB; have HO_1 := n0_; have HO334 := n1_; have HB := n2_; clear n0_ n1_ n2_; (try clear hb); (try clear hb2); (try clear hk); (try clear hi)))
                            go_ret
                            exact ⟨by first | rfl | (simp [errW_none, errW_some] <;> rfl) | (simp [*, errW_none, errW_some] <;> rfl), by repeat (first | (with_reducible first | exact HB.out | apply below_alloc | apply pw_below_drewN | apply below_drew1) | exact HB.out)⟩
                          · replace c185 := Bool.eq_false_iff.mpr c185
                            subst c185
                            have H1 : (some false) = some r := by rw [if_neg (show ¬ (false = true) by decide)] at H; exact H
                            clear H
                            have H := H1
                            clear H1
                            obtain rfl := Option.some.inj H
                            go_wp2_with (first | (go_at_call 33; (with_reducible refine (l01e.calls (-3) 5 t330 t331 _ A181.out).mono ?_); rintro e w195 ⟨rfl, hb⟩; have n0_ := Aside0.mk (Kd.R_below (by (with_reducible repeat (first | apply Kd.R_alloc | apply Kd.R_drewN | apply Kd.R_drew)); exact HO_1.out) hb); have n1_ := Aside0.mk (below_step (by repeat (first | (with_reducible first | exact HB.out | apply below_alloc | apply pw_below_drewN | apply below_drew1) | exact HB.out)) hb); clear HO_1; clear HB; have HO_1 := n0_; have HB := n1_; clear n0_ n1_; (try clear hb); (try clear hb2); (try clear hk); (try clear hi)) | ((with_reducible refine gate_dst (N := 109) rfl ?_); (try (refine gate_guard (by rfl) ?_; dsimp only)); refine Kd.R_lit k40 _ 40 ?hg (N := 109) ?hd (xs := ([(⟨t330, t331⟩ : S40)] : List (S40))) (inner := [.int .i64 t330, .int .i64 t331]) (ok := fun _ => True) (okp := fun _ => True) ?hr ?hp (fun _ hk => hk) trivial (Below.refl _ _) (Nat.le_refl _) (by simp) ?_; (case hd => rfl); (case hg => rfl); (case hr => first | (go_simp; done) | (go_simp; rfl)); (case hp => exact (Reps.c2 (show Kd.M k40 _ _ _ (⟨t330, t331⟩ : S40) [.int .i64 t330, .int .i64 t331] from (k40_mkM _ _ _ (⟨t330, t331⟩ : S40) )) (Reps.none _ _))); intro v333 w196 ho197 hb hg_ hnew_; clear hg_ hnew_; (first | rw [← Ny332.out] at ho197 | (simp only [Int.reduceToNat] at ho197; rw [← Ny332.out] at ho197)); have n0_ := Aside0.mk (Kd.R_elder' (by (with_reducible repeat (first | apply Kd.R_alloc | apply Kd.R_drewN | apply Kd.R_drew)); exact HO_1.out) (Kd.R_base ho197) hb); have n1_ := Aside0.mk (Kd.R_lower (Kd.R_new' ho197 (Kd.R_lt (by (with_reducible repeat (first | apply Kd.R_alloc | apply Kd.R_drewN | apply Kd.R_drew)); exact HO_1.out))) (below_size (by repeat (first | (with_reducible first | exact HB.out | apply below_alloc | apply pw_below_drewN | apply below_drew1) | exact HB.out)))); have n2_ := Aside0.mk (below_step (by repeat (first | (with_reducible first | exact HB.out | apply below_alloc | apply pw_below_drewN | apply below_drew1) | exact HB.out)) hb); clear HO_1; clear HB; have HO_1 := n0_; have HO334 := n1_; have HB := n2_; clear n0_ n1_ n2_; clear hb ho197; obtain ⟨Ao198, co198, eo198⟩ := Kd.R_slice HO334.out; subst eo198) | (go_at_call 31; (with_reducible refine (xCount.calls kj161 _ _ y332 t335 _ ?side1 ?side2 A182.out).mono ?_); (case side1 => repeat (first | exact (Kd.R_reads' HO334.out).2.2 | (with_reducible refine Kd.C_alloc ?_ _) | (with_reducible refine Kd.C_drewN ?_ _) | (with_reducible refine Kd.C_drew ?_))); (case side2 => exact (Kd.R_reads' HO334.out).2.1); rintro e w199 ⟨rfl, hb⟩; have n0_ := Aside0.mk (Kd.R_below (by (with_reducible repeat (first | apply Kd.R_alloc | apply Kd.R_drewN | apply Kd.R_drew)); exact HO_1.out) hb); have n1_ := Aside0.mk (Kd.R_below (by (with_reducible repeat (first | apply Kd.R_alloc | apply Kd.R_drewN | apply Kd.R_drew)); exact HO334.out) hb); have n2_ := Aside0.mk (below_step (by repeat (first | (with_reducible first | exact HB.out | apply below_alloc | apply pw_below_drewN | apply below_drew1) | exact HB.out)) hb); clear HO_1; clear HO334; clear HB; have HO_1 := n0_; have HO334 := n1_; have HB := n2_; clear n0_ n1_ n2_; (try clear hb); (try clear hb2); (try clear hk); (try clear hi); obtain ⟨Ao200, co200, eo200⟩ := Kd.R_slice HO_1.out; subst eo200) | (go_at_call 21; (with_reducible refine (xContains.calls _ _ t220 10 false _ ?side1 ?side2 A184.out).mono ?_); (case side1 => repeat (first | exact (Kd.R_reads' HO_1.out).2.2 | (with_reducible refine Kd.C_alloc ?_ _) | (with_reducible refine Kd.C_drewN ?_ _) | (with_reducible refine Kd.C_drew ?_))); (case side2 => exact (Kd.R_reads' HO_1.out).2.1); rintro e w201 ⟨rfl, hb⟩; have n0_ := Aside0.mk (Kd.R_below (by (with_reducible repeat (first | apply Kd.R_alloc | apply Kd.R_drewN | apply Kd.R_drew)); exact HO_1.out) hb); have n1_ := Aside0.mk (Kd.R_below (by (with_reducible repeat (first | apply Kd.R_alloc | apply Kd.R_drewN | apply Kd.R_drew)); exact HO334.out) hb); have n2_ := Aside0.mk (below_step (by repeat (first | (with_reducible first | exact HB.out | apply below_alloc | apply pw_below_drewN | apply below_drew1) | exact HB.out)) hb); clear HO_1; clear HO334; clear HB; have HO_1 := n0_; have HO334 := n1_; have HB := n2_; clear n0_ n1_ n2_; (try clear hb); (try clear hb2); (try clear hk); (try clear hi)))
                            go_ret
                            exact ⟨by first | rfl | (simp [errW_none, errW_some] <;> rfl) | (simp [*, errW_none, errW_some] <;> rfl), by repeat (first | (with_reducible first | exact HB.out | apply below_alloc | apply pw_below_drewN | apply below_drew1) | exact HB.out)⟩
                        · rw [if_neg c183] at H
                          have c183b0 : (t335 == 2) = false := beq_eq_false_iff_ne.mpr c183
                          have c183b1 : (t335 != 2) = true := bne_iff_ne.mpr c183
                          obtain rfl := Option.some.inj H
                          go_wp2_with (first | (go_at_call 33; (with_reducible refine (l01e.calls (-3) 5 t330 t331 _ A181.out).mono ?_); rintro e w202 ⟨rfl, hb⟩; have n0_ := Aside0.mk (Kd.R_below (by (with_reducible repeat (first | apply Kd.R_alloc | apply Kd.R_drewN | apply Kd.R_drew)); exact HO_1.out) hb); have n1_ := Aside0.mk (below_step (by repeat (first | (with_reducible first | exact HB.out | apply below_alloc | apply pw_below_drewN | apply below_drew1) | exact HB.out)) hb); clear HO_1; clear HB; have HO_1 := n0_; have HB := n1_; clear n0_ n1_; (try clear hb); (try clear hb2); (try clear hk); (try clear hi)) | ((with_reducible refine gate_dst (N := 109) rfl ?_); (try (refine gate_guard (by rfl) ?_; dsimp only)); refine Kd.R_lit k40 _ 40 ?hg (N := 109) ?hd (xs := ([(⟨t330, t331⟩ : S40)] : List (S40))) (inner := [.int .i64 t330, .int .i64 t331]) (ok := fun _ => True) (okp := fun _ => True) ?hr ?hp (fun _ hk => hk) trivial (Below.refl _ _) (Nat.le_refl _) (by simp) ?_; (case hd => rfl); (case hg => rfl); (case hr => first | (go_simp; done) | (go_simp; rfl)); (case hp => exact (Reps.c2 (show Kd.M k40 _ _ _ (⟨t330, t331⟩ : S40) [.int .i64 t330, .int .i64 t331] from (k40_mkM _ _ _ (⟨t330, t331⟩ : S40) )) (Reps.none _ _))); intro v333 w203 ho204 hb hg_ hnew_; clear hg_ hnew_; (first | rw [← Ny332.out] at ho204 | (simp only [Int.reduceToNat] at ho204; rw [← Ny332.out] at ho204)); have n0_ := Aside0.mk (Kd.R_elder' (by (with_reducible repeat (first | apply Kd.R_alloc | apply Kd.R_drewN | apply Kd.R_drew)); exact HO_1.out) (Kd.R_base ho204) hb); have n1_ := Aside0.mk (Kd.R_lower (Kd.R_new' ho204 (Kd.R_lt (by (with_reducible repeat (first | apply Kd.R_alloc | apply Kd.R_drewN | apply Kd.R_drew)); exact HO_1.out))) (below_size (by repeat (first | (with_reducible first | exact HB.out | apply below_alloc | apply pw_below_drewN | apply below_drew1) | exact HB.out)))); have n2_ := Aside0.mk (below_step (by repeat (first | (with_reducible first | exact HB.out | apply below_alloc | apply pw_below_drewN | apply below_drew1) | exact HB.out)) hb); clear HO_1; clear HB; have HO_1 := n0_; have HO334 := n1_; have HB := n2_; clear n0_ n1_ n2_; clear hb ho204; obtain ⟨Ao205, co205, eo205⟩ := Kd.R_slice HO334.out; subst eo205) | (go_at_call 31; (with_reducible refine (xCount.calls kj161 _ _ y332 t335 _ ?side1 ?side2 A182.out).mono ?_); (case side1 => repeat (first | exact (Kd.R_reads' HO334.out).2.2 | (with_reducible refine Kd.C_alloc ?_ _) | (with_reducible refine Kd.C_drewN ?_ _) | (with_reducible refine Kd.C_drew ?_))); (case side2 => exact (Kd.R_reads' HO334.out).2.1); rintro e w206 ⟨rfl, hb⟩; have n0_ := Aside0.mk (Kd.R_below (by (with_reducible repeat (first | apply Kd.R_alloc | apply Kd.R_drewN | apply Kd.R_drew)); exact HO_1.out) hb); have n1_ := Aside0.mk (Kd.R_below (by (with_reducible repeat (first | apply Kd.R_alloc | apply Kd.R_drewN | apply Kd.R_drew)); exact HO334.out) hb); have n2_ := Aside0.mk (below_step (by repeat (first | (with_reducible first | exact HB.out | apply below_alloc | apply pw_below_drewN | apply below_drew1) | exact HB.out)) hb); clear HO_1; clear HO334; clear HB; have HO_1 := n0_; have HO334 := n1_; have HB := n2_; clear n0_ n1_ n2_; (try clear hb); (try clear hb2); (try clear hk); (try clear hi)))
                          go_ret
                          exact ⟨by first | rfl | (simp [errW_none, errW_some] <;> rfl) | (simp [*, errW_none, errW_some] <;> rfl), by repeat (first | (with_reducible first | exact HB.out | apply below_alloc | apply pw_below_drewN | apply below_drew1) | exact HB.out)⟩
                      · replace c180 := Bool.eq_false_iff.mpr c180
                        subst c180
                        have H1 : (some false) = some r := by rw [if_neg (show ¬ (false = true) by decide)] at H; exact H
                        clear H
                        have H := H1
                        clear H1
                        obtain rfl := Option.some.inj H
                        go_wp2
                        go_ret
                        exact ⟨by first | rfl | (simp [errW_none, errW_some] <;> rfl) | (simp [*, errW_none, errW_some] <;> rfl), by repeat (first | (with_reducible first | exact HB.out | apply below_alloc | apply pw_below_drewN | apply below_drew1) | exact HB.out)⟩
end Go.Proofs.Yteeedheklnelkaa.P
