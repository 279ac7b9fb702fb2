/-
  Parts of the proof of the law BitmapCombines (part 3): what the functions it reaches come to, and the plain law. Conditions: those that each theorem names.
-/
import Derived.Test.YthpldfjjdmjcoaaDoorCBitmapCombines2
namespace Go.Proofs.YthpldfjjdmjcoaaDoor.P
open Go.RowKit Go.Proofs.YthpldfjjdmjcoaaDoorW.PrintWords Go.Proofs.YthpldfjjdmjcoaaDoorW.PrintLast Go.Proofs.YthpldfjjdmjcoaaDoorW.PrintMore
attribute [local go_sem] max2_int min2_int max_two min_two max_three min_three max_four min_four   -- for this text's walks alone
set_option linter.unusedVariables false
set_option linter.unusedSimpArgs false
def r02And.l0 : Nat → Int → Int → List Int → Int → List Int → Int → List Int → Option (Int × List Int × Int)
  | 0, _, _, _, _, _, _, _ => none
  | k + 1, x8, x480000, x480001, x481000, x481001, x488000, x488001 => if x8 < (x488001.length : Int) then (if 0 ≤ x8 then (if x8 < (x480001.length : Int) then (if x8 < (x481001.length : Int) then (r02And.l0 k (wrap64 (x8 + 1)) x480000 x480001 x481000 x481001 x488000 (x488001.set (x8 : Int).toNat (Go.bits .and .u64 (rd x480001 x8) (rd x481001 x8)))) else (none)) else (none)) else (none)) else (some (x488000, x488001, 0))
def r02And.f (k : Nat) (a0_0 : Int) (l0_1 : List Int) (a1_0 : Int) (l1_1 : List Int) : Option (Int × List Int × Int) := (r02both.f k a0_0 l0_1 a1_0 l1_1).bind fun t482 => (if t482 = 0 then ((r02Copy.f a0_0 l0_1).bind fun bt483 => (r02And.l0 k 0 a0_0 l0_1 a1_0 l1_1 bt483.1 bt483.2)) else (some (0, ([] : List Int), t482)))
def r02And.T8 : Bool × List (List Nat × List Nat) := (true, [([], []), ([0], [0]), ([], []), ([], []), ([3], [3]), ([], []), ([4, 5], [4, 5]), ([6], [6]), ([], []), ([8], [8]), ([], []), ([9, 10], [9, 10]), ([11], [11]), ([7, 12], [7, 12]), ([1, 2, 0, 1, 2, 3, 4, 5, 6, 7, 8, 9, 10, 11, 12, 13], [1, 2]), ([14, 13, 0, 1, 2, 3, 4, 5, 6, 7, 8, 9, 10, 11, 12, 13], [13, 14])])
def r02And.B8 : List Nat := [0, 1, 0, 0, 8, 0, 56, 120, 0, 256, 0, 1792, 3840, 8184, 16383, 32767]
theorem r02And.tab8 : rtab .any (opsOf Tryd.f36 8) = r02And.T8 := by kernel_rfl
theorem r02And.bits8 : waitsOk r02And.T8.2 r02And.B8 = true := by kernel_rfl
set_option maxHeartbeats 8000000 in
set_option maxRecDepth 100000 in
theorem r02And.calls (k : Nat) (a0_0 : Int) (A0_1 : Option Addr) (c0_1 : Nat) (l0_1 : List Int) (a1_0 : Int) (A1_1 : Option Addr) (c1_1 : Nat) (l1_1 : List Int) (r1 : Int) (r2 : List Int) (r3 : Int) (w : World) (hr0_1 : Kd.C (Kd.int .u64) w A0_1 l0_1.length l0_1) (hc0_1 : l0_1.length ≤ c0_1) (hr1_1 : Kd.C (Kd.int .u64) w A1_1 l1_1.length l1_1) (hc1_1 : l1_1.length ≤ c1_1) (h : r02And.f k a0_0 l0_1 a1_0 l1_1 = some (r1, r2, r3)) :
    Calls Tryd.prog 36 #[.agg #[.int .i64 a0_0, .slice A0_1 l0_1.length c0_1], .agg #[.int .i64 a1_0, .slice A1_1 l1_1.length c1_1]] w fun e w' => ∃ v1_ : Value, e = .returned (.tuple #[.agg #[.int .i64 r1, v1_], .int .i64 r3]) ∧ Kd.R (Kd.int .u64) 55 w' w.heap.size (fun _ => True) v1_ r2 ∧ Below w.heap.size w w' := by
  have hu24 := Tryd.underlying24
  have HR0_1 := Aside0.mk hr0_1
  have HC0_1 := Aside0.mk hc0_1
  clear hr0_1 hc0_1
  have HR1_1 := Aside0.mk hr1_1
  have HC1_1 := Aside0.mk hc1_1
  clear hr1_1 hc1_1
  have HB := Aside0.mk (Below.refl w.heap.size w)
  have H : ((r02both.f k a0_0 l0_1 a1_0 l1_1).bind fun t482 => (if t482 = 0 then ((r02Copy.f a0_0 l0_1).bind fun bt483 => (r02And.l0 k 0 a0_0 l0_1 a1_0 l1_1 bt483.1 bt483.2)) else (some (0, ([] : List Int), t482)))) = some (r1, r2, r3) := h
  clear h
  replace H := Option.bind_eq_some_iff.mp H
  obtain ⟨t482, A30, H⟩ := H
  replace H : (if t482 = 0 then ((r02Copy.f a0_0 l0_1).bind fun bt483 => (r02And.l0 k 0 a0_0 l0_1 a1_0 l1_1 bt483.1 bt483.2)) else (some (0, ([] : List Int), t482))) = some (r1, r2, r3) := H
  have A3 := Aside0.mk A30
  clear A30
  by_cases c4 : t482 = 0
  · rw [if_pos c4] at H
    have c4b0 : (t482 == 0) = true := beq_iff_eq.mpr c4
    have c4b1 : (t482 != 0) = false := bne_eq_false_iff_eq.mpr c4
    clear c4
    replace H := Option.bind_eq_some_iff.mp H
    obtain ⟨⟨t483, t484⟩, A50, H⟩ := H
    replace H : (r02And.l0 k 0 a0_0 l0_1 a1_0 l1_1 t483 t484) = some (r1, r2, r3) := H
    have A5 := Aside0.mk A50
    clear A50
    have H' := Aside0.mk H
    clear H
    go_enter Tryd.func36, Tryd.ntmps36
    go_wp2_with (first | ((with_reducible refine gate_dst (N := 2) rfl ?_); refine box_event ?hg (N := 2) ?hd (cs := #[.int .i64 a0_0, .slice A0_1 l0_1.length c0_1]) (t := 24) ?hr ?_; (case hd => rfl); (case hg => rfl); (case hr => first | (go_simp; done) | (go_simp; rfl)); intro gb479 hg w6 hbox hb; have n0_ := Aside0.mk (below_step (by repeat (first | (with_reducible first | exact HB.out | apply below_alloc | apply pw_below_drewN | apply below_drew1) | exact HB.out)) hb); have n1_ := Aside0.mk (hbox); have n2_ := Aside0.mk ((by rw [hg]; exact (below_size (by repeat (first | (with_reducible first | exact HB.out | apply below_alloc | apply pw_below_drewN | apply below_drew1) | exact HB.out))) : w.heap.size ≤ gb479)); have n3_ := Aside0.mk ((by rw [hg]; exact (below_size (by repeat (first | (with_reducible first | exact HB.out | apply below_alloc | apply pw_below_drewN | apply below_drew1) | exact HB.out))) : w.heap.size ≤ gb479)); clear HB; have HB := n0_; have BK479 := n1_; have GW479 := n2_; have GE479 := n3_; clear n0_ n1_ n2_ n3_; clear hb hbox hg) | ((with_reducible refine gate_dst (N := 3) rfl ?_); refine box_event ?hg (N := 3) ?hd (cs := #[.int .i64 a1_0, .slice A1_1 l1_1.length c1_1]) (t := 24) ?hr ?_; (case hd => rfl); (case hg => rfl); (case hr => first | (go_simp; done) | (go_simp; rfl)); intro gb480 hg w7 hbox hb; have n0_ := Aside0.mk (blk_below (g := gb479) (o := .cells #[.int .i64 a0_0, .slice A0_1 l0_1.length c0_1] 24 (0, 0)) (by (with_reducible repeat (first | refine blk_drewN ?_ _ | refine blk_drew ?_ | refine blk_alloc ?_ _)); exact BK479.out) hb); have n1_ := Aside0.mk (below_step (by repeat (first | (with_reducible first | exact HB.out | apply below_alloc | apply pw_below_drewN | apply below_drew1 | refine below_set ?_ GE479.out) | exact HB.out)) hb); have n2_ := Aside0.mk (hbox); have n3_ := Aside0.mk ((by rw [hg]; exact (below_size (by repeat (first | (with_reducible first | exact HB.out | apply below_alloc | apply pw_below_drewN | apply below_drew1 | refine below_set ?_ GE479.out) | exact HB.out))) : w.heap.size ≤ gb480)); have n4_ := Aside0.mk ((by rw [hg]; exact (below_size (by repeat (first | (with_reducible first | exact HB.out | apply below_alloc | apply pw_below_drewN | apply below_drew1 | refine below_set ?_ GE479.out) | exact HB.out))) : w.heap.size ≤ gb480)); have n5_ := Aside0.mk ((by rw [hg]; exact Nat.ne_of_lt (blk_lt (g := gb479) (o := .cells #[.int .i64 a0_0, .slice A0_1 l0_1.length c0_1] 24 (0, 0)) (by (with_reducible repeat (first | refine blk_drewN ?_ _ | refine blk_drew ?_ | refine blk_alloc ?_ _)); exact BK479.out)) : gb479 ≠ gb480)); have n6_ := Aside0.mk ((by rw [hg]; exact Nat.ne_of_gt (blk_lt (g := gb479) (o := .cells #[.int .i64 a0_0, .slice A0_1 l0_1.length c0_1] 24 (0, 0)) (by (with_reducible repeat (first | refine blk_drewN ?_ _ | refine blk_drew ?_ | refine blk_alloc ?_ _)); exact BK479.out)) : gb480 ≠ gb479)); clear BK479; clear HB; have BK479 := n0_; have HB := n1_; have BK480 := n2_; have GW480 := n3_; have GE480 := n4_; have NB479_480 := n5_; have NB480_479 := n6_; clear n0_ n1_ n2_ n3_ n4_ n5_ n6_; clear hb hbox hg) | ((with_reducible refine gate_dst (N := 4) rfl ?_); refine box_event ?hg (N := 4) ?hd (cs := #[.int .i64 0, .slice none 0 0]) (t := 24) ?hr ?_; (case hd => rfl); (case hg => rfl); (case hr => first | (go_simp; done) | (go_simp; rfl)); intro gb481 hg w8 hbox hb; have n0_ := Aside0.mk (blk_below (g := gb479) (o := .cells #[.int .i64 a0_0, .slice A0_1 l0_1.length c0_1] 24 (0, 0)) (by (with_reducible repeat (first | refine blk_drewN ?_ _ | refine blk_drew ?_ | refine blk_alloc ?_ _)); exact BK479.out) hb); have n1_ := Aside0.mk (blk_below (g := gb480) (o := .cells #[.int .i64 a1_0, .slice A1_1 l1_1.length c1_1] 24 (0, 0)) (by (with_reducible repeat (first | refine blk_drewN ?_ _ | refine blk_drew ?_ | refine blk_alloc ?_ _)); exact BK480.out) hb); have n2_ := Aside0.mk (below_step (by repeat (first | (with_reducible first | exact HB.out | apply below_alloc | apply pw_below_drewN | apply below_drew1 | refine below_set ?_ GE479.out | refine below_set ?_ GE480.out) | exact HB.out)) hb); have n3_ := Aside0.mk (hbox); have n4_ := Aside0.mk ((by rw [hg]; exact (below_size (by repeat (first | (with_reducible first | exact HB.out | apply below_alloc | apply pw_below_drewN | apply below_drew1 | refine below_set ?_ GE479.out | refine below_set ?_ GE480.out) | exact HB.out))) : w.heap.size ≤ gb481)); have n5_ := Aside0.mk ((by rw [hg]; exact (below_size (by repeat (first | (with_reducible first | exact HB.out | apply below_alloc | apply pw_below_drewN | apply below_drew1 | refine below_set ?_ GE479.out | refine below_set ?_ GE480.out) | exact HB.out))) : w.heap.size ≤ gb481)); have n6_ := Aside0.mk ((by rw [hg]; exact Nat.ne_of_lt (blk_lt (g := gb479) (o := .cells #[.int .i64 a0_0, .slice A0_1 l0_1.length c0_1] 24 (0, 0)) (by (with_reducible repeat (first | refine blk_drewN ?_ _ | refine blk_drew ?_ | refine blk_alloc ?_ _)); exact BK479.out)) : gb479 ≠ gb481)); have n7_ := Aside0.mk ((by rw [hg]; exact Nat.ne_of_gt (blk_lt (g := gb479) (o := .cells #[.int .i64 a0_0, .slice A0_1 l0_1.length c0_1] 24 (0, 0)) (by (with_reducible repeat (first | refine blk_drewN ?_ _ | refine blk_drew ?_ | refine blk_alloc ?_ _)); exact BK479.out)) : gb481 ≠ gb479)); have n8_ := Aside0.mk ((by rw [hg]; exact Nat.ne_of_lt (blk_lt (g := gb480) (o := .cells #[.int .i64 a1_0, .slice A1_1 l1_1.length c1_1] 24 (0, 0)) (by (with_reducible repeat (first | refine blk_drewN ?_ _ | refine blk_drew ?_ | refine blk_alloc ?_ _)); exact BK480.out)) : gb480 ≠ gb481)); have n9_ := Aside0.mk ((by rw [hg]; exact Nat.ne_of_gt (blk_lt (g := gb480) (o := .cells #[.int .i64 a1_0, .slice A1_1 l1_1.length c1_1] 24 (0, 0)) (by (with_reducible repeat (first | refine blk_drewN ?_ _ | refine blk_drew ?_ | refine blk_alloc ?_ _)); exact BK480.out)) : gb481 ≠ gb480)); clear BK479; clear BK480; clear HB; have BK479 := n0_; have BK480 := n1_; have HB := n2_; have BK481 := n3_; have GW481 := n4_; have GE481 := n5_; have NB479_481 := n6_; have NB481_479 := n7_; have NB480_481 := n8_; have NB481_480 := n9_; clear n0_ n1_ n2_ n3_ n4_ n5_ n6_ n7_ n8_ n9_; clear hb hbox hg; have hnb9 := NB479_480.out; have hnc9 := NB480_479.out; have hnb10 := NB479_481.out; have hnc10 := NB481_479.out; have hcz11_0 : w8.cell? ⟨gb479, 0, none⟩ = some (.int .i64 a0_0) := (blk_cell BK479.out 0).trans rfl; have hcz11_1 : w8.cell? ⟨gb479, 1, none⟩ = some (.slice A0_1 l0_1.length c0_1) := (blk_cell BK479.out 1).trans rfl; have hfz11_0 := blk_frozen BK479.out 0; have hfz11_1 := blk_frozen BK479.out 1; have hnb12 := NB480_481.out; have hnc12 := NB481_480.out; have hcz13_0 : w8.cell? ⟨gb480, 0, none⟩ = some (.int .i64 a1_0) := (blk_cell BK480.out 0).trans rfl; have hcz13_1 : w8.cell? ⟨gb480, 1, none⟩ = some (.slice A1_1 l1_1.length c1_1) := (blk_cell BK480.out 1).trans rfl; have hfz13_0 := blk_frozen BK480.out 0; have hfz13_1 := blk_frozen BK480.out 1) | ((with_reducible refine gate_callee (f := 49) rfl ?_); refine goesL_ (some 11) rfl rfl Tryd.func49 (by kernel_rfl) rfl #[.agg #[.int .i64 a0_0, .slice A0_1 l0_1.length c0_1], .agg #[.int .i64 a1_0, .slice A1_1 l1_1.length c1_1]] rfl (by (try simp only [List.map_toArray, List.map_cons, List.map_nil]); first | done | rfl | (simp only [List.length_drop, List.length_take]; rfl)) ?_; (with_reducible refine (r02both.calls k a0_0 _ _ l0_1 a1_0 _ _ l1_1 t482 _ ?side1 ?side2 ?side3 ?side4 A3.out).mono ?_); (case side1 => repeat (first | exact (Kd.C_below HR0_1.out HB.out) | (with_reducible refine Kd.C_alloc ?_ _) | (with_reducible refine Kd.C_drewN ?_ _) | (with_reducible refine Kd.C_drew ?_))); (case side2 => exact HC0_1.out); (case side3 => repeat (first | exact (Kd.C_below HR1_1.out HB.out) | (with_reducible refine Kd.C_alloc ?_ _) | (with_reducible refine Kd.C_drewN ?_ _) | (with_reducible refine Kd.C_drew ?_))); (case side4 => exact HC1_1.out); rintro e w14 ⟨rfl, hb⟩; refine ⟨_, rfl, ?_⟩; have n0_ := Aside0.mk (blk_below (g := gb479) (o := .cells #[.int .i64 a0_0, .slice A0_1 l0_1.length c0_1] 24 (0, 0)) (by (with_reducible repeat (first | refine blk_drewN ?_ _ | refine blk_drew ?_ | refine blk_alloc ?_ _)); exact BK479.out) hb); have n1_ := Aside0.mk (blk_below (g := gb480) (o := .cells #[.int .i64 a1_0, .slice A1_1 l1_1.length c1_1] 24 (0, 0)) (by (with_reducible repeat (first | refine blk_drewN ?_ _ | refine blk_drew ?_ | refine blk_alloc ?_ _)); exact BK480.out) hb); have n2_ := Aside0.mk (blk_below (g := gb481) (o := .cells #[.int .i64 0, .slice none 0 0] 24 (0, 0)) (by (with_reducible repeat (first | refine blk_drewN ?_ _ | refine blk_drew ?_ | refine blk_alloc ?_ _)); exact BK481.out) hb); have n3_ := Aside0.mk (below_step (by repeat (first | (with_reducible first | exact HB.out | apply below_alloc | apply pw_below_drewN | apply below_drew1 | refine below_set ?_ GE479.out | refine below_set ?_ GE480.out | refine below_set ?_ GE481.out) | exact HB.out)) hb); clear BK479; clear BK480; clear BK481; clear HB; have BK479 := n0_; have BK480 := n1_; have BK481 := n2_; have HB := n3_; clear n0_ n1_ n2_ n3_; (try clear hb); (try clear hb2); (try clear hk); (try clear hi); have hcz15_0 : w14.cell? ⟨gb479, 0, none⟩ = some (.int .i64 a0_0) := (blk_cell BK479.out 0).trans rfl; have hcz15_1 : w14.cell? ⟨gb479, 1, none⟩ = some (.slice A0_1 l0_1.length c0_1) := (blk_cell BK479.out 1).trans rfl; have hfz15_0 := blk_frozen BK479.out 0; have hfz15_1 := blk_frozen BK479.out 1) | ((with_reducible refine gate_callee (f := 50) rfl ?_); refine goesL_ (some 17) rfl rfl Tryd.func50 (by kernel_rfl) rfl #[.agg #[.int .i64 a0_0, .slice A0_1 l0_1.length c0_1]] rfl (by (try simp only [List.map_toArray, List.map_cons, List.map_nil]); first | done | rfl | (simp only [List.length_drop, List.length_take]; rfl)) ?_; (with_reducible refine (r02Copy.calls a0_0 _ _ l0_1 t483 t484 _ ?side1 ?side2 A5.out).mono ?_); (case side1 => repeat (first | exact (Kd.C_below HR0_1.out HB.out) | (with_reducible refine Kd.C_alloc ?_ _) | (with_reducible refine Kd.C_drewN ?_ _) | (with_reducible refine Kd.C_drew ?_))); (case side2 => exact HC0_1.out); rintro e w16 ⟨v485, rfl, ho0, hb⟩; refine ⟨_, rfl, ?_⟩; have n0_ := Aside0.mk (Kd.R_lower ho0 (below_size (by repeat (first | (with_reducible first | exact HB.out | apply below_alloc | apply pw_below_drewN | apply below_drew1 | refine below_set ?_ GE479.out | refine below_set ?_ GE480.out | refine below_set ?_ GE481.out) | exact HB.out)))); have n1_ := Aside0.mk (blk_below (g := gb479) (o := .cells #[.int .i64 a0_0, .slice A0_1 l0_1.length c0_1] 24 (0, 0)) (by (with_reducible repeat (first | refine blk_drewN ?_ _ | refine blk_drew ?_ | refine blk_alloc ?_ _)); exact BK479.out) hb); have n2_ := Aside0.mk (blk_below (g := gb480) (o := .cells #[.int .i64 a1_0, .slice A1_1 l1_1.length c1_1] 24 (0, 0)) (by (with_reducible repeat (first | refine blk_drewN ?_ _ | refine blk_drew ?_ | refine blk_alloc ?_ _)); exact BK480.out) hb); have n3_ := Aside0.mk (blk_below (g := gb481) (o := .cells #[.int .i64 0, .slice none 0 0] 24 (0, 0)) (by (with_reducible repeat (first | refine blk_drewN ?_ _ | refine blk_drew ?_ | refine blk_alloc ?_ _)); exact BK481.out) hb); have n4_ := Aside0.mk (below_step (by repeat (first | (with_reducible first | exact HB.out | apply below_alloc | apply pw_below_drewN | apply below_drew1 | refine below_set ?_ GE479.out | refine below_set ?_ GE480.out | refine below_set ?_ GE481.out) | exact HB.out)) hb); clear BK479; clear BK480; clear BK481; clear HB; have HO486 := n0_; have BK479 := n1_; have BK480 := n2_; have BK481 := n3_; have HB := n4_; clear n0_ n1_ n2_ n3_ n4_; (try clear hb); (try clear hb2); (try clear hk); (try clear hi); (try clear ho0)) | ((with_reducible refine gate_dst (N := 7) rfl ?_); refine box_event ?hg (N := 7) ?hd (cs := #[.int .i64 0, .slice none 0 0]) (t := 24) ?hr ?_; (case hd => rfl); (case hg => rfl); (case hr => first | (go_simp; done) | (go_simp; rfl)); intro gb487 hg w17 hbox hb; have n0_ := Aside0.mk (Kd.R_below (by (with_reducible repeat (first | apply Kd.R_alloc | apply Kd.R_drewN | apply Kd.R_drew)); exact HO486.out) hb); have n1_ := Aside0.mk (blk_below (g := gb479) (o := .cells #[.int .i64 a0_0, .slice A0_1 l0_1.length c0_1] 24 (0, 0)) (by (with_reducible repeat (first | refine blk_drewN ?_ _ | refine blk_drew ?_ | refine blk_alloc ?_ _)); exact BK479.out) hb); have n2_ := Aside0.mk (blk_below (g := gb480) (o := .cells #[.int .i64 a1_0, .slice A1_1 l1_1.length c1_1] 24 (0, 0)) (by (with_reducible repeat (first | refine blk_drewN ?_ _ | refine blk_drew ?_ | refine blk_alloc ?_ _)); exact BK480.out) hb); have n3_ := Aside0.mk (blk_below (g := gb481) (o := .cells #[.int .i64 0, .slice none 0 0] 24 (0, 0)) (by (with_reducible repeat (first | refine blk_drewN ?_ _ | refine blk_drew ?_ | refine blk_alloc ?_ _)); exact BK481.out) hb); have n4_ := Aside0.mk (below_step (by repeat (first | (with_reducible first | exact HB.out | apply below_alloc | apply pw_below_drewN | apply below_drew1 | refine below_set ?_ GE479.out | refine below_set ?_ GE480.out | refine below_set ?_ GE481.out) | exact HB.out)) hb); have n5_ := Aside0.mk (hbox); have n6_ := Aside0.mk ((by rw [hg]; exact (below_size (by repeat (first | (with_reducible first | exact HB.out | apply below_alloc | apply pw_below_drewN | apply below_drew1 | refine below_set ?_ GE479.out | refine below_set ?_ GE480.out | refine below_set ?_ GE481.out) | exact HB.out))) : w.heap.size ≤ gb487)); have n7_ := Aside0.mk ((by rw [hg]; exact (below_size (by repeat (first | (with_reducible first | exact HB.out | apply below_alloc | apply pw_below_drewN | apply below_drew1 | refine below_set ?_ GE479.out | refine below_set ?_ GE480.out | refine below_set ?_ GE481.out) | exact HB.out))) : w.heap.size ≤ gb487)); have n8_ := Aside0.mk ((by rw [hg]; exact Nat.ne_of_lt (blk_lt (g := gb479) (o := .cells #[.int .i64 a0_0, .slice A0_1 l0_1.length c0_1] 24 (0, 0)) (by (with_reducible repeat (first | refine blk_drewN ?_ _ | refine blk_drew ?_ | refine blk_alloc ?_ _)); exact BK479.out)) : gb479 ≠ gb487)); have n9_ := Aside0.mk ((by rw [hg]; exact Nat.ne_of_gt (blk_lt (g := gb479) (o := .cells #[.int .i64 a0_0, .slice A0_1 l0_1.length c0_1] 24 (0, 0)) (by (with_reducible repeat (first | refine blk_drewN ?_ _ | refine blk_drew ?_ | refine blk_alloc ?_ _)); exact BK479.out)) : gb487 ≠ gb479)); have n10_ := Aside0.mk ((by rw [hg]; exact Nat.ne_of_lt (blk_lt (g := gb480) (o := .cells #[.int .i64 a1_0, .slice A1_1 l1_1.length c1_1] 24 (0, 0)) (by (with_reducible repeat (first | refine blk_drewN ?_ _ | refine blk_drew ?_ | refine blk_alloc ?_ _)); exact BK480.out)) : gb480 ≠ gb487)); have n11_ := Aside0.mk ((by rw [hg]; exact Nat.ne_of_gt (blk_lt (g := gb480) (o := .cells #[.int .i64 a1_0, .slice A1_1 l1_1.length c1_1] 24 (0, 0)) (by (with_reducible repeat (first | refine blk_drewN ?_ _ | refine blk_drew ?_ | refine blk_alloc ?_ _)); exact BK480.out)) : gb487 ≠ gb480)); have n12_ := Aside0.mk ((by rw [hg]; exact Nat.ne_of_lt (blk_lt (g := gb481) (o := .cells #[.int .i64 0, .slice none 0 0] 24 (0, 0)) (by (with_reducible repeat (first | refine blk_drewN ?_ _ | refine blk_drew ?_ | refine blk_alloc ?_ _)); exact BK481.out)) : gb481 ≠ gb487)); have n13_ := Aside0.mk ((by rw [hg]; exact Nat.ne_of_gt (blk_lt (g := gb481) (o := .cells #[.int .i64 0, .slice none 0 0] 24 (0, 0)) (by (with_reducible repeat (first | refine blk_drewN ?_ _ | refine blk_drew ?_ | refine blk_alloc ?_ _)); exact BK481.out)) : gb487 ≠ gb481)); clear HO486; clear BK479; clear BK480; clear BK481; clear HB; have HO486 := n0_; have BK479 := n1_; have BK480 := n2_; have BK481 := n3_; have HB := n4_; have BK487 := n5_; have GW487 := n6_; have GE487 := n7_; have NB479_487 := n8_; have NB487_479 := n9_; have NB480_487 := n10_; have NB487_480 := n11_; have NB481_487 := n12_; have NB487_481 := n13_; clear n0_ n1_ n2_ n3_ n4_ n5_ n6_ n7_ n8_ n9_ n10_ n11_ n12_ n13_; clear hb hbox hg; have hnb18 := NB487_479.out; have hnc18 := NB479_487.out; have hnb19 := NB487_480.out; have hnc19 := NB480_487.out; have hnb20 := NB487_481.out; have hnc20 := NB481_487.out; have hcz21_0 : w17.cell? ⟨gb487, 0, none⟩ = some (.int .i64 0) := (blk_cell BK487.out 0).trans rfl; have hcz21_1 : w17.cell? ⟨gb487, 1, none⟩ = some (.slice none 0 0) := (blk_cell BK487.out 1).trans rfl; have hfz21_0 := blk_frozen BK487.out 0; have hfz21_1 := blk_frozen BK487.out 1; obtain ⟨Ao22, co22, eo22⟩ := Kd.R_slice HO486.out; subst eo22))
    go_loopg [8] k (fun kq v8 w' => ∃ (x8_1 : Int) (x488001_1 : List Int) (u488001 : Value), v8 = .int .i64 x8_1 ∧ Aside0 (r02And.l0 kq x8_1 a0_0 l0_1 a1_0 l1_1 t483 x488001_1 = some (r1, r2, r3)) ∧ Aside0 (kq ≤ k) ∧ Aside0 (Kd.R (Kd.int .u64) 55 w' w.heap.size (fun _ => True) u488001 x488001_1) ∧ Aside0 (w'.heap[gb479]? = some (.cells #[.int .i64 a0_0, (.slice A0_1 l0_1.length c0_1)] 24 (0, 0))) ∧ Aside0 (w'.heap[gb480]? = some (.cells #[.int .i64 a1_0, (.slice A1_1 l1_1.length c1_1)] 24 (0, 0))) ∧ Aside0 (w'.heap[gb481]? = some (.cells #[.int .i64 0, (.slice none 0 0)] 24 (0, 0))) ∧ Aside0 (w'.heap[gb487]? = some (.cells #[.int .i64 t483, u488001] 24 (0, 0))) ∧ Aside0 (Below w.heap.size w w'))
    case atStart => exact ⟨(0), (t484), (.slice Ao22 t484.length co22), (by first | rfl | (simp; done) | (simp [*]; done)), H', ⟨Nat.le_refl _⟩, ⟨by (with_reducible repeat (first | apply Kd.R_alloc | apply Kd.R_drewN | apply Kd.R_drew)); exact Kd.R_mono (Kd.R_far (p := ⟨gb487, 1, none⟩) (Kd.R_far (p := ⟨gb487, 0, none⟩) (Kd.R_types HO486.out BK487.out (by decide)) (fun _ hk => hk.2) (.int .i64 t483)) (fun _ hk => hk.2) (.slice Ao22 t484.length co22)) (fun _ hk => trivial)⟩, ⟨by (with_reducible repeat (first | refine blk_drewN ?_ _ | refine blk_drew ?_ | refine blk_alloc ?_ _)); refine blk_far ?_ NB479_487.out _; (with_reducible repeat (first | refine blk_drewN ?_ _ | refine blk_drew ?_ | refine blk_alloc ?_ _)); refine blk_far ?_ NB479_487.out _; (with_reducible repeat (first | refine blk_drewN ?_ _ | refine blk_drew ?_ | refine blk_alloc ?_ _)); exact BK479.out⟩, ⟨by (with_reducible repeat (first | refine blk_drewN ?_ _ | refine blk_drew ?_ | refine blk_alloc ?_ _)); refine blk_far ?_ NB480_487.out _; (with_reducible repeat (first | refine blk_drewN ?_ _ | refine blk_drew ?_ | refine blk_alloc ?_ _)); refine blk_far ?_ NB480_487.out _; (with_reducible repeat (first | refine blk_drewN ?_ _ | refine blk_drew ?_ | refine blk_alloc ?_ _)); exact BK480.out⟩, ⟨by (with_reducible repeat (first | refine blk_drewN ?_ _ | refine blk_drew ?_ | refine blk_alloc ?_ _)); refine blk_far ?_ NB481_487.out _; (with_reducible repeat (first | refine blk_drewN ?_ _ | refine blk_drew ?_ | refine blk_alloc ?_ _)); refine blk_far ?_ NB481_487.out _; (with_reducible repeat (first | refine blk_drewN ?_ _ | refine blk_drew ?_ | refine blk_alloc ?_ _)); exact BK481.out⟩, ⟨by (with_reducible repeat (first | refine blk_drewN ?_ _ | refine blk_drew ?_ | refine blk_alloc ?_ _)); refine blk_put (cs := #[.int .i64 t483, .slice none 0 0]) ?_ 1 _ rfl; (with_reducible repeat (first | refine blk_drewN ?_ _ | refine blk_drew ?_ | refine blk_alloc ?_ _)); refine blk_put (cs := #[.int .i64 0, .slice none 0 0]) ?_ 0 _ rfl; (with_reducible repeat (first | refine blk_drewN ?_ _ | refine blk_drew ?_ | refine blk_alloc ?_ _)); exact BK487.out⟩, ⟨by repeat (first | (with_reducible first | exact HB.out | apply below_alloc | apply pw_below_drewN | apply below_drew1 | refine below_set ?_ GE479.out | refine below_set ?_ GE480.out | refine below_set ?_ GE481.out | refine below_set ?_ GE487.out) | exact HB.out)⟩⟩
    case round =>
      clear H'
      try clear c1
      try clear c2
      try clear p2
      try clear c3
      try clear c4
      try clear c4b0
      try clear c4b1
      try clear c5
      try clear c9
      try clear c10
      try clear c12
      try clear c18
      try clear c19
      try clear c20
      try clear hcz11_0
      try clear hcz11_1
      try clear hcz13_0
      try clear hcz13_1
      try clear hcz15_0
      try clear hcz15_1
      try clear hcz21_0
      try clear hcz21_1
      try clear hfz11_0
      try clear hfz11_1
      try clear hfz13_0
      try clear hfz13_1
      try clear hfz15_0
      try clear hfz15_1
      try clear hfz21_0
      try clear hfz21_1
      obtain ⟨x8_1, x488001_1, u488001, rfl, HA, HK1, HO_488001, BK479, BK480, BK481, BK487, HB⟩ := hrel
      cases gk with
      | zero => exact absurd HA.out (by simp [r02And.l0])
      | succ k1 =>
        have H := HA.out
        clear HA
        simp only [r02And.l0] at H
        by_cases c23 : x8_1 < (x488001_1.length : Int)
        · rw [if_pos c23] at H
          have c23b0 : decide (x8_1 < (x488001_1.length : Int)) = true := decide_eq_true c23
          clear c23
          by_cases c24 : 0 ≤ x8_1
          · rw [if_pos c24] at H
            have c24b0 : decide (0 ≤ x8_1) = true := decide_eq_true c24
            clear c24
            by_cases c25 : x8_1 < (l0_1.length : Int)
            · rw [if_pos c25] at H
              have c25b0 : decide (x8_1 < (l0_1.length : Int)) = true := decide_eq_true c25
              clear c25
              by_cases c26 : x8_1 < (l1_1.length : Int)
              · rw [if_pos c26] at H
                have c26b0 : decide (x8_1 < (l1_1.length : Int)) = true := decide_eq_true c26
                clear c26
                obtain ⟨y490, hy490⟩ : ∃ y_ : List Int, y_ = (x488001_1.set (x8_1 : Int).toNat (Go.bits .and .u64 (rd l0_1 x8_1) (rd l1_1 x8_1))) := ⟨_, rfl⟩
                replace H : (r02And.l0 k1 (wrap64 (x8_1 + 1)) a0_0 l0_1 a1_0 l1_1 t483 y490) = some (r1, r2, r3) := by first | (rw [hy490]; with_reducible exact H) | (have H2_ := (Option.bind_some _ _).symm.trans H; rw [hy490]; with_reducible exact H2_) | (have H2_ := (Option.bind_some _ _).symm.trans H; with_reducible exact H2_) | with_reducible exact H | (rw [hy490]; exact H) | exact H
                have Ny490 := Aside0.mk hy490
                clear hy490
                have H' := Aside0.mk H
                clear H
                have hnb28 := NB487_479.out
                have hnc28 := NB479_487.out
                have hnb29 := NB487_480.out
                have hnc29 := NB480_487.out
                have hnb30 := NB487_481.out
                have hnc30 := NB481_487.out
                have hcz31_0 : wr.cell? ⟨gb487, 0, none⟩ = some (.int .i64 t483) := (blk_cell BK487.out 0).trans rfl
                have hcz31_1 : wr.cell? ⟨gb487, 1, none⟩ = some (u488001) := (blk_cell BK487.out 1).trans rfl
                have hfz31_0 := blk_frozen BK487.out 0
                have hfz31_1 := blk_frozen BK487.out 1
                obtain ⟨Ao32, co32, eo32⟩ := Kd.R_slice HO_488001.out
                subst eo32
                try go_wp2
                have n0_ := Aside0.mk (Kd.R_drew HO_488001.out)
                have n1_ := Aside0.mk (blk_drew BK479.out)
                have n2_ := Aside0.mk (blk_drew BK480.out)
                have n3_ := Aside0.mk (blk_drew BK481.out)
                have n4_ := Aside0.mk (blk_drew BK487.out)
                have n5_ := Aside0.mk (below_drew1 HB.out)
                clear HO_488001
                clear BK479
                clear BK480
                clear BK481
                clear BK487
                clear HB
                have HO_488001 := n0_
                have BK479 := n1_
                have BK480 := n2_
                have BK481 := n3_
                have BK487 := n4_
                have HB := n5_
                clear n0_ n1_ n2_ n3_ n4_ n5_
                have p488 : 0 ≤ (x8_1 : Int) := of_decide_eq_true (by first | (with_reducible assumption) | assumption)
                have q488 : x8_1 < (l0_1.length : Int) := of_decide_eq_true (by first | (with_reducible assumption) | assumption)
                obtain ⟨ad488, e488, hx488_0⟩ := Kd.at_int HR0_1.out x8_1 p488 q488
                have hw488_0 := hx488_0
                cases e488
                replace hx488_0 := (HB.out.cell (World.block_lt_of_cell? w _ hx488_0)).trans hx488_0
                replace p488 := eq_true p488
                replace q488 := eq_true q488
                have p489 : 0 ≤ (x8_1 : Int) := of_decide_eq_true (by first | (with_reducible assumption) | assumption)
                have q489 : x8_1 < (l1_1.length : Int) := of_decide_eq_true (by first | (with_reducible assumption) | assumption)
                obtain ⟨ad489, e489, hx489_0⟩ := Kd.at_int HR1_1.out x8_1 p489 q489
                have hw489_0 := hx489_0
                cases e489
                replace hx489_0 := (HB.out.cell (World.block_lt_of_cell? w _ hx489_0)).trans hx489_0
                replace p489 := eq_true p489
                replace q489 := eq_true q489
                have p27 : 0 ≤ (x8_1 : Int) := of_decide_eq_true (by first | (with_reducible assumption) | assumption)
                have q27 : (x8_1 : Int) < ((x488001_1.length : Int) : Int) := of_decide_eq_true (by first | (with_reducible assumption) | assumption)
                obtain ⟨go27, co27, eo27, gb27, gl27, cl27, HG27⟩ := Kd.R_form HO_488001.out (by omega)
                (first | cases eo27 | (injection eo27 with ea_ en_ ec_; (first | subst ea_ | (injection ea_ with ea_; subst ea_)); subst ec_; clear en_))
                have GB27 := Aside0.mk gb27
                have GG27 := Aside0.mk HG27
                clear gb27 gl27 HG27
                obtain ⟨hx27_0, hf27_0⟩ := Kd.R_celln 0 HO_488001.out (x8_1 : Int) p27 q27
                replace p27 := eq_true p27
                replace q27 := eq_true q27
                have HP34 := Kd.R_putn HO_488001.out (x8_1 : Int) (Go.bits .and .u64 (rd l0_1 x8_1) (rd l1_1 x8_1))
                rw [← Ny490.out] at HP34
                have HQ34 := Aside0.mk HP34
                clear HP34
                refine start_ (n := 16) (S := fun w' => w'.cell? ⟨gb487, 0, none⟩ = some (.int .i64 t483) ∧ w'.cell? ⟨gb487, 1, none⟩ = some (.slice (some ⟨go27, 0, none⟩) x488001_1.length co32) ∧ w'.cell? ⟨gb479, 0, none⟩ = some (.int .i64 a0_0) ∧ w'.cell? ⟨gb479, 1, none⟩ = some (.slice (some ad488) l0_1.length c0_1) ∧ w'.cell? ⟨gb480, 0, none⟩ = some (.int .i64 a1_0) ∧ w'.cell? ⟨gb480, 1, none⟩ = some (.slice (some ad489) l1_1.length c1_1) ∧ w'.cell? (ad488.add (x8_1).toNat) = some (.int .u64 (rd l0_1 x8_1)) ∧ w'.cell? (ad489.add (x8_1).toNat) = some (.int .u64 (rd l1_1 x8_1))) (ds := [15]) #[false, false, false, false, false, false, false, false, false, false, false, false, false, false, false, false] (by kernel_rfl) rfl rfl ⟨(blk_cell BK487.out 0).trans rfl, (blk_cell BK487.out 1).trans rfl, (blk_cell BK479.out 0).trans rfl, (blk_cell BK479.out 1).trans rfl, (blk_cell BK480.out 0).trans rfl, (blk_cell BK480.out 1).trans rfl, ((HB.out.cell (World.block_lt_of_cell? w _ hw488_0)).trans hw488_0), ((HB.out.cell (World.block_lt_of_cell? w _ hw489_0)).trans hw489_0)⟩ (fun hHeld => ?_); refine with_tabW r02And.tab8 r02And.bits8 (fun HT_ HW_ => ?_)
                generalize wr.drew = w33 at HO_488001 BK479 BK480 BK481 BK487 HB GG27 HQ34 hf27_0 hx27_0 hx488_0 hx489_0 hHeld ⊢
                refine pure_ (i := 0) (N := some 25) (v := ?_) (a' := ?_) #[true, false, false, false, false, false, false, false, false, false, false, false, false, false, false, false] rfl rfl (any_of HT_.out (by kernel_rfl)) (fun _ _ _ h => h) (Or.inl ⟨by rfl, ?_⟩) ?_ ?_
                rotate_left
                · intro w'
                  go_simp
                  with_reducible rfl
                rotate_left
                · simp only [Act.put, List.setIfInBounds_toArray, List.set_cons_zero, List.set_cons_succ, i64_w, i32_w]
                  rfl
                refine pure_ (i := 2) (N := some 27) (v := ?_) (a' := ?_) #[true, false, true, false, false, false, false, false, false, false, false, false, false, false, false, false] rfl rfl (any_of HT_.out (by kernel_rfl)) (fun _ _ _ h => h) (Or.inl ⟨by rfl, ?_⟩) ?_ ?_
                rotate_left
                · intro w'
                  go_simp
                  with_reducible rfl
                rotate_left
                · simp only [Act.put, List.setIfInBounds_toArray, List.set_cons_zero, List.set_cons_succ, i64_w, i32_w]
                  rfl
                refine pure_ (i := 3) (N := some 28) (v := ?_) (a' := ?_) #[true, false, true, true, false, false, false, false, false, false, false, false, false, false, false, false] rfl rfl (any_of HT_.out (by kernel_rfl)) (fun _ _ _ h => h) (Or.inl ⟨by rfl, ?_⟩) ?_ ?_
                rotate_left
                · intro w'
                  go_simp
                  with_reducible rfl
                rotate_left
                · simp only [Act.put, List.setIfInBounds_toArray, List.set_cons_zero, List.set_cons_succ, i64_w, i32_w]
                  rfl
                refine pure_ (i := 5) (N := some 30) (v := ?_) (a' := ?_) #[true, false, true, true, false, true, false, false, false, false, false, false, false, false, false, false] rfl rfl (any_of HT_.out (by kernel_rfl)) (fun _ _ _ h => h) (Or.inl ⟨by rfl, ?_⟩) ?_ ?_
                rotate_left
                · intro w'
                  go_simp
                  with_reducible rfl
                rotate_left
                · simp only [Act.put, List.setIfInBounds_toArray, List.set_cons_zero, List.set_cons_succ, i64_w, i32_w]
                  rfl
                refine pure_ (i := 8) (N := some 33) (v := ?_) (a' := ?_) #[true, false, true, true, false, true, false, false, true, false, false, false, false, false, false, false] rfl rfl (any_of HT_.out (by kernel_rfl)) (fun _ _ _ h => h) (Or.inl ⟨by rfl, ?_⟩) ?_ ?_
                rotate_left
                · intro w'
                  go_simp
                  with_reducible rfl
                rotate_left
                · simp only [Act.put, List.setIfInBounds_toArray, List.set_cons_zero, List.set_cons_succ, i64_w, i32_w]
                  rfl
                refine pure_ (i := 10) (N := some 35) (v := ?_) (a' := ?_) #[true, false, true, true, false, true, false, false, true, false, true, false, false, false, false, false] rfl rfl (any_of HT_.out (by kernel_rfl)) (fun _ _ _ h => h) (Or.inl ⟨by rfl, ?_⟩) ?_ ?_
                rotate_left
                · intro w'
                  go_simp
                  with_reducible rfl
                rotate_left
                · simp only [Act.put, List.setIfInBounds_toArray, List.set_cons_zero, List.set_cons_succ, i64_w, i32_w]
                  rfl
                refine take_ (i := 1) (N := some 26) (v := ?_) (a' := ?_) #[true, true, true, true, false, true, false, false, true, false, true, false, false, false, false, false] rfl rfl (take_ofW HT_.out HW_.out (by kernel_rfl)) (fun _ _ _ h => h) (Or.inl ⟨by rfl, ?_⟩) hHeld ?_ ?_
                rotate_left
                · rintro w' ⟨s0, s1, s2, s3, s4, s5, s6, s7⟩
                  go_simp
                  with_reducible rfl
                rotate_left
                · simp only [Act.put, List.setIfInBounds_toArray, List.set_cons_zero, List.set_cons_succ, i64_w, i32_w]
                  rfl
                refine take_ (i := 4) (N := some 29) (v := ?_) (a' := ?_) #[true, true, true, true, true, true, false, false, true, false, true, false, false, false, false, false] rfl rfl (take_ofW HT_.out HW_.out (by kernel_rfl)) (fun _ _ _ h => h) (Or.inl ⟨by rfl, ?_⟩) hHeld ?_ ?_
                rotate_left
                · rintro w' ⟨s0, s1, s2, s3, s4, s5, s6, s7⟩
                  go_simp
                  with_reducible rfl
                rotate_left
                · simp only [Act.put, List.setIfInBounds_toArray, List.set_cons_zero, List.set_cons_succ, i64_w, i32_w]
                  rfl
                refine pure_ (i := 6) (N := some 31) (v := ?_) (a' := ?_) #[true, true, true, true, true, true, true, false, true, false, true, false, false, false, false, false] rfl rfl (any_of HT_.out (by kernel_rfl)) (fun _ _ _ h => h) (Or.inl ⟨by rfl, ?_⟩) ?_ ?_
                rotate_left
                · intro w'
                  go_simp
                  with_reducible rfl
                rotate_left
                · simp only [Act.put, List.setIfInBounds_toArray, List.set_cons_zero, List.set_cons_succ, i64_w, i32_w]
                  rfl
                refine take_ (i := 7) (N := some 32) (v := ?_) (a' := ?_) #[true, true, true, true, true, true, true, true, true, false, true, false, false, false, false, false] rfl rfl (take_ofW HT_.out HW_.out (by kernel_rfl)) (fun _ _ _ h => h) (Or.inl ⟨by rfl, ?_⟩) hHeld ?_ ?_
                rotate_left
                · rintro w' ⟨s0, s1, s2, s3, s4, s5, s6, s7⟩
                  go_simp
                  with_reducible rfl
                rotate_left
                · simp only [Act.put, List.setIfInBounds_toArray, List.set_cons_zero, List.set_cons_succ, i64_w, i32_w]
                  rfl
                refine take_ (i := 9) (N := some 34) (v := ?_) (a' := ?_) #[true, true, true, true, true, true, true, true, true, true, true, false, false, false, false, false] rfl rfl (take_ofW HT_.out HW_.out (by kernel_rfl)) (fun _ _ _ h => h) (Or.inl ⟨by rfl, ?_⟩) hHeld ?_ ?_
                rotate_left
                · rintro w' ⟨s0, s1, s2, s3, s4, s5, s6, s7⟩
                  go_simp
                  with_reducible rfl
                rotate_left
                · simp only [Act.put, List.setIfInBounds_toArray, List.set_cons_zero, List.set_cons_succ, i64_w, i32_w]
                  rfl
                refine pure_ (i := 11) (N := some 36) (v := ?_) (a' := ?_) #[true, true, true, true, true, true, true, true, true, true, true, true, false, false, false, false] rfl rfl (any_of HT_.out (by kernel_rfl)) (fun _ _ _ h => h) (Or.inl ⟨by rfl, ?_⟩) ?_ ?_
                rotate_left
                · intro w'
                  go_simp
                  with_reducible rfl
                rotate_left
                · simp only [Act.put, List.setIfInBounds_toArray, List.set_cons_zero, List.set_cons_succ, i64_w, i32_w]
                  rfl
                refine take_ (i := 12) (N := some 37) (v := ?_) (a' := ?_) #[true, true, true, true, true, true, true, true, true, true, true, true, true, false, false, false] rfl rfl (take_ofW HT_.out HW_.out (by kernel_rfl)) (fun _ _ _ h => h) (Or.inl ⟨by rfl, ?_⟩) hHeld ?_ ?_
                rotate_left
                · rintro w' ⟨s0, s1, s2, s3, s4, s5, s6, s7⟩
                  go_simp
                  with_reducible rfl
                rotate_left
                · simp only [Act.put, List.setIfInBounds_toArray, List.set_cons_zero, List.set_cons_succ, i64_w, i32_w]
                  rfl
                refine pure_ (i := 13) (N := some 38) (v := ?_) (a' := ?_) #[true, true, true, true, true, true, true, true, true, true, true, true, true, true, false, false] rfl rfl (any_of HT_.out (by kernel_rfl)) (fun _ _ _ h => h) (Or.inl ⟨by rfl, ?_⟩) ?_ ?_
                rotate_left
                · intro w'
                  go_simp
                  with_reducible rfl
                rotate_left
                · simp only [Act.put, List.setIfInBounds_toArray, List.set_cons_zero, List.set_cons_succ, i64_w, i32_w]
                  rfl
                refine pure_ (i := 14) (N := some 39) (v := ?_) (a' := ?_) #[true, true, true, true, true, true, true, true, true, true, true, true, true, true, true, false] rfl rfl (any_of HT_.out (by kernel_rfl)) (fun _ _ _ h => h) (Or.inl ⟨by rfl, ?_⟩) ?_ ?_
                rotate_left
                · intro w'
                  go_simp
                  with_reducible rfl
                rotate_left
                · simp only [Act.put, List.setIfInBounds_toArray, List.set_cons_zero, List.set_cons_succ, i64_w, i32_w]
                  rfl
                refine last_ (i := 15) (N := none) #[true, true, true, true, true, true, true, true, true, true, true, true, true, true, true, true] rfl rfl (one_of HT_.out (by kernel_rfl)) (by decide) (fun K hK => ?_)
                refine skip_ (w1 := ?_) (by rfl) rfl ?_ ?_
                rotate_left
                · go_simp
                  rfl
                refine hK.out _ _ ?_
                clear hK K
                refine done_ (done_of HT_.out (by kernel_rfl)) ?_
                try go_wp2
                go_roundg k1
                case measure => have := HK1.out; omega
                case rel => exact ⟨(wrap64 (x8_1 + 1)), (y490), (.slice (some ⟨go27, 0, none⟩) x488001_1.length co32), (by first | rfl | (simp; done) | (simp [*]; done)), H', ⟨by have := HK1.out; omega⟩, ⟨by (with_reducible repeat (first | apply Kd.R_alloc | apply Kd.R_drewN | apply Kd.R_drew)); exact HQ34.out⟩, ⟨by (with_reducible repeat (first | refine blk_drewN ?_ _ | refine blk_drew ?_ | refine blk_alloc ?_ _)); refine blk_far ?_ (by have h_ := Kd.R_ne HO_488001.out BK479.out (by decide); intro e_; exact h_ (by rw [e_]; rfl)) _; (with_reducible repeat (first | refine blk_drewN ?_ _ | refine blk_drew ?_ | refine blk_alloc ?_ _)); exact BK479.out⟩, ⟨by (with_reducible repeat (first | refine blk_drewN ?_ _ | refine blk_drew ?_ | refine blk_alloc ?_ _)); refine blk_far ?_ (by have h_ := Kd.R_ne HO_488001.out BK480.out (by decide); intro e_; exact h_ (by rw [e_]; rfl)) _; (with_reducible repeat (first | refine blk_drewN ?_ _ | refine blk_drew ?_ | refine blk_alloc ?_ _)); exact BK480.out⟩, ⟨by (with_reducible repeat (first | refine blk_drewN ?_ _ | refine blk_drew ?_ | refine blk_alloc ?_ _)); refine blk_far ?_ (by have h_ := Kd.R_ne HO_488001.out BK481.out (by decide); intro e_; exact h_ (by rw [e_]; rfl)) _; (with_reducible repeat (first | refine blk_drewN ?_ _ | refine blk_drew ?_ | refine blk_alloc ?_ _)); exact BK481.out⟩, ⟨by (with_reducible repeat (first | refine blk_drewN ?_ _ | refine blk_drew ?_ | refine blk_alloc ?_ _)); refine blk_far ?_ (by have h_ := Kd.R_ne HO_488001.out BK487.out (by decide); intro e_; exact h_ (by rw [e_]; rfl)) _; (with_reducible repeat (first | refine blk_drewN ?_ _ | refine blk_drew ?_ | refine blk_alloc ?_ _)); exact BK487.out⟩, ⟨by repeat (first | (with_reducible first | exact HB.out | apply below_alloc | apply pw_below_drewN | apply below_drew1 | refine below_set ?_ GB27.out | refine below_set ?_ GE479.out | refine below_set ?_ GE480.out | refine below_set ?_ GE481.out | refine below_set ?_ GE487.out) | exact HB.out)⟩⟩
              · rw [if_neg c26] at H
                exact absurd H (by simp)
            · rw [if_neg c25] at H
              exact absurd H (by simp)
          · rw [if_neg c24] at H
            exact absurd H (by simp)
        · rw [if_neg c23] at H
          have c23b0 : decide (x8_1 < (x488001_1.length : Int)) = false := decide_eq_false c23
          clear c23
          simp only [Option.some.injEq, Prod.mk.injEq] at H
          obtain ⟨rfl, rfl, rfl⟩ := H
          have hnb35 := NB487_479.out
          have hnc35 := NB479_487.out
          have hnb36 := NB487_480.out
          have hnc36 := NB480_487.out
          have hnb37 := NB487_481.out
          have hnc37 := NB481_487.out
          have hcz38_0 : wr.cell? ⟨gb487, 0, none⟩ = some (.int .i64 t483) := (blk_cell BK487.out 0).trans rfl
          have hcz38_1 : wr.cell? ⟨gb487, 1, none⟩ = some (u488001) := (blk_cell BK487.out 1).trans rfl
          have hfz38_0 := blk_frozen BK487.out 0
          have hfz38_1 := blk_frozen BK487.out 1
          obtain ⟨Ao39, co39, eo39⟩ := Kd.R_slice HO_488001.out
          subst eo39
          have hnb40 := NB481_479.out
          have hnc40 := NB479_481.out
          have hnb41 := NB481_480.out
          have hnc41 := NB480_481.out
          have hcz42_0 : wr.cell? ⟨gb481, 0, none⟩ = some (.int .i64 0) := (blk_cell BK481.out 0).trans rfl
          have hcz42_1 : wr.cell? ⟨gb481, 1, none⟩ = some (.slice none 0 0) := (blk_cell BK481.out 1).trans rfl
          have hfz42_0 := blk_frozen BK481.out 0
          have hfz42_1 := blk_frozen BK481.out 1
          go_wp2
          refine bodyPost_ret (results_ct rfl _ _ gb481 24 #[.int .i64 t483, .slice Ao39 x488001_1.length co39] (0, 0) _ rfl (by (with_reducible repeat (first | refine blk_drewN ?_ _ | refine blk_drew ?_ | refine blk_alloc ?_ _)); refine blk_put (cs := #[.int .i64 t483, .slice none 0 0]) ?_ 1 _ rfl; (with_reducible repeat (first | refine blk_drewN ?_ _ | refine blk_drew ?_ | refine blk_alloc ?_ _)); refine blk_put (cs := #[.int .i64 0, .slice none 0 0]) ?_ 0 _ rfl; (with_reducible repeat (first | refine blk_drewN ?_ _ | refine blk_drew ?_ | refine blk_alloc ?_ _)); exact BK481.out) Tryd.underlying24 rfl (by kernel_rfl)) rfl ?_
          exact ⟨_, by first | rfl | (simp [errW_none, errW_some] <;> rfl) | (simp [*, errW_none, errW_some] <;> rfl), by (with_reducible repeat (first | apply Kd.R_alloc | apply Kd.R_drewN | apply Kd.R_drew)); exact Kd.R_mono (Kd.R_far (p := ⟨gb481, 1, none⟩) (Kd.R_far (p := ⟨gb481, 0, none⟩) (Kd.R_types HO_488001.out BK481.out (by decide)) (fun _ hk => hk.2) (.int .i64 t483)) (fun _ hk => hk.2) (.slice Ao39 x488001_1.length co39)) (fun _ hk => trivial), by repeat (first | (with_reducible first | exact HB.out | apply below_alloc | apply pw_below_drewN | apply below_drew1 | refine below_set ?_ GE479.out | refine below_set ?_ GE480.out | refine below_set ?_ GE481.out | refine below_set ?_ GE487.out) | exact HB.out)⟩
  · rw [if_neg c4] at H
    have c4b0 : (t482 == 0) = false := beq_eq_false_iff_ne.mpr c4
    have c4b1 : (t482 != 0) = true := bne_iff_ne.mpr c4
    simp only [Option.some.injEq, Prod.mk.injEq] at H
    obtain ⟨rfl, rfl, rfl⟩ := H
    go_enter Tryd.func36, Tryd.ntmps36
    go_wp2_with (first | ((with_reducible refine gate_dst (N := 2) rfl ?_); refine box_event ?hg (N := 2) ?hd (cs := #[.int .i64 a0_0, .slice A0_1 l0_1.length c0_1]) (t := 24) ?hr ?_; (case hd => rfl); (case hg => rfl); (case hr => first | (go_simp; done) | (go_simp; rfl)); intro gb479 hg w43 hbox hb; have n0_ := Aside0.mk (below_step (by repeat (first | (with_reducible first | exact HB.out | apply below_alloc | apply pw_below_drewN | apply below_drew1) | exact HB.out)) hb); have n1_ := Aside0.mk (hbox); have n2_ := Aside0.mk ((by rw [hg]; exact (below_size (by repeat (first | (with_reducible first | exact HB.out | apply below_alloc | apply pw_below_drewN | apply below_drew1) | exact HB.out))) : w.heap.size ≤ gb479)); have n3_ := Aside0.mk ((by rw [hg]; exact (below_size (by repeat (first | (with_reducible first | exact HB.out | apply below_alloc | apply pw_below_drewN | apply below_drew1) | exact HB.out))) : w.heap.size ≤ gb479)); clear HB; have HB := n0_; have BK479 := n1_; have GW479 := n2_; have GE479 := n3_; clear n0_ n1_ n2_ n3_; clear hb hbox hg) | ((with_reducible refine gate_dst (N := 3) rfl ?_); refine box_event ?hg (N := 3) ?hd (cs := #[.int .i64 a1_0, .slice A1_1 l1_1.length c1_1]) (t := 24) ?hr ?_; (case hd => rfl); (case hg => rfl); (case hr => first | (go_simp; done) | (go_simp; rfl)); intro gb480 hg w44 hbox hb; have n0_ := Aside0.mk (blk_below (g := gb479) (o := .cells #[.int .i64 a0_0, .slice A0_1 l0_1.length c0_1] 24 (0, 0)) (by (with_reducible repeat (first | refine blk_drewN ?_ _ | refine blk_drew ?_ | refine blk_alloc ?_ _)); exact BK479.out) hb); have n1_ := Aside0.mk (below_step (by repeat (first | (with_reducible first | exact HB.out | apply below_alloc | apply pw_below_drewN | apply below_drew1 | refine below_set ?_ GE479.out) | exact HB.out)) hb); have n2_ := Aside0.mk (hbox); have n3_ := Aside0.mk ((by rw [hg]; exact (below_size (by repeat (first | (with_reducible first | exact HB.out | apply below_alloc | apply pw_below_drewN | apply below_drew1 | refine below_set ?_ GE479.out) | exact HB.out))) : w.heap.size ≤ gb480)); have n4_ := Aside0.mk ((by rw [hg]; exact (below_size (by repeat (first | (with_reducible first | exact HB.out | apply below_alloc | apply pw_below_drewN | apply below_drew1 | refine below_set ?_ GE479.out) | exact HB.out))) : w.heap.size ≤ gb480)); have n5_ := Aside0.mk ((by rw [hg]; exact Nat.ne_of_lt (blk_lt (g := gb479) (o := .cells #[.int .i64 a0_0, .slice A0_1 l0_1.length c0_1] 24 (0, 0)) (by (with_reducible repeat (first | refine blk_drewN ?_ _ | refine blk_drew ?_ | refine blk_alloc ?_ _)); exact BK479.out)) : gb479 ≠ gb480)); have n6_ := Aside0.mk ((by rw [hg]; exact Nat.ne_of_gt (blk_lt (g := gb479) (o := .cells #[.int .i64 a0_0, .slice A0_1 l0_1.length c0_1] 24 (0, 0)) (by (with_reducible repeat (first | refine blk_drewN ?_ _ | refine blk_drew ?_ | refine blk_alloc ?_ _)); exact BK479.out)) : gb480 ≠ gb479)); clear BK479; clear HB; have BK479 := n0_; have HB := n1_; have BK480 := n2_; have GW480 := n3_; have GE480 := n4_; have NB479_480 := n5_; have NB480_479 := n6_; clear n0_ n1_ n2_ n3_ n4_ n5_ n6_; clear hb hbox hg) | ((with_reducible refine gate_dst (N := 4) rfl ?_); refine box_event ?hg (N := 4) ?hd (cs := #[.int .i64 0, .slice none 0 0]) (t := 24) ?hr ?_; (case hd => rfl); (case hg => rfl); (case hr => first | (go_simp; done) | (go_simp; rfl)); intro gb481 hg w45 hbox hb; have n0_ := Aside0.mk (blk_below (g := gb479) (o := .cells #[.int .i64 a0_0, .slice A0_1 l0_1.length c0_1] 24 (0, 0)) (by (with_reducible repeat (first | refine blk_drewN ?_ _ | refine blk_drew ?_ | refine blk_alloc ?_ _)); exact BK479.out) hb); have n1_ := Aside0.mk (blk_below (g := gb480) (o := .cells #[.int .i64 a1_0, .slice A1_1 l1_1.length c1_1] 24 (0, 0)) (by (with_reducible repeat (first | refine blk_drewN ?_ _ | refine blk_drew ?_ | refine blk_alloc ?_ _)); exact BK480.out) hb); have n2_ := Aside0.mk (below_step (by repeat (first | (with_reducible first | exact HB.out | apply below_alloc | apply pw_below_drewN | apply below_drew1 | refine below_set ?_ GE479.out | refine below_set ?_ GE480.out) | exact HB.out)) hb); have n3_ := Aside0.mk (hbox); have n4_ := Aside0.mk ((by rw [hg]; exact (below_size (by repeat (first | (with_reducible first | exact HB.out | apply below_alloc | apply pw_below_drewN | apply below_drew1 | refine below_set ?_ GE479.out | refine below_set ?_ GE480.out) | exact HB.out))) : w.heap.size ≤ gb481)); have n5_ := Aside0.mk ((by rw [hg]; exact (below_size (by repeat (first | (with_reducible first | exact HB.out | apply below_alloc | apply pw_below_drewN | apply below_drew1 | refine below_set ?_ GE479.out | refine below_set ?_ GE480.out) | exact HB.out))) : w.heap.size ≤ gb481)); have n6_ := Aside0.mk ((by rw [hg]; exact Nat.ne_of_lt (blk_lt (g := gb479) (o := .cells #[.int .i64 a0_0, .slice A0_1 l0_1.length c0_1] 24 (0, 0)) (by (with_reducible repeat (first | refine blk_drewN ?_ _ | refine blk_drew ?_ | refine blk_alloc ?_ _)); exact BK479.out)) : gb479 ≠ gb481)); have n7_ := Aside0.mk ((by rw [hg]; exact Nat.ne_of_gt (blk_lt (g := gb479) (o := .cells #[.int .i64 a0_0, .slice A0_1 l0_1.length c0_1] 24 (0, 0)) (by (with_reducible repeat (first | refine blk_drewN ?_ _ | refine blk_drew ?_ | refine blk_alloc ?_ _)); exact BK479.out)) : gb481 ≠ gb479)); have n8_ := Aside0.mk ((by rw [hg]; exact Nat.ne_of_lt (blk_lt (g := gb480) (o := .cells #[.int .i64 a1_0, .slice A1_1 l1_1.length c1_1] 24 (0, 0)) (by (with_reducible repeat (first | refine blk_drewN ?_ _ | refine blk_drew ?_ | refine blk_alloc ?_ _)); exact BK480.out)) : gb480 ≠ gb481)); have n9_ := Aside0.mk ((by rw [hg]; exact Nat.ne_of_gt (blk_lt (g := gb480) (o := .cells #[.int .i64 a1_0, .slice A1_1 l1_1.length c1_1] 24 (0, 0)) (by (with_reducible repeat (first | refine blk_drewN ?_ _ | refine blk_drew ?_ | refine blk_alloc ?_ _)); exact BK480.out)) : gb481 ≠ gb480)); clear BK479; clear BK480; clear HB; have BK479 := n0_; have BK480 := n1_; have HB := n2_; have BK481 := n3_; have GW481 := n4_; have GE481 := n5_; have NB479_481 := n6_; have NB481_479 := n7_; have NB480_481 := n8_; have NB481_480 := n9_; clear n0_ n1_ n2_ n3_ n4_ n5_ n6_ n7_ n8_ n9_; clear hb hbox hg; have hnb46 := NB479_480.out; have hnc46 := NB480_479.out; have hnb47 := NB479_481.out; have hnc47 := NB481_479.out; have hcz48_0 : w45.cell? ⟨gb479, 0, none⟩ = some (.int .i64 a0_0) := (blk_cell BK479.out 0).trans rfl; have hcz48_1 : w45.cell? ⟨gb479, 1, none⟩ = some (.slice A0_1 l0_1.length c0_1) := (blk_cell BK479.out 1).trans rfl; have hfz48_0 := blk_frozen BK479.out 0; have hfz48_1 := blk_frozen BK479.out 1; have hnb49 := NB480_481.out; have hnc49 := NB481_480.out; have hcz50_0 : w45.cell? ⟨gb480, 0, none⟩ = some (.int .i64 a1_0) := (blk_cell BK480.out 0).trans rfl; have hcz50_1 : w45.cell? ⟨gb480, 1, none⟩ = some (.slice A1_1 l1_1.length c1_1) := (blk_cell BK480.out 1).trans rfl; have hfz50_0 := blk_frozen BK480.out 0; have hfz50_1 := blk_frozen BK480.out 1) | ((with_reducible refine gate_callee (f := 49) rfl ?_); refine goesL_ (some 11) rfl rfl Tryd.func49 (by kernel_rfl) rfl #[.agg #[.int .i64 a0_0, .slice A0_1 l0_1.length c0_1], .agg #[.int .i64 a1_0, .slice A1_1 l1_1.length c1_1]] rfl (by (try simp only [List.map_toArray, List.map_cons, List.map_nil]); first | done | rfl | (simp only [List.length_drop, List.length_take]; rfl)) ?_; (with_reducible refine (r02both.calls k a0_0 _ _ l0_1 a1_0 _ _ l1_1 t482 _ ?side1 ?side2 ?side3 ?side4 A3.out).mono ?_); (case side1 => repeat (first | exact (Kd.C_below HR0_1.out HB.out) | (with_reducible refine Kd.C_alloc ?_ _) | (with_reducible refine Kd.C_drewN ?_ _) | (with_reducible refine Kd.C_drew ?_))); (case side2 => exact HC0_1.out); (case side3 => repeat (first | exact (Kd.C_below HR1_1.out HB.out) | (with_reducible refine Kd.C_alloc ?_ _) | (with_reducible refine Kd.C_drewN ?_ _) | (with_reducible refine Kd.C_drew ?_))); (case side4 => exact HC1_1.out); rintro e w51 ⟨rfl, hb⟩; refine ⟨_, rfl, ?_⟩; have n0_ := Aside0.mk (blk_below (g := gb479) (o := .cells #[.int .i64 a0_0, .slice A0_1 l0_1.length c0_1] 24 (0, 0)) (by (with_reducible repeat (first | refine blk_drewN ?_ _ | refine blk_drew ?_ | refine blk_alloc ?_ _)); exact BK479.out) hb); have n1_ := Aside0.mk (blk_below (g := gb480) (o := .cells #[.int .i64 a1_0, .slice A1_1 l1_1.length c1_1] 24 (0, 0)) (by (with_reducible repeat (first | refine blk_drewN ?_ _ | refine blk_drew ?_ | refine blk_alloc ?_ _)); exact BK480.out) hb); have n2_ := Aside0.mk (blk_below (g := gb481) (o := .cells #[.int .i64 0, .slice none 0 0] 24 (0, 0)) (by (with_reducible repeat (first | refine blk_drewN ?_ _ | refine blk_drew ?_ | refine blk_alloc ?_ _)); exact BK481.out) hb); have n3_ := Aside0.mk (below_step (by repeat (first | (with_reducible first | exact HB.out | apply below_alloc | apply pw_below_drewN | apply below_drew1 | refine below_set ?_ GE479.out | refine below_set ?_ GE480.out | refine below_set ?_ GE481.out) | exact HB.out)) hb); clear BK479; clear BK480; clear BK481; clear HB; have BK479 := n0_; have BK480 := n1_; have BK481 := n2_; have HB := n3_; clear n0_ n1_ n2_ n3_; (try clear hb); (try clear hb2); (try clear hk); (try clear hi); have hcz52_0 : w51.cell? ⟨gb481, 0, none⟩ = some (.int .i64 0) := (blk_cell BK481.out 0).trans rfl; have hcz52_1 : w51.cell? ⟨gb481, 1, none⟩ = some (.slice none 0 0) := (blk_cell BK481.out 1).trans rfl; have hfz52_0 := blk_frozen BK481.out 0; have hfz52_1 := blk_frozen BK481.out 1))
    refine bodyPost_ret (results_ct rfl _ _ gb481 24 #[.int .i64 0, .slice none 0 0] (0, 0) _ rfl (by (with_reducible repeat (first | refine blk_drewN ?_ _ | refine blk_drew ?_ | refine blk_alloc ?_ _)); refine blk_put (cs := #[.int .i64 0, .slice none 0 0]) ?_ 1 _ rfl; (with_reducible repeat (first | refine blk_drewN ?_ _ | refine blk_drew ?_ | refine blk_alloc ?_ _)); refine blk_put (cs := #[.int .i64 0, .slice none 0 0]) ?_ 0 _ rfl; (with_reducible repeat (first | refine blk_drewN ?_ _ | refine blk_drew ?_ | refine blk_alloc ?_ _)); exact BK481.out) Tryd.underlying24 rfl (by kernel_rfl)) rfl ?_
    exact ⟨_, by first | rfl | (simp [errW_none, errW_some] <;> rfl) | (simp [*, errW_none, errW_some] <;> rfl), by first | exact Kd.R_nil _ _ _ _ _ | exact Kd.N_nil _ _ _ _ _ | exact Kd.V_nil _ _ _ _ _ | exact Kd.Q_nil _ _ _ _ _ | exact Kd.S_nil _ _ _ _ _, by repeat (first | (with_reducible first | exact HB.out | apply below_alloc | apply pw_below_drewN | apply below_drew1 | refine below_set ?_ GE479.out | refine below_set ?_ GE480.out | refine below_set ?_ GE481.out) | exact HB.out)⟩
end Go.Proofs.YthpldfjjdmjcoaaDoor.P

namespace Go.Proofs.YthpldfjjdmjcoaaDoor.P
open Go.RowKit Go.Proofs.YthpldfjjdmjcoaaDoorW.PrintWords Go.Proofs.YthpldfjjdmjcoaaDoorW.PrintLast Go.Proofs.YthpldfjjdmjcoaaDoorW.PrintMore
attribute [local go_sem] max2_int min2_int max_two min_two max_three min_three max_four min_four   -- for this text's walks alone
set_option linter.unusedVariables false
set_option linter.unusedSimpArgs false
def r02AndNot.l0 : Nat → Int → Int → List Int → Int → List Int → Int → List Int → Option (Int × List Int × Int)
  | 0, _, _, _, _, _, _, _ => none
  | k + 1, x8, x504000, x504001, x505000, x505001, x512000, x512001 => if x8 < (x512001.length : Int) then (if 0 ≤ x8 then (if x8 < (x504001.length : Int) then (if x8 < (x505001.length : Int) then (r02AndNot.l0 k (wrap64 (x8 + 1)) x504000 x504001 x505000 x505001 x512000 (x512001.set (x8 : Int).toNat (Go.bits .andNot .u64 (rd x504001 x8) (rd x505001 x8)))) else (none)) else (none)) else (none)) else (some (x512000, x512001, 0))
def r02AndNot.f (k : Nat) (a0_0 : Int) (l0_1 : List Int) (a1_0 : Int) (l1_1 : List Int) : Option (Int × List Int × Int) := (r02both.f k a0_0 l0_1 a1_0 l1_1).bind fun t506 => (if t506 = 0 then ((r02Copy.f a0_0 l0_1).bind fun bt507 => (r02AndNot.l0 k 0 a0_0 l0_1 a1_0 l1_1 bt507.1 bt507.2)) else (some (0, ([] : List Int), t506)))
def r02AndNot.T8 : Bool × List (List Nat × List Nat) := (true, [([], []), ([0], [0]), ([], []), ([], []), ([3], [3]), ([], []), ([4, 5], [4, 5]), ([6], [6]), ([], []), ([8], [8]), ([], []), ([9, 10], [9, 10]), ([11], [11]), ([7, 12], [7, 12]), ([1, 2, 0, 1, 2, 3, 4, 5, 6, 7, 8, 9, 10, 11, 12, 13], [1, 2]), ([14, 13, 0, 1, 2, 3, 4, 5, 6, 7, 8, 9, 10, 11, 12, 13], [13, 14])])
def r02AndNot.B8 : List Nat := [0, 1, 0, 0, 8, 0, 56, 120, 0, 256, 0, 1792, 3840, 8184, 16383, 32767]
theorem r02AndNot.tab8 : rtab .any (opsOf Tryd.f38 8) = r02AndNot.T8 := by kernel_rfl
theorem r02AndNot.bits8 : waitsOk r02AndNot.T8.2 r02AndNot.B8 = true := by kernel_rfl
set_option maxHeartbeats 8000000 in
set_option maxRecDepth 100000 in
theorem r02AndNot.calls (k : Nat) (a0_0 : Int) (A0_1 : Option Addr) (c0_1 : Nat) (l0_1 : List Int) (a1_0 : Int) (A1_1 : Option Addr) (c1_1 : Nat) (l1_1 : List Int) (r1 : Int) (r2 : List Int) (r3 : Int) (w : World) (hr0_1 : Kd.C (Kd.int .u64) w A0_1 l0_1.length l0_1) (hc0_1 : l0_1.length ≤ c0_1) (hr1_1 : Kd.C (Kd.int .u64) w A1_1 l1_1.length l1_1) (hc1_1 : l1_1.length ≤ c1_1) (h : r02AndNot.f k a0_0 l0_1 a1_0 l1_1 = some (r1, r2, r3)) :
    Calls Tryd.prog 38 #[.agg #[.int .i64 a0_0, .slice A0_1 l0_1.length c0_1], .agg #[.int .i64 a1_0, .slice A1_1 l1_1.length c1_1]] w fun e w' => ∃ v1_ : Value, e = .returned (.tuple #[.agg #[.int .i64 r1, v1_], .int .i64 r3]) ∧ Kd.R (Kd.int .u64) 55 w' w.heap.size (fun _ => True) v1_ r2 ∧ Below w.heap.size w w' := by
  have hu24 := Tryd.underlying24
  have HR0_1 := Aside0.mk hr0_1
  have HC0_1 := Aside0.mk hc0_1
  clear hr0_1 hc0_1
  have HR1_1 := Aside0.mk hr1_1
  have HC1_1 := Aside0.mk hc1_1
  clear hr1_1 hc1_1
  have HB := Aside0.mk (Below.refl w.heap.size w)
  have H : ((r02both.f k a0_0 l0_1 a1_0 l1_1).bind fun t506 => (if t506 = 0 then ((r02Copy.f a0_0 l0_1).bind fun bt507 => (r02AndNot.l0 k 0 a0_0 l0_1 a1_0 l1_1 bt507.1 bt507.2)) else (some (0, ([] : List Int), t506)))) = some (r1, r2, r3) := h
  clear h
  replace H := Option.bind_eq_some_iff.mp H
  obtain ⟨t506, A30, H⟩ := H
  replace H : (if t506 = 0 then ((r02Copy.f a0_0 l0_1).bind fun bt507 => (r02AndNot.l0 k 0 a0_0 l0_1 a1_0 l1_1 bt507.1 bt507.2)) else (some (0, ([] : List Int), t506))) = some (r1, r2, r3) := H
  have A3 := Aside0.mk A30
  clear A30
  by_cases c4 : t506 = 0
  · rw [if_pos c4] at H
    have c4b0 : (t506 == 0) = true := beq_iff_eq.mpr c4
    have c4b1 : (t506 != 0) = false := bne_eq_false_iff_eq.mpr c4
    clear c4
    replace H := Option.bind_eq_some_iff.mp H
    obtain ⟨⟨t507, t508⟩, A50, H⟩ := H
    replace H : (r02AndNot.l0 k 0 a0_0 l0_1 a1_0 l1_1 t507 t508) = some (r1, r2, r3) := H
    have A5 := Aside0.mk A50
    clear A50
    have H' := Aside0.mk H
    clear H
    go_enter Tryd.func38, Tryd.ntmps38
    go_wp2_with (first | ((with_reducible refine gate_dst (N := 2) rfl ?_); refine box_event ?hg (N := 2) ?hd (cs := #[.int .i64 a0_0, .slice A0_1 l0_1.length c0_1]) (t := 24) ?hr ?_; (case hd => rfl); (case hg => rfl); (case hr => first | (go_simp; done) | (go_simp; rfl)); intro gb503 hg w6 hbox hb; have n0_ := Aside0.mk (below_step (by repeat (first | (with_reducible first | exact HB.out | apply below_alloc | apply pw_below_drewN | apply below_drew1) | exact HB.out)) hb); have n1_ := Aside0.mk (hbox); have n2_ := Aside0.mk ((by rw [hg]; exact (below_size (by repeat (first | (with_reducible first | exact HB.out | apply below_alloc | apply pw_below_drewN | apply below_drew1) | exact HB.out))) : w.heap.size ≤ gb503)); have n3_ := Aside0.mk ((by rw [hg]; exact (below_size (by repeat (first | (with_reducible first | exact HB.out | apply below_alloc | apply pw_below_drewN | apply below_drew1) | exact HB.out))) : w.heap.size ≤ gb503)); clear HB; have HB := n0_; have BK503 := n1_; have GW503 := n2_; have GE503 := n3_; clear n0_ n1_ n2_ n3_; clear hb hbox hg) | ((with_reducible refine gate_dst (N := 3) rfl ?_); refine box_event ?hg (N := 3) ?hd (cs := #[.int .i64 a1_0, .slice A1_1 l1_1.length c1_1]) (t := 24) ?hr ?_; (case hd => rfl); (case hg => rfl); (case hr => first | (go_simp; done) | (go_simp; rfl)); intro gb504 hg w7 hbox hb; have n0_ := Aside0.mk (blk_below (g := gb503) (o := .cells #[.int .i64 a0_0, .slice A0_1 l0_1.length c0_1] 24 (0, 0)) (by (with_reducible repeat (first | refine blk_drewN ?_ _ | refine blk_drew ?_ | refine blk_alloc ?_ _)); exact BK503.out) hb); have n1_ := Aside0.mk (below_step (by repeat (first | (with_reducible first | exact HB.out | apply below_alloc | apply pw_below_drewN | apply below_drew1 | refine below_set ?_ GE503.out) | exact HB.out)) hb); have n2_ := Aside0.mk (hbox); have n3_ := Aside0.mk ((by rw [hg]; exact (below_size (by repeat (first | (with_reducible first | exact HB.out | apply below_alloc | apply pw_below_drewN | apply below_drew1 | refine below_set ?_ GE503.out) | exact HB.out))) : w.heap.size ≤ gb504)); have n4_ := Aside0.mk ((by rw [hg]; exact (below_size (by repeat (first | (with_reducible first | exact HB.out | apply below_alloc | apply pw_below_drewN | apply below_drew1 | refine below_set ?_ GE503.out) | exact HB.out))) : w.heap.size ≤ gb504)); have n5_ := Aside0.mk ((by rw [hg]; exact Nat.ne_of_lt (blk_lt (g := gb503) (o := .cells #[.int .i64 a0_0, .slice A0_1 l0_1.length c0_1] 24 (0, 0)) (by (with_reducible repeat (first | refine blk_drewN ?_ _ | refine blk_drew ?_ | refine blk_alloc ?_ _)); exact BK503.out)) : gb503 ≠ gb504)); have n6_ := Aside0.mk ((by rw [hg]; exact Nat.ne_of_gt (blk_lt (g := gb503) (o := .cells #[.int .i64 a0_0, .slice A0_1 l0_1.length c0_1] 24 (0, 0)) (by (with_reducible repeat (first | refine blk_drewN ?_ _ | refine blk_drew ?_ | refine blk_alloc ?_ _)); exact BK503.out)) : gb504 ≠ gb503)); clear BK503; clear HB; have BK503 := n0_; have HB := n1_; have BK504 := n2_; have GW504 := n3_; have GE504 := n4_; have NB503_504 := n5_; have NB504_503 := n6_; clear n0_ n1_ n2_ n3_ n4_ n5_ n6_; clear hb hbox hg) | ((with_reducible refine gate_dst (N := 4) rfl ?_); refine box_event ?hg (N := 4) ?hd (cs := #[.int .i64 0, .slice none 0 0]) (t := 24) ?hr ?_; (case hd => rfl); (case hg => rfl); (case hr => first | (go_simp; done) | (go_simp; rfl)); intro gb505 hg w8 hbox hb; have n0_ := Aside0.mk (blk_below (g := gb503) (o := .cells #[.int .i64 a0_0, .slice A0_1 l0_1.length c0_1] 24 (0, 0)) (by (with_reducible repeat (first | refine blk_drewN ?_ _ | refine blk_drew ?_ | refine blk_alloc ?_ _)); exact BK503.out) hb); have n1_ := Aside0.mk (blk_below (g := gb504) (o := .cells #[.int .i64 a1_0, .slice A1_1 l1_1.length c1_1] 24 (0, 0)) (by (with_reducible repeat (first | refine blk_drewN ?_ _ | refine blk_drew ?_ | refine blk_alloc ?_ _)); exact BK504.out) hb); have n2_ := Aside0.mk (below_step (by repeat (first | (with_reducible first | exact HB.out | apply below_alloc | apply pw_below_drewN | apply below_drew1 | refine below_set ?_ GE503.out | refine below_set ?_ GE504.out) | exact HB.out)) hb); have n3_ := Aside0.mk (hbox); have n4_ := Aside0.mk ((by rw [hg]; exact (below_size (by repeat (first | (with_reducible first | exact HB.out | apply below_alloc | apply pw_below_drewN | apply below_drew1 | refine below_set ?_ GE503.out | refine below_set ?_ GE504.out) | exact HB.out))) : w.heap.size ≤ gb505)); have n5_ := Aside0.mk ((by rw [hg]; exact (below_size (by repeat (first | (with_reducible first | exact HB.out | apply below_alloc | apply pw_below_drewN | apply below_drew1 | refine below_set ?_ GE503.out | refine below_set ?_ GE504.out) | exact HB.out))) : w.heap.size ≤ gb505)); have n6_ := Aside0.mk ((by rw [hg]; exact Nat.ne_of_lt (blk_lt (g := gb503) (o := .cells #[.int .i64 a0_0, .slice A0_1 l0_1.length c0_1] 24 (0, 0)) (by (with_reducible repeat (first | refine blk_drewN ?_ _ | refine blk_drew ?_ | refine blk_alloc ?_ _)); exact BK503.out)) : gb503 ≠ gb505)); have n7_ := Aside0.mk ((by rw [hg]; exact Nat.ne_of_gt (blk_lt (g := gb503) (o := .cells #[.int .i64 a0_0, .slice A0_1 l0_1.length c0_1] 24 (0, 0)) (by (with_reducible repeat (first | refine blk_drewN ?_ _ | refine blk_drew ?_ | refine blk_alloc ?_ _)); exact BK503.out)) : gb505 ≠ gb503)); have n8_ := Aside0.mk ((by rw [hg]; exact Nat.ne_of_lt (blk_lt (g := gb504) (o := .cells #[.int .i64 a1_0, .slice A1_1 l1_1.length c1_1] 24 (0, 0)) (by (with_reducible repeat (first | refine blk_drewN ?_ _ | refine blk_drew ?_ | refine blk_alloc ?_ _)); exact BK504.out)) : gb504 ≠ gb505)); have n9_ := Aside0.mk ((by rw [hg]; exact Nat.ne_of_gt (blk_lt (g := gb504) (o := .cells #[.int .i64 a1_0, .slice A1_1 l1_1.length c1_1] 24 (0, 0)) (by (with_reducible repeat (first | refine blk_drewN ?_ _ | refine blk_drew ?_ | refine blk_alloc ?_ _)); exact BK504.out)) : gb505 ≠ gb504)); clear BK503; clear BK504; clear HB; have BK503 := n0_; have BK504 := n1_; have HB := n2_; have BK505 := n3_; have GW505 := n4_; have GE505 := n5_; have NB503_505 := n6_; have NB505_503 := n7_; have NB504_505 := n8_; have NB505_504 := n9_; clear n0_ n1_ n2_ n3_ n4_ n5_ n6_ n7_ n8_ n9_; clear hb hbox hg; have hnb9 := NB503_504.out; have hnc9 := NB504_503.out; have hnb10 := NB503_505.out; have hnc10 := NB505_503.out; have hcz11_0 : w8.cell? ⟨gb503, 0, none⟩ = some (.int .i64 a0_0) := (blk_cell BK503.out 0).trans rfl; have hcz11_1 : w8.cell? ⟨gb503, 1, none⟩ = some (.slice A0_1 l0_1.length c0_1) := (blk_cell BK503.out 1).trans rfl; have hfz11_0 := blk_frozen BK503.out 0; have hfz11_1 := blk_frozen BK503.out 1; have hnb12 := NB504_505.out; have hnc12 := NB505_504.out; have hcz13_0 : w8.cell? ⟨gb504, 0, none⟩ = some (.int .i64 a1_0) := (blk_cell BK504.out 0).trans rfl; have hcz13_1 : w8.cell? ⟨gb504, 1, none⟩ = some (.slice A1_1 l1_1.length c1_1) := (blk_cell BK504.out 1).trans rfl; have hfz13_0 := blk_frozen BK504.out 0; have hfz13_1 := blk_frozen BK504.out 1) | ((with_reducible refine gate_callee (f := 49) rfl ?_); refine goesL_ (some 11) rfl rfl Tryd.func49 (by kernel_rfl) rfl #[.agg #[.int .i64 a0_0, .slice A0_1 l0_1.length c0_1], .agg #[.int .i64 a1_0, .slice A1_1 l1_1.length c1_1]] rfl (by (try simp only [List.map_toArray, List.map_cons, List.map_nil]); first | done | rfl | (simp only [List.length_drop, List.length_take]; rfl)) ?_; (with_reducible refine (r02both.calls k a0_0 _ _ l0_1 a1_0 _ _ l1_1 t506 _ ?side1 ?side2 ?side3 ?side4 A3.out).mono ?_); (case side1 => repeat (first | exact (Kd.C_below HR0_1.out HB.out) | (with_reducible refine Kd.C_alloc ?_ _) | (with_reducible refine Kd.C_drewN ?_ _) | (with_reducible refine Kd.C_drew ?_))); (case side2 => exact HC0_1.out); (case side3 => repeat (first | exact (Kd.C_below HR1_1.out HB.out) | (with_reducible refine Kd.C_alloc ?_ _) | (with_reducible refine Kd.C_drewN ?_ _) | (with_reducible refine Kd.C_drew ?_))); (case side4 => exact HC1_1.out); rintro e w14 ⟨rfl, hb⟩; refine ⟨_, rfl, ?_⟩; have n0_ := Aside0.mk (blk_below (g := gb503) (o := .cells #[.int .i64 a0_0, .slice A0_1 l0_1.length c0_1] 24 (0, 0)) (by (with_reducible repeat (first | refine blk_drewN ?_ _ | refine blk_drew ?_ | refine blk_alloc ?_ _)); exact BK503.out) hb); have n1_ := Aside0.mk (blk_below (g := gb504) (o := .cells #[.int .i64 a1_0, .slice A1_1 l1_1.length c1_1] 24 (0, 0)) (by (with_reducible repeat (first | refine blk_drewN ?_ _ | refine blk_drew ?_ | refine blk_alloc ?_ _)); exact BK504.out) hb); have n2_ := Aside0.mk (blk_below (g := gb505) (o := .cells #[.int .i64 0, .slice none 0 0] 24 (0, 0)) (by (with_reducible repeat (first | refine blk_drewN ?_ _ | refine blk_drew ?_ | refine blk_alloc ?_ _)); exact BK505.out) hb); have n3_ := Aside0.mk (below_step (by repeat (first | (with_reducible first | exact HB.out | apply below_alloc | apply pw_below_drewN | apply below_drew1 | refine below_set ?_ GE503.out | refine below_set ?_ GE504.out | refine below_set ?_ GE505.out) | exact HB.out)) hb); clear BK503; clear BK504; clear BK505; clear HB; have BK503 := n0_; have BK504 := n1_; have BK505 := n2_; have HB := n3_; clear n0_ n1_ n2_ n3_; (try clear hb); (try clear hb2); (try clear hk); (try clear hi); have hcz15_0 : w14.cell? ⟨gb503, 0, none⟩ = some (.int .i64 a0_0) := (blk_cell BK503.out 0).trans rfl; have hcz15_1 : w14.cell? ⟨gb503, 1, none⟩ = some (.slice A0_1 l0_1.length c0_1) := (blk_cell BK503.out 1).trans rfl; have hfz15_0 := blk_frozen BK503.out 0; have hfz15_1 := blk_frozen BK503.out 1) | ((with_reducible refine gate_callee (f := 50) rfl ?_); refine goesL_ (some 17) rfl rfl Tryd.func50 (by kernel_rfl) rfl #[.agg #[.int .i64 a0_0, .slice A0_1 l0_1.length c0_1]] rfl (by (try simp only [List.map_toArray, List.map_cons, List.map_nil]); first | done | rfl | (simp only [List.length_drop, List.length_take]; rfl)) ?_; (with_reducible refine (r02Copy.calls a0_0 _ _ l0_1 t507 t508 _ ?side1 ?side2 A5.out).mono ?_); (case side1 => repeat (first | exact (Kd.C_below HR0_1.out HB.out) | (with_reducible refine Kd.C_alloc ?_ _) | (with_reducible refine Kd.C_drewN ?_ _) | (with_reducible refine Kd.C_drew ?_))); (case side2 => exact HC0_1.out); rintro e w16 ⟨v509, rfl, ho0, hb⟩; refine ⟨_, rfl, ?_⟩; have n0_ := Aside0.mk (Kd.R_lower ho0 (below_size (by repeat (first | (with_reducible first | exact HB.out | apply below_alloc | apply pw_below_drewN | apply below_drew1 | refine below_set ?_ GE503.out | refine below_set ?_ GE504.out | refine below_set ?_ GE505.out) | exact HB.out)))); have n1_ := Aside0.mk (blk_below (g := gb503) (o := .cells #[.int .i64 a0_0, .slice A0_1 l0_1.length c0_1] 24 (0, 0)) (by (with_reducible repeat (first | refine blk_drewN ?_ _ | refine blk_drew ?_ | refine blk_alloc ?_ _)); exact BK503.out) hb); have n2_ := Aside0.mk (blk_below (g := gb504) (o := .cells #[.int .i64 a1_0, .slice A1_1 l1_1.length c1_1] 24 (0, 0)) (by (with_reducible repeat (first | refine blk_drewN ?_ _ | refine blk_drew ?_ | refine blk_alloc ?_ _)); exact BK504.out) hb); have n3_ := Aside0.mk (blk_below (g := gb505) (o := .cells #[.int .i64 0, .slice none 0 0] 24 (0, 0)) (by (with_reducible repeat (first | refine blk_drewN ?_ _ | refine blk_drew ?_ | refine blk_alloc ?_ _)); exact BK505.out) hb); have n4_ := Aside0.mk (below_step (by repeat (first | (with_reducible first | exact HB.out | apply below_alloc | apply pw_below_drewN | apply below_drew1 | refine below_set ?_ GE503.out | refine below_set ?_ GE504.out | refine below_set ?_ GE505.out) | exact HB.out)) hb); clear BK503; clear BK504; clear BK505; clear HB; have HO510 := n0_; have BK503 := n1_; have BK504 := n2_; have BK505 := n3_; have HB := n4_; clear n0_ n1_ n2_ n3_ n4_; (try clear hb); (try clear hb2); (try clear hk); (try clear hi); (try clear ho0)) | ((with_reducible refine gate_dst (N := 7) rfl ?_); refine box_event ?hg (N := 7) ?hd (cs := #[.int .i64 0, .slice none 0 0]) (t := 24) ?hr ?_; (case hd => rfl); (case hg => rfl); (case hr => first | (go_simp; done) | (go_simp; rfl)); intro gb511 hg w17 hbox hb; have n0_ := Aside0.mk (Kd.R_below (by (with_reducible repeat (first | apply Kd.R_alloc | apply Kd.R_drewN | apply Kd.R_drew)); exact HO510.out) hb); have n1_ := Aside0.mk (blk_below (g := gb503) (o := .cells #[.int .i64 a0_0, .slice A0_1 l0_1.length c0_1] 24 (0, 0)) (by (with_reducible repeat (first | refine blk_drewN ?_ _ | refine blk_drew ?_ | refine blk_alloc ?_ _)); exact BK503.out) hb); have n2_ := Aside0.mk (blk_below (g := gb504) (o := .cells #[.int .i64 a1_0, .slice A1_1 l1_1.length c1_1] 24 (0, 0)) (by (with_reducible repeat (first | refine blk_drewN ?_ _ | refine blk_drew ?_ | refine blk_alloc ?_ _)); exact BK504.out) hb); have n3_ := Aside0.mk (blk_below (g := gb505) (o := .cells #[.int .i64 0, .slice none 0 0] 24 (0, 0)) (by (with_reducible repeat (first | refine blk_drewN ?_ _ | refine blk_drew ?_ | refine blk_alloc ?_ _)); exact BK505.out) hb); have n4_ := Aside0.mk (below_step (by repeat (first | (with_reducible first | exact HB.out | apply below_alloc | apply pw_below_drewN | apply below_drew1 | refine below_set ?_ GE503.out | refine below_set ?_ GE504.out | refine below_set ?_ GE505.out) | exact HB.out)) hb); have n5_ := Aside0.mk (hbox); have n6_ := Aside0.mk ((by rw [hg]; exact (below_size (by repeat (first | (with_reducible first | exact HB.out | apply below_alloc | apply pw_below_drewN | apply below_drew1 | refine below_set ?_ GE503.out | refine below_set ?_ GE504.out | refine below_set ?_ GE505.out) | exact HB.out))) : w.heap.size ≤ gb511)); have n7_ := Aside0.mk ((by rw [hg]; exact (below_size (by repeat (first | (with_reducible first | exact HB.out | apply below_alloc | apply pw_below_drewN | apply below_drew1 | refine below_set ?_ GE503.out | refine below_set ?_ GE504.out | refine below_set ?_ GE505.out) | exact HB.out))) : w.heap.size ≤ gb511)); have n8_ := Aside0.mk ((by rw [hg]; exact Nat.ne_of_lt (blk_lt (g := gb503) (o := .cells #[.int .i64 a0_0, .slice A0_1 l0_1.length c0_1] 24 (0, 0)) (by (with_reducible repeat (first | refine blk_drewN ?_ _ | refine blk_drew ?_ | refine blk_alloc ?_ _)); exact BK503.out)) : gb503 ≠ gb511)); have n9_ := Aside0.mk ((by rw [hg]; exact Nat.ne_of_gt (blk_lt (g := gb503) (o := .cells #[.int .i64 a0_0, .slice A0_1 l0_1.length c0_1] 24 (0, 0)) (by (with_reducible repeat (first | refine blk_drewN ?_ _ | refine blk_drew ?_ | refine blk_alloc ?_ _)); exact BK503.out)) : gb511 ≠ gb503)); have n10_ := Aside0.mk ((by rw [hg]; exact Nat.ne_of_lt (blk_lt (g := gb504) (o := .cells #[.int .i64 a1_0, .slice A1_1 l1_1.length c1_1] 24 (0, 0)) (by (with_reducible repeat (first | refine blk_drewN ?_ _ | refine blk_drew ?_ | refine blk_alloc ?_ _)); exact BK504.out)) : gb504 ≠ gb511)); have n11_ := Aside0.mk ((by rw [hg]; exact Nat.ne_of_gt (blk_lt (g := gb504) (o := .cells #[.int .i64 a1_0, .slice A1_1 l1_1.length c1_1] 24 (0, 0)) (by (with_reducible repeat (first | refine blk_drewN ?_ _ | refine blk_drew ?_ | refine blk_alloc ?_ _)); exact BK504.out)) : gb511 ≠ gb504)); have n12_ := Aside0.mk ((by rw [hg]; exact Nat.ne_of_lt (blk_lt (g := gb505) (o := .cells #[.int .i64 0, .slice none 0 0] 24 (0, 0)) (by (with_reducible repeat (first | refine blk_drewN ?_ _ | refine blk_drew ?_ | refine blk_alloc ?_ _)); exact BK505.out)) : gb505 ≠ gb511)); have n13_ := Aside0.mk ((by rw [hg]; exact Nat.ne_of_gt (blk_lt (g := gb505) (o := .cells #[.int .i64 0, .slice none 0 0] 24 (0, 0)) (by (with_reducible repeat (first | refine blk_drewN ?_ _ | refine blk_drew ?_ | refine blk_alloc ?_ _)); exact BK505.out)) : gb511 ≠ gb505)); clear HO510; clear BK503; clear BK504; clear BK505; clear HB; have HO510 := n0_; have BK503 := n1_; have BK504 := n2_; have BK505 := n3_; have HB := n4_; have BK511 := n5_; have GW511 := n6_; have GE511 := n7_; have NB503_511 := n8_; have NB511_503 := n9_; have NB504_511 := n10_; have NB511_504 := n11_; have NB505_511 := n12_; have NB511_505 := n13_; clear n0_ n1_ n2_ n3_ n4_ n5_ n6_ n7_ n8_ n9_ n10_ n11_ n12_ n13_; clear hb hbox hg; have hnb18 := NB511_503.out; have hnc18 := NB503_511.out; have hnb19 := NB511_504.out; have hnc19 := NB504_511.out; have hnb20 := NB511_505.out; have hnc20 := NB505_511.out; have hcz21_0 : w17.cell? ⟨gb511, 0, none⟩ = some (.int .i64 0) := (blk_cell BK511.out 0).trans rfl; have hcz21_1 : w17.cell? ⟨gb511, 1, none⟩ = some (.slice none 0 0) := (blk_cell BK511.out 1).trans rfl; have hfz21_0 := blk_frozen BK511.out 0; have hfz21_1 := blk_frozen BK511.out 1; obtain ⟨Ao22, co22, eo22⟩ := Kd.R_slice HO510.out; subst eo22))
    go_loopg [8] k (fun kq v8 w' => ∃ (x8_1 : Int) (x512001_1 : List Int) (u512001 : Value), v8 = .int .i64 x8_1 ∧ Aside0 (r02AndNot.l0 kq x8_1 a0_0 l0_1 a1_0 l1_1 t507 x512001_1 = some (r1, r2, r3)) ∧ Aside0 (kq ≤ k) ∧ Aside0 (Kd.R (Kd.int .u64) 55 w' w.heap.size (fun _ => True) u512001 x512001_1) ∧ Aside0 (w'.heap[gb503]? = some (.cells #[.int .i64 a0_0, (.slice A0_1 l0_1.length c0_1)] 24 (0, 0))) ∧ Aside0 (w'.heap[gb504]? = some (.cells #[.int .i64 a1_0, (.slice A1_1 l1_1.length c1_1)] 24 (0, 0))) ∧ Aside0 (w'.heap[gb505]? = some (.cells #[.int .i64 0, (.slice none 0 0)] 24 (0, 0))) ∧ Aside0 (w'.heap[gb511]? = some (.cells #[.int .i64 t507, u512001] 24 (0, 0))) ∧ Aside0 (Below w.heap.size w w'))
    case atStart => exact ⟨(0), (t508), (.slice Ao22 t508.length co22), (by first | rfl | (simp; done) | (simp [*]; done)), H', ⟨Nat.le_refl _⟩, ⟨by (with_reducible repeat (first | apply Kd.R_alloc | apply Kd.R_drewN | apply Kd.R_drew)); exact Kd.R_mono (Kd.R_far (p := ⟨gb511, 1, none⟩) (Kd.R_far (p := ⟨gb511, 0, none⟩) (Kd.R_types HO510.out BK511.out (by decide)) (fun _ hk => hk.2) (.int .i64 t507)) (fun _ hk => hk.2) (.slice Ao22 t508.length co22)) (fun _ hk => trivial)⟩, ⟨by (with_reducible repeat (first | refine blk_drewN ?_ _ | refine blk_drew ?_ | refine blk_alloc ?_ _)); refine blk_far ?_ NB503_511.out _; (with_reducible repeat (first | refine blk_drewN ?_ _ | refine blk_drew ?_ | refine blk_alloc ?_ _)); refine blk_far ?_ NB503_511.out _; (with_reducible repeat (first | refine blk_drewN ?_ _ | refine blk_drew ?_ | refine blk_alloc ?_ _)); exact BK503.out⟩, ⟨by (with_reducible repeat (first | refine blk_drewN ?_ _ | refine blk_drew ?_ | refine blk_alloc ?_ _)); refine blk_far ?_ NB504_511.out _; (with_reducible repeat (first | refine blk_drewN ?_ _ | refine blk_drew ?_ | refine blk_alloc ?_ _)); refine blk_far ?_ NB504_511.out _; (with_reducible repeat (first | refine blk_drewN ?_ _ | refine blk_drew ?_ | refine blk_alloc ?_ _)); exact BK504.out⟩, ⟨by (with_reducible repeat (first | refine blk_drewN ?_ _ | refine blk_drew ?_ | refine blk_alloc ?_ _)); refine blk_far ?_ NB505_511.out _; (with_reducible repeat (first | refine blk_drewN ?_ _ | refine blk_drew ?_ | refine blk_alloc ?_ _)); refine blk_far ?_ NB505_511.out _; (with_reducible repeat (first | refine blk_drewN ?_ _ | refine blk_drew ?_ | refine blk_alloc ?_ _)); exact BK505.out⟩, ⟨by (with_reducible repeat (first | refine blk_drewN ?_ _ | refine blk_drew ?_ | refine blk_alloc ?_ _)); refine blk_put (cs := #[.int .i64 t507, .slice none 0 0]) ?_ 1 _ rfl; (with_reducible repeat (first | refine blk_drewN ?_ _ | refine blk_drew ?_ | refine blk_alloc ?_ _)); refine blk_put (cs := #[.int .i64 0, .slice none 0 0]) ?_ 0 _ rfl; (with_reducible repeat (first | refine blk_drewN ?_ _ | refine blk_drew ?_ | refine blk_alloc ?_ _)); exact BK511.out⟩, ⟨by repeat (first | (with_reducible first | exact HB.out | apply below_alloc | apply pw_below_drewN | apply below_drew1 | refine below_set ?_ GE503.out | refine below_set ?_ GE504.out | refine below_set ?_ GE505.out | refine below_set ?_ GE511.out) | exact HB.out)⟩⟩
    case round =>
      clear H'
      try clear c1
      try clear c2
      try clear p2
      try clear c3
      try clear c4
      try clear c4b0
      try clear c4b1
      try clear c5
      try clear c9
      try clear c10
      try clear c12
      try clear c18
      try clear c19
      try clear c20
      try clear hcz11_0
      try clear hcz11_1
      try clear hcz13_0
      try clear hcz13_1
      try clear hcz15_0
      try clear hcz15_1
      try clear hcz21_0
      try clear hcz21_1
      try clear hfz11_0
      try clear hfz11_1
      try clear hfz13_0
      try clear hfz13_1
      try clear hfz15_0
      try clear hfz15_1
      try clear hfz21_0
      try clear hfz21_1
      obtain ⟨x8_1, x512001_1, u512001, rfl, HA, HK1, HO_512001, BK503, BK504, BK505, BK511, HB⟩ := hrel
      cases gk with
      | zero => exact absurd HA.out (by simp [r02AndNot.l0])
      | succ k1 =>
        have H := HA.out
        clear HA
        simp only [r02AndNot.l0] at H
        by_cases c23 : x8_1 < (x512001_1.length : Int)
        · rw [if_pos c23] at H
          have c23b0 : decide (x8_1 < (x512001_1.length : Int)) = true := decide_eq_true c23
          clear c23
          by_cases c24 : 0 ≤ x8_1
          · rw [if_pos c24] at H
            have c24b0 : decide (0 ≤ x8_1) = true := decide_eq_true c24
            clear c24
            by_cases c25 : x8_1 < (l0_1.length : Int)
            · rw [if_pos c25] at H
              have c25b0 : decide (x8_1 < (l0_1.length : Int)) = true := decide_eq_true c25
              clear c25
              by_cases c26 : x8_1 < (l1_1.length : Int)
              · rw [if_pos c26] at H
                have c26b0 : decide (x8_1 < (l1_1.length : Int)) = true := decide_eq_true c26
                clear c26
                obtain ⟨y514, hy514⟩ : ∃ y_ : List Int, y_ = (x512001_1.set (x8_1 : Int).toNat (Go.bits .andNot .u64 (rd l0_1 x8_1) (rd l1_1 x8_1))) := ⟨_, rfl⟩
                replace H : (r02AndNot.l0 k1 (wrap64 (x8_1 + 1)) a0_0 l0_1 a1_0 l1_1 t507 y514) = some (r1, r2, r3) := by first | (rw [hy514]; with_reducible exact H) | (have H2_ := (Option.bind_some _ _).symm.trans H; rw [hy514]; with_reducible exact H2_) | (have H2_ := (Option.bind_some _ _).symm.trans H; with_reducible exact H2_) | with_reducible exact H | (rw [hy514]; exact H) | exact H
                have Ny514 := Aside0.mk hy514
                clear hy514
                have H' := Aside0.mk H
                clear H
                have hnb28 := NB511_503.out
                have hnc28 := NB503_511.out
                have hnb29 := NB511_504.out
                have hnc29 := NB504_511.out
                have hnb30 := NB511_505.out
                have hnc30 := NB505_511.out
                have hcz31_0 : wr.cell? ⟨gb511, 0, none⟩ = some (.int .i64 t507) := (blk_cell BK511.out 0).trans rfl
                have hcz31_1 : wr.cell? ⟨gb511, 1, none⟩ = some (u512001) := (blk_cell BK511.out 1).trans rfl
                have hfz31_0 := blk_frozen BK511.out 0
                have hfz31_1 := blk_frozen BK511.out 1
                obtain ⟨Ao32, co32, eo32⟩ := Kd.R_slice HO_512001.out
                subst eo32
                try go_wp2
                have n0_ := Aside0.mk (Kd.R_drew HO_512001.out)
                have n1_ := Aside0.mk (blk_drew BK503.out)
                have n2_ := Aside0.mk (blk_drew BK504.out)
                have n3_ := Aside0.mk (blk_drew BK505.out)
                have n4_ := Aside0.mk (blk_drew BK511.out)
                have n5_ := Aside0.mk (below_drew1 HB.out)
                clear HO_512001
                clear BK503
                clear BK504
                clear BK505
                clear BK511
                clear HB
                have HO_512001 := n0_
                have BK503 := n1_
                have BK504 := n2_
                have BK505 := n3_
                have BK511 := n4_
                have HB := n5_
                clear n0_ n1_ n2_ n3_ n4_ n5_
                have p512 : 0 ≤ (x8_1 : Int) := of_decide_eq_true (by first | (with_reducible assumption) | assumption)
                have q512 : x8_1 < (l0_1.length : Int) := of_decide_eq_true (by first | (with_reducible assumption) | assumption)
                obtain ⟨ad512, e512, hx512_0⟩ := Kd.at_int HR0_1.out x8_1 p512 q512
                have hw512_0 := hx512_0
                cases e512
                replace hx512_0 := (HB.out.cell (World.block_lt_of_cell? w _ hx512_0)).trans hx512_0
                replace p512 := eq_true p512
                replace q512 := eq_true q512
                have p513 : 0 ≤ (x8_1 : Int) := of_decide_eq_true (by first | (with_reducible assumption) | assumption)
                have q513 : x8_1 < (l1_1.length : Int) := of_decide_eq_true (by first | (with_reducible assumption) | assumption)
                obtain ⟨ad513, e513, hx513_0⟩ := Kd.at_int HR1_1.out x8_1 p513 q513
                have hw513_0 := hx513_0
                cases e513
                replace hx513_0 := (HB.out.cell (World.block_lt_of_cell? w _ hx513_0)).trans hx513_0
                replace p513 := eq_true p513
                replace q513 := eq_true q513
                have p27 : 0 ≤ (x8_1 : Int) := of_decide_eq_true (by first | (with_reducible assumption) | assumption)
                have q27 : (x8_1 : Int) < ((x512001_1.length : Int) : Int) := of_decide_eq_true (by first | (with_reducible assumption) | assumption)
                obtain ⟨go27, co27, eo27, gb27, gl27, cl27, HG27⟩ := Kd.R_form HO_512001.out (by omega)
                (first | cases eo27 | (injection eo27 with ea_ en_ ec_; (first | subst ea_ | (injection ea_ with ea_; subst ea_)); subst ec_; clear en_))
                have GB27 := Aside0.mk gb27
                have GG27 := Aside0.mk HG27
                clear gb27 gl27 HG27
                obtain ⟨hx27_0, hf27_0⟩ := Kd.R_celln 0 HO_512001.out (x8_1 : Int) p27 q27
                replace p27 := eq_true p27
                replace q27 := eq_true q27
                have HP34 := Kd.R_putn HO_512001.out (x8_1 : Int) (Go.bits .andNot .u64 (rd l0_1 x8_1) (rd l1_1 x8_1))
                rw [← Ny514.out] at HP34
                have HQ34 := Aside0.mk HP34
                clear HP34
                refine start_ (n := 16) (S := fun w' => w'.cell? ⟨gb511, 0, none⟩ = some (.int .i64 t507) ∧ w'.cell? ⟨gb511, 1, none⟩ = some (.slice (some ⟨go27, 0, none⟩) x512001_1.length co32) ∧ w'.cell? ⟨gb503, 0, none⟩ = some (.int .i64 a0_0) ∧ w'.cell? ⟨gb503, 1, none⟩ = some (.slice (some ad512) l0_1.length c0_1) ∧ w'.cell? ⟨gb504, 0, none⟩ = some (.int .i64 a1_0) ∧ w'.cell? ⟨gb504, 1, none⟩ = some (.slice (some ad513) l1_1.length c1_1) ∧ w'.cell? (ad512.add (x8_1).toNat) = some (.int .u64 (rd l0_1 x8_1)) ∧ w'.cell? (ad513.add (x8_1).toNat) = some (.int .u64 (rd l1_1 x8_1))) (ds := [15]) #[false, false, false, false, false, false, false, false, false, false, false, false, false, false, false, false] (by kernel_rfl) rfl rfl ⟨(blk_cell BK511.out 0).trans rfl, (blk_cell BK511.out 1).trans rfl, (blk_cell BK503.out 0).trans rfl, (blk_cell BK503.out 1).trans rfl, (blk_cell BK504.out 0).trans rfl, (blk_cell BK504.out 1).trans rfl, ((HB.out.cell (World.block_lt_of_cell? w _ hw512_0)).trans hw512_0), ((HB.out.cell (World.block_lt_of_cell? w _ hw513_0)).trans hw513_0)⟩ (fun hHeld => ?_); refine with_tabW r02AndNot.tab8 r02AndNot.bits8 (fun HT_ HW_ => ?_)
                generalize wr.drew = w33 at HO_512001 BK503 BK504 BK505 BK511 HB GG27 HQ34 hf27_0 hx27_0 hx512_0 hx513_0 hHeld ⊢
                refine pure_ (i := 0) (N := some 25) (v := ?_) (a' := ?_) #[true, false, false, false, false, false, false, false, false, false, false, false, false, false, false, false] rfl rfl (any_of HT_.out (by kernel_rfl)) (fun _ _ _ h => h) (Or.inl ⟨by rfl, ?_⟩) ?_ ?_
                rotate_left
                · intro w'
                  go_simp
                  with_reducible rfl
                rotate_left
                · simp only [Act.put, List.setIfInBounds_toArray, List.set_cons_zero, List.set_cons_succ, i64_w, i32_w]
                  rfl
                refine pure_ (i := 2) (N := some 27) (v := ?_) (a' := ?_) #[true, false, true, false, false, false, false, false, false, false, false, false, false, false, false, false] rfl rfl (any_of HT_.out (by kernel_rfl)) (fun _ _ _ h => h) (Or.inl ⟨by rfl, ?_⟩) ?_ ?_
                rotate_left
                · intro w'
                  go_simp
                  with_reducible rfl
                rotate_left
                · simp only [Act.put, List.setIfInBounds_toArray, List.set_cons_zero, List.set_cons_succ, i64_w, i32_w]
                  rfl
                refine pure_ (i := 3) (N := some 28) (v := ?_) (a' := ?_) #[true, false, true, true, false, false, false, false, false, false, false, false, false, false, false, false] rfl rfl (any_of HT_.out (by kernel_rfl)) (fun _ _ _ h => h) (Or.inl ⟨by rfl, ?_⟩) ?_ ?_
                rotate_left
                · intro w'
                  go_simp
                  with_reducible rfl
                rotate_left
                · simp only [Act.put, List.setIfInBounds_toArray, List.set_cons_zero, List.set_cons_succ, i64_w, i32_w]
                  rfl
                refine pure_ (i := 5) (N := some 30) (v := ?_) (a' := ?_) #[true, false, true, true, false, true, false, false, false, false, false, false, false, false, false, false] rfl rfl (any_of HT_.out (by kernel_rfl)) (fun _ _ _ h => h) (Or.inl ⟨by rfl, ?_⟩) ?_ ?_
                rotate_left
                · intro w'
                  go_simp
                  with_reducible rfl
                rotate_left
                · simp only [Act.put, List.setIfInBounds_toArray, List.set_cons_zero, List.set_cons_succ, i64_w, i32_w]
                  rfl
                refine pure_ (i := 8) (N := some 33) (v := ?_) (a' := ?_) #[true, false, true, true, false, true, false, false, true, false, false, false, false, false, false, false] rfl rfl (any_of HT_.out (by kernel_rfl)) (fun _ _ _ h => h) (Or.inl ⟨by rfl, ?_⟩) ?_ ?_
                rotate_left
                · intro w'
                  go_simp
                  with_reducible rfl
                rotate_left
                · simp only [Act.put, List.setIfInBounds_toArray, List.set_cons_zero, List.set_cons_succ, i64_w, i32_w]
                  rfl
                refine pure_ (i := 10) (N := some 35) (v := ?_) (a' := ?_) #[true, false, true, true, false, true, false, false, true, false, true, false, false, false, false, false] rfl rfl (any_of HT_.out (by kernel_rfl)) (fun _ _ _ h => h) (Or.inl ⟨by rfl, ?_⟩) ?_ ?_
                rotate_left
                · intro w'
                  go_simp
                  with_reducible rfl
                rotate_left
                · simp only [Act.put, List.setIfInBounds_toArray, List.set_cons_zero, List.set_cons_succ, i64_w, i32_w]
                  rfl
                refine take_ (i := 1) (N := some 26) (v := ?_) (a' := ?_) #[true, true, true, true, false, true, false, false, true, false, true, false, false, false, false, false] rfl rfl (take_ofW HT_.out HW_.out (by kernel_rfl)) (fun _ _ _ h => h) (Or.inl ⟨by rfl, ?_⟩) hHeld ?_ ?_
                rotate_left
                · rintro w' ⟨s0, s1, s2, s3, s4, s5, s6, s7⟩
                  go_simp
                  with_reducible rfl
                rotate_left
                · simp only [Act.put, List.setIfInBounds_toArray, List.set_cons_zero, List.set_cons_succ, i64_w, i32_w]
                  rfl
                refine take_ (i := 4) (N := some 29) (v := ?_) (a' := ?_) #[true, true, true, true, true, true, false, false, true, false, true, false, false, false, false, false] rfl rfl (take_ofW HT_.out HW_.out (by kernel_rfl)) (fun _ _ _ h => h) (Or.inl ⟨by rfl, ?_⟩) hHeld ?_ ?_
                rotate_left
                · rintro w' ⟨s0, s1, s2, s3, s4, s5, s6, s7⟩
                  go_simp
                  with_reducible rfl
                rotate_left
                · simp only [Act.put, List.setIfInBounds_toArray, List.set_cons_zero, List.set_cons_succ, i64_w, i32_w]
                  rfl
                refine pure_ (i := 6) (N := some 31) (v := ?_) (a' := ?_) #[true, true, true, true, true, true, true, false, true, false, true, false, false, false, false, false] rfl rfl (any_of HT_.out (by kernel_rfl)) (fun _ _ _ h => h) (Or.inl ⟨by rfl, ?_⟩) ?_ ?_
                rotate_left
                · intro w'
                  go_simp
                  with_reducible rfl
                rotate_left
                · simp only [Act.put, List.setIfInBounds_toArray, List.set_cons_zero, List.set_cons_succ, i64_w, i32_w]
                  rfl
                refine take_ (i := 7) (N := some 32) (v := ?_) (a' := ?_) #[true, true, true, true, true, true, true, true, true, false, true, false, false, false, false, false] rfl rfl (take_ofW HT_.out HW_.out (by kernel_rfl)) (fun _ _ _ h => h) (Or.inl ⟨by rfl, ?_⟩) hHeld ?_ ?_
                rotate_left
                · rintro w' ⟨s0, s1, s2, s3, s4, s5, s6, s7⟩
                  go_simp
                  with_reducible rfl
                rotate_left
                · simp only [Act.put, List.setIfInBounds_toArray, List.set_cons_zero, List.set_cons_succ, i64_w, i32_w]
                  rfl
                refine take_ (i := 9) (N := some 34) (v := ?_) (a' := ?_) #[true, true, true, true, true, true, true, true, true, true, true, false, false, false, false, false] rfl rfl (take_ofW HT_.out HW_.out (by kernel_rfl)) (fun _ _ _ h => h) (Or.inl ⟨by rfl, ?_⟩) hHeld ?_ ?_
                rotate_left
                · rintro w' ⟨s0, s1, s2, s3, s4, s5, s6, s7⟩
                  go_simp
                  with_reducible rfl
                rotate_left
                · simp only [Act.put, List.setIfInBounds_toArray, List.set_cons_zero, List.set_cons_succ, i64_w, i32_w]
                  rfl
                refine pure_ (i := 11) (N := some 36) (v := ?_) (a' := ?_) #[true, true, true, true, true, true, true, true, true, true, true, true, false, false, false, false] rfl rfl (any_of HT_.out (by kernel_rfl)) (fun _ _ _ h => h) (Or.inl ⟨by rfl, ?_⟩) ?_ ?_
                rotate_left
                · intro w'
                  go_simp
                  with_reducible rfl
                rotate_left
                · simp only [Act.put, List.setIfInBounds_toArray, List.set_cons_zero, List.set_cons_succ, i64_w, i32_w]
                  rfl
                refine take_ (i := 12) (N := some 37) (v := ?_) (a' := ?_) #[true, true, true, true, true, true, true, true, true, true, true, true, true, false, false, false] rfl rfl (take_ofW HT_.out HW_.out (by kernel_rfl)) (fun _ _ _ h => h) (Or.inl ⟨by rfl, ?_⟩) hHeld ?_ ?_
                rotate_left
                · rintro w' ⟨s0, s1, s2, s3, s4, s5, s6, s7⟩
                  go_simp
                  with_reducible rfl
                rotate_left
                · simp only [Act.put, List.setIfInBounds_toArray, List.set_cons_zero, List.set_cons_succ, i64_w, i32_w]
                  rfl
                refine pure_ (i := 13) (N := some 38) (v := ?_) (a' := ?_) #[true, true, true, true, true, true, true, true, true, true, true, true, true, true, false, false] rfl rfl (any_of HT_.out (by kernel_rfl)) (fun _ _ _ h => h) (Or.inl ⟨by rfl, ?_⟩) ?_ ?_
                rotate_left
                · intro w'
                  go_simp
                  with_reducible rfl
                rotate_left
                · simp only [Act.put, List.setIfInBounds_toArray, List.set_cons_zero, List.set_cons_succ, i64_w, i32_w]
                  rfl
                refine pure_ (i := 14) (N := some 39) (v := ?_) (a' := ?_) #[true, true, true, true, true, true, true, true, true, true, true, true, true, true, true, false] rfl rfl (any_of HT_.out (by kernel_rfl)) (fun _ _ _ h => h) (Or.inl ⟨by rfl, ?_⟩) ?_ ?_
                rotate_left
                · intro w'
                  go_simp
                  with_reducible rfl
                rotate_left
                · simp only [Act.put, List.setIfInBounds_toArray, List.set_cons_zero, List.set_cons_succ, i64_w, i32_w]
                  rfl
                refine last_ (i := 15) (N := none) #[true, true, true, true, true, true, true, true, true, true, true, true, true, true, true, true] rfl rfl (one_of HT_.out (by kernel_rfl)) (by decide) (fun K hK => ?_)
                refine skip_ (w1 := ?_) (by rfl) rfl ?_ ?_
                rotate_left
                · go_simp
                  rfl
                refine hK.out _ _ ?_
                clear hK K
                refine done_ (done_of HT_.out (by kernel_rfl)) ?_
                try go_wp2
                go_roundg k1
                case measure => have := HK1.out; omega
                case rel => exact ⟨(wrap64 (x8_1 + 1)), (y514), (.slice (some ⟨go27, 0, none⟩) x512001_1.length co32), (by first | rfl | (simp; done) | (simp [*]; done)), H', ⟨by have := HK1.out; omega⟩, ⟨by (with_reducible repeat (first | apply Kd.R_alloc | apply Kd.R_drewN | apply Kd.R_drew)); exact HQ34.out⟩, ⟨by (with_reducible repeat (first | refine blk_drewN ?_ _ | refine blk_drew ?_ | refine blk_alloc ?_ _)); refine blk_far ?_ (by have h_ := Kd.R_ne HO_512001.out BK503.out (by decide); intro e_; exact h_ (by rw [e_]; rfl)) _; (with_reducible repeat (first | refine blk_drewN ?_ _ | refine blk_drew ?_ | refine blk_alloc ?_ _)); exact BK503.out⟩, ⟨by (with_reducible repeat (first | refine blk_drewN ?_ _ | refine blk_drew ?_ | refine blk_alloc ?_ _)); refine blk_far ?_ (by have h_ := Kd.R_ne HO_512001.out BK504.out (by decide); intro e_; exact h_ (by rw [e_]; rfl)) _; (with_reducible repeat (first | refine blk_drewN ?_ _ | refine blk_drew ?_ | refine blk_alloc ?_ _)); exact BK504.out⟩, ⟨by (with_reducible repeat (first | refine blk_drewN ?_ _ | refine blk_drew ?_ | refine blk_alloc ?_ _)); refine blk_far ?_ (by have h_ := Kd.R_ne HO_512001.out BK505.out (by decide); intro e_; exact h_ (by rw [e_]; rfl)) _; (with_reducible repeat (first | refine blk_drewN ?_ _ | refine blk_drew ?_ | refine blk_alloc ?_ _)); exact BK505.out⟩, ⟨by (with_reducible repeat (first | refine blk_drewN ?_ _ | refine blk_drew ?_ | refine blk_alloc ?_ _)); refine blk_far ?_ (by have h_ := Kd.R_ne HO_512001.out BK511.out (by decide); intro e_; exact h_ (by rw [e_]; rfl)) _; (with_reducible repeat (first | refine blk_drewN ?_ _ | refine blk_drew ?_ | refine blk_alloc ?_ _)); exact BK511.out⟩, ⟨by repeat (first | (with_reducible first | exact HB.out | apply below_alloc | apply pw_below_drewN | apply below_drew1 | refine below_set ?_ GB27.out | refine below_set ?_ GE503.out | refine below_set ?_ GE504.out | refine below_set ?_ GE505.out | refine below_set ?_ GE511.out) | exact HB.out)⟩⟩
              · rw [if_neg c26] at H
                exact absurd H (by simp)
            · rw [if_neg c25] at H
              exact absurd H (by simp)
          · rw [if_neg c24] at H
            exact absurd H (by simp)
        · rw [if_neg c23] at H
          have c23b0 : decide (x8_1 < (x512001_1.length : Int)) = false := decide_eq_false c23
          clear c23
          simp only [Option.some.injEq, Prod.mk.injEq] at H
          obtain ⟨rfl, rfl, rfl⟩ := H
          have hnb35 := NB511_503.out
          have hnc35 := NB503_511.out
          have hnb36 := NB511_504.out
          have hnc36 := NB504_511.out
          have hnb37 := NB511_505.out
          have hnc37 := NB505_511.out
          have hcz38_0 : wr.cell? ⟨gb511, 0, none⟩ = some (.int .i64 t507) := (blk_cell BK511.out 0).trans rfl
          have hcz38_1 : wr.cell? ⟨gb511, 1, none⟩ = some (u512001) := (blk_cell BK511.out 1).trans rfl
          have hfz38_0 := blk_frozen BK511.out 0
          have hfz38_1 := blk_frozen BK511.out 1
          obtain ⟨Ao39, co39, eo39⟩ := Kd.R_slice HO_512001.out
          subst eo39
          have hnb40 := NB505_503.out
          have hnc40 := NB503_505.out
          have hnb41 := NB505_504.out
          have hnc41 := NB504_505.out
          have hcz42_0 : wr.cell? ⟨gb505, 0, none⟩ = some (.int .i64 0) := (blk_cell BK505.out 0).trans rfl
          have hcz42_1 : wr.cell? ⟨gb505, 1, none⟩ = some (.slice none 0 0) := (blk_cell BK505.out 1).trans rfl
          have hfz42_0 := blk_frozen BK505.out 0
          have hfz42_1 := blk_frozen BK505.out 1
          go_wp2
          refine bodyPost_ret (results_ct rfl _ _ gb505 24 #[.int .i64 t507, .slice Ao39 x512001_1.length co39] (0, 0) _ rfl (by (with_reducible repeat (first | refine blk_drewN ?_ _ | refine blk_drew ?_ | refine blk_alloc ?_ _)); refine blk_put (cs := #[.int .i64 t507, .slice none 0 0]) ?_ 1 _ rfl; (with_reducible repeat (first | refine blk_drewN ?_ _ | refine blk_drew ?_ | refine blk_alloc ?_ _)); refine blk_put (cs := #[.int .i64 0, .slice none 0 0]) ?_ 0 _ rfl; (with_reducible repeat (first | refine blk_drewN ?_ _ | refine blk_drew ?_ | refine blk_alloc ?_ _)); exact BK505.out) Tryd.underlying24 rfl (by kernel_rfl)) rfl ?_
          exact ⟨_, by first | rfl | (simp [errW_none, errW_some] <;> rfl) | (simp [*, errW_none, errW_some] <;> rfl), by (with_reducible repeat (first | apply Kd.R_alloc | apply Kd.R_drewN | apply Kd.R_drew)); exact Kd.R_mono (Kd.R_far (p := ⟨gb505, 1, none⟩) (Kd.R_far (p := ⟨gb505, 0, none⟩) (Kd.R_types HO_512001.out BK505.out (by decide)) (fun _ hk => hk.2) (.int .i64 t507)) (fun _ hk => hk.2) (.slice Ao39 x512001_1.length co39)) (fun _ hk => trivial), by repeat (first | (with_reducible first | exact HB.out | apply below_alloc | apply pw_below_drewN | apply below_drew1 | refine below_set ?_ GE503.out | refine below_set ?_ GE504.out | refine below_set ?_ GE505.out | refine below_set ?_ GE511.out) | exact HB.out)⟩
  · rw [if_neg c4] at H
    have c4b0 : (t506 == 0) = false := beq_eq_false_iff_ne.mpr c4
    have c4b1 : (t506 != 0) = true := bne_iff_ne.mpr c4
    simp only [Option.some.injEq, Prod.mk.injEq] at H
    obtain ⟨rfl, rfl, rfl⟩ := H
    go_enter Tryd.func38, Tryd.ntmps38
    go_wp2_with (first | ((with_reducible refine gate_dst (N := 2) rfl ?_); refine box_event ?hg (N := 2) ?hd (cs := #[.int .i64 a0_0, .slice A0_1 l0_1.length c0_1]) (t := 24) ?hr ?_; (case hd => rfl); (case hg => rfl); (case hr => first | (go_simp; done) | (go_simp; rfl)); intro gb503 hg w43 hbox hb; have n0_ := Aside0.mk (below_step (by repeat (first | (with_reducible first | exact HB.out | apply below_alloc | apply pw_below_drewN | apply below_drew1) | exact HB.out)) hb); have n1_ := Aside0.mk (hbox); have n2_ := Aside0.mk ((by rw [hg]; exact (below_size (by repeat (first | (with_reducible first | exact HB.out | apply below_alloc | apply pw_below_drewN | apply below_drew1) | exact HB.out))) : w.heap.size ≤ gb503)); have n3_ := Aside0.mk ((by rw [hg]; exact (below_size (by repeat (first | (with_reducible first | exact HB.out | apply below_alloc | apply pw_below_drewN | apply below_drew1) | exact HB.out))) : w.heap.size ≤ gb503)); clear HB; have HB := n0_; have BK503 := n1_; have GW503 := n2_; have GE503 := n3_; clear n0_ n1_ n2_ n3_; clear hb hbox hg) | ((with_reducible refine gate_dst (N := 3) rfl ?_); refine box_event ?hg (N := 3) ?hd (cs := #[.int .i64 a1_0, .slice A1_1 l1_1.length c1_1]) (t := 24) ?hr ?_; (case hd => rfl); (case hg => rfl); (case hr => first | (go_simp; done) | (go_simp; rfl)); intro gb504 hg w44 hbox hb; have n0_ := Aside0.mk (blk_below (g := gb503) (o := .cells #[.int .i64 a0_0, .slice A0_1 l0_1.length c0_1] 24 (0, 0)) (by (with_reducible repeat (first | refine blk_drewN ?_ _ | refine blk_drew ?_ | refine blk_alloc ?_ _)); exact BK503.out) hb); have n1_ := Aside0.mk (below_step (by repeat (first | (with_reducible first | exact HB.out | apply below_alloc | apply pw_below_drewN | apply below_drew1 | refine below_set ?_ GE503.out) | exact HB.out)) hb); have n2_ := Aside0.mk (hbox); have n3_ := Aside0.mk ((by rw [hg]; exact (below_size (by repeat (first | (with_reducible first | exact HB.out | apply below_alloc | apply pw_below_drewN | apply below_drew1 | refine below_set ?_ GE503.out) | exact HB.out))) : w.heap.size ≤ gb504)); have n4_ := Aside0.mk ((by rw [hg]; exact (below_size (by repeat (first | (with_reducible first | exact HB.out | apply below_alloc | apply pw_below_drewN | apply below_drew1 | refine below_set ?_ GE503.out) | exact HB.out))) : w.heap.size ≤ gb504)); have n5_ := Aside0.mk ((by rw [hg]; exact Nat.ne_of_lt (blk_lt (g := gb503) (o := .cells #[.int .i64 a0_0, .slice A0_1 l0_1.length c0_1] 24 (0, 0)) (by (with_reducible repeat (first | refine blk_drewN ?_ _ | refine blk_drew ?_ | refine blk_alloc ?_ _)); exact BK503.out)) : gb503 ≠ gb504)); have n6_ := Aside0.mk ((by rw [hg]; exact Nat.ne_of_gt (blk_lt (g := gb503) (o := .cells #[.int .i64 a0_0, .slice A0_1 l0_1.length c0_1] 24 (0, 0)) (by (with_reducible repeat (first | refine blk_drewN ?_ _ | refine blk_drew ?_ | refine blk_alloc ?_ _)); exact BK503.out)) : gb504 ≠ gb503)); clear BK503; clear HB; have BK503 := n0_; have HB := n1_; have BK504 := n2_; have GW504 := n3_; have GE504 := n4_; have NB503_504 := n5_; have NB504_503 := n6_; clear n0_ n1_ n2_ n3_ n4_ n5_ n6_; clear hb hbox hg) | ((with_reducible refine gate_dst (N := 4) rfl ?_); refine box_event ?hg (N := 4) ?hd (cs := #[.int .i64 0, .slice none 0 0]) (t := 24) ?hr ?_; (case hd => rfl); (case hg => rfl); (case hr => first | (go_simp; done) | (go_simp; rfl)); intro gb505 hg w45 hbox hb; have n0_ := Aside0.mk (blk_below (g := gb503) (o := .cells #[.int .i64 a0_0, .slice A0_1 l0_1.length c0_1] 24 (0, 0)) (by (with_reducible repeat (first | refine blk_drewN ?_ _ | refine blk_drew ?_ | refine blk_alloc ?_ _)); exact BK503.out) hb); have n1_ := Aside0.mk (blk_below (g := gb504) (o := .cells #[.int .i64 a1_0, .slice A1_1 l1_1.length c1_1] 24 (0, 0)) (by (with_reducible repeat (first | refine blk_drewN ?_ _ | refine blk_drew ?_ | refine blk_alloc ?_ _)); exact BK504.out) hb); have n2_ := Aside0.mk (below_step (by repeat (first | (with_reducible first | exact HB.out | apply below_alloc | apply pw_below_drewN | apply below_drew1 | refine below_set ?_ GE503.out | refine below_set ?_ GE504.out) | exact HB.out)) hb); have n3_ := Aside0.mk (hbox); have n4_ := Aside0.mk ((by rw [hg]; exact (below_size (by repeat (first | (with_reducible first | exact HB.out | apply below_alloc | apply pw_below_drewN | apply below_drew1 | refine below_set ?_ GE503.out | refine below_set ?_ GE504.out) | exact HB.out))) : w.heap.size ≤ gb505)); have n5_ := Aside0.mk ((by rw [hg]; exact (below_size (by repeat (first | (with_reducible first | exact HB.out | apply below_alloc | apply pw_below_drewN | apply below_drew1 | refine below_set ?_ GE503.out | refine below_set ?_ GE504.out) | exact HB.out))) : w.heap.size ≤ gb505)); have n6_ := Aside0.mk ((by rw [hg]; exact Nat.ne_of_lt (blk_lt (g := gb503) (o := .cells #[.int .i64 a0_0, .slice A0_1 l0_1.length c0_1] 24 (0, 0)) (by (with_reducible repeat (first | refine blk_drewN ?_ _ | refine blk_drew ?_ | refine blk_alloc ?_ _)); exact BK503.out)) : gb503 ≠ gb505)); have n7_ := Aside0.mk ((by rw [hg]; exact Nat.ne_of_gt (blk_lt (g := gb503) (o := .cells #[.int .i64 a0_0, .slice A0_1 l0_1.length c0_1] 24 (0, 0)) (by (with_reducible repeat (first | refine blk_drewN ?_ _ | refine blk_drew ?_ | refine blk_alloc ?_ _)); exact BK503.out)) : gb505 ≠ gb503)); have n8_ := Aside0.mk ((by rw [hg]; exact Nat.ne_of_lt (blk_lt (g := gb504) (o := .cells #[.int .i64 a1_0, .slice A1_1 l1_1.length c1_1] 24 (0, 0)) (by (with_reducible repeat (first | refine blk_drewN ?_ _ | refine blk_drew ?_ | refine blk_alloc ?_ _)); exact BK504.out)) : gb504 ≠ gb505)); have n9_ := Aside0.mk ((by rw [hg]; exact Nat.ne_of_gt (blk_lt (g := gb504) (o := .cells #[.int .i64 a1_0, .slice A1_1 l1_1.length c1_1] 24 (0, 0)) (by (with_reducible repeat (first | refine blk_drewN ?_ _ | refine blk_drew ?_ | refine blk_alloc ?_ _)); exact BK504.out)) : gb505 ≠ gb504)); clear BK503; clear BK504; clear HB; have BK503 := n0_; have BK504 := n1_; have HB := n2_; have BK505 := n3_; have GW505 := n4_; have GE505 := n5_; have NB503_505 := n6_; have NB505_503 := n7_; have NB504_505 := n8_; have NB505_504 := n9_; clear n0_ n1_ n2_ n3_ n4_ n5_ n6_ n7_ n8_ n9_; clear hb hbox hg; have hnb46 := NB503_504.out; have hnc46 := NB504_503.out; have hnb47 := NB503_505.out; have hnc47 := NB505_503.out; have hcz48_0 : w45.cell? ⟨gb503, 0, none⟩ = some (.int .i64 a0_0) := (blk_cell BK503.out 0).trans rfl; have hcz48_1 : w45.cell? ⟨gb503, 1, none⟩ = some (.slice A0_1 l0_1.length c0_1) := (blk_cell BK503.out 1).trans rfl; have hfz48_0 := blk_frozen BK503.out 0; have hfz48_1 := blk_frozen BK503.out 1; have hnb49 := NB504_505.out; have hnc49 := NB505_504.out; have hcz50_0 : w45.cell? ⟨gb504, 0, none⟩ = some (.int .i64 a1_0) := (blk_cell BK504.out 0).trans rfl; have hcz50_1 : w45.cell? ⟨gb504, 1, none⟩ = some (.slice A1_1 l1_1.length c1_1) := (blk_cell BK504.out 1).trans rfl; have hfz50_0 := blk_frozen BK504.out 0; have hfz50_1 := blk_frozen BK504.out 1) | ((with_reducible refine gate_callee (f := 49) rfl ?_); refine goesL_ (some 11) rfl rfl Tryd.func49 (by kernel_rfl) rfl #[.agg #[.int .i64 a0_0, .slice A0_1 l0_1.length c0_1], .agg #[.int .i64 a1_0, .slice A1_1 l1_1.length c1_1]] rfl (by (try simp only [List.map_toArray, List.map_cons, List.map_nil]); first | done | rfl | (simp only [List.length_drop, List.length_take]; rfl)) ?_; (with_reducible refine (r02both.calls k a0_0 _ _ l0_1 a1_0 _ _ l1_1 t506 _ ?side1 ?side2 ?side3 ?side4 A3.out).mono ?_); (case side1 => repeat (first | exact (Kd.C_below HR0_1.out HB.out) | (with_reducible refine Kd.C_alloc ?_ _) | (with_reducible refine Kd.C_drewN ?_ _) | (with_reducible refine Kd.C_drew ?_))); (case side2 => exact HC0_1.out); (case side3 => repeat (first | exact (Kd.C_below HR1_1.out HB.out) | (with_reducible refine Kd.C_alloc ?_ _) | (with_reducible refine Kd.C_drewN ?_ _) | (with_reducible refine Kd.C_drew ?_))); (case side4 => exact HC1_1.out); rintro e w51 ⟨rfl, hb⟩; refine ⟨_, rfl, ?_⟩; have n0_ := Aside0.mk (blk_below (g := gb503) (o := .cells #[.int .i64 a0_0, .slice A0_1 l0_1.length c0_1] 24 (0, 0)) (by (with_reducible repeat (first | refine blk_drewN ?_ _ | refine blk_drew ?_ | refine blk_alloc ?_ _)); exact BK503.out) hb); have n1_ := Aside0.mk (blk_below (g := gb504) (o := .cells #[.int .i64 a1_0, .slice A1_1 l1_1.length c1_1] 24 (0, 0)) (by (with_reducible repeat (first | refine blk_drewN ?_ _ | refine blk_drew ?_ | refine blk_alloc ?_ _)); exact BK504.out) hb); have n2_ := Aside0.mk (blk_below (g := gb505) (o := .cells #[.int .i64 0, .slice none 0 0] 24 (0, 0)) (by (with_reducible repeat (first | refine blk_drewN ?_ _ | refine blk_drew ?_ | refine blk_alloc ?_ _)); exact BK505.out) hb); have n3_ := Aside0.mk (below_step (by repeat (first | (with_reducible first | exact HB.out | apply below_alloc | apply pw_below_drewN | apply below_drew1 | refine below_set ?_ GE503.out | refine below_set ?_ GE504.out | refine below_set ?_ GE505.out) | exact HB.out)) hb); clear BK503; clear BK504; clear BK505; clear HB; have BK503 := n0_; have BK504 := n1_; have BK505 := n2_; have HB := n3_; clear n0_ n1_ n2_ n3_; (try clear hb); (try clear hb2); (try clear hk); (try clear hi); have hcz52_0 : w51.cell? ⟨gb505, 0, none⟩ = some (.int .i64 0) := (blk_cell BK505.out 0).trans rfl; have hcz52_1 : w51.cell? ⟨gb505, 1, none⟩ = some (.slice none 0 0) := (blk_cell BK505.out 1).trans rfl; have hfz52_0 := blk_frozen BK505.out 0; have hfz52_1 := blk_frozen BK505.out 1))
    refine bodyPost_ret (results_ct rfl _ _ gb505 24 #[.int .i64 0, .slice none 0 0] (0, 0) _ rfl (by (with_reducible repeat (first | refine blk_drewN ?_ _ | refine blk_drew ?_ | refine blk_alloc ?_ _)); refine blk_put (cs := #[.int .i64 0, .slice none 0 0]) ?_ 1 _ rfl; (with_reducible repeat (first | refine blk_drewN ?_ _ | refine blk_drew ?_ | refine blk_alloc ?_ _)); refine blk_put (cs := #[.int .i64 0, .slice none 0 0]) ?_ 0 _ rfl; (with_reducible repeat (first | refine blk_drewN ?_ _ | refine blk_drew ?_ | refine blk_alloc ?_ _)); exact BK505.out) Tryd.underlying24 rfl (by kernel_rfl)) rfl ?_
    exact ⟨_, by first | rfl | (simp [errW_none, errW_some] <;> rfl) | (simp [*, errW_none, errW_some] <;> rfl), by first | exact Kd.R_nil _ _ _ _ _ | exact Kd.N_nil _ _ _ _ _ | exact Kd.V_nil _ _ _ _ _ | exact Kd.Q_nil _ _ _ _ _ | exact Kd.S_nil _ _ _ _ _, by repeat (first | (with_reducible first | exact HB.out | apply below_alloc | apply pw_below_drewN | apply below_drew1 | refine below_set ?_ GE503.out | refine below_set ?_ GE504.out | refine below_set ?_ GE505.out) | exact HB.out)⟩
end Go.Proofs.YthpldfjjdmjcoaaDoor.P

namespace Go.Proofs.YthpldfjjdmjcoaaDoor.P
open Go.RowKit Go.Proofs.YthpldfjjdmjcoaaDoorW.PrintWords Go.Proofs.YthpldfjjdmjcoaaDoorW.PrintLast Go.Proofs.YthpldfjjdmjcoaaDoorW.PrintMore
set_option maxHeartbeats 2000000 in
set_option maxRecDepth 100000 in
theorem both_bad1 (n : Int) (A : Option Addr) (c : Nat) (xs : List Int) (m : Int) (B : Option Addr) (d : Nat) (ys : List Int) (w : World) (hr : Kd.C (Kd.int .u64) w A xs.length xs) (hc : xs.length ≤ c) (he : bCheck.f 1 n xs = some 3) (v : Value) :
    Calls Tryd.prog 47 #[.agg #[.int .i64 n, .slice A xs.length c], .agg #[.int .i64 m, .slice B ys.length d], v] w fun e w' => e = .returned (.tuple #[.agg #[.int .i64 0, .slice none 0 0], .int .i64 3]) ∧ Below w.heap.size w w' := by
  have HR := Aside0.mk hr
  have HC := Aside0.mk hc
  have HE := Aside0.mk he
  clear hr hc he
  go_enter Tryd.func47, Tryd.ntmps47
  go_wp2_with fail
  obtain ⟨W, hW, hB, -, h0, h1, h2⟩ := new3 w (Obj.cells #[Value.int IntKind.i64 n, Value.slice A xs.length c] 24) (Obj.cells #[Value.int IntKind.i64 m, Value.slice B ys.length d] 24) (Obj.cells #[Value.int IntKind.i64 0, Value.slice none 0 0] 24)
  rw [hW]
  have HB := Aside0.mk hB
  have B2 := Aside0.mk h2
  clear hW hB h0 h1 h2
  refine (bCheck.calls 1 n _ c xs 3 W (Kd.C_below HR.out HB.out) HC.out HE.out).mono ?_
  rintro e w1 ⟨rfl, hb1⟩
  obtain ⟨c30, c31, f30, f31⟩ := cells2 (blk_of_below B2.out hb1)
  have HB1 := Aside0.mk (below_step HB.out hb1)
  clear hb1
  go_wp2_with fail
  refine bodyPost_ret (v := .tuple #[.agg #[.int .i64 0, .slice none 0 0], .int .i64 3]) ?_ rfl ⟨rfl, ?_⟩
  · simp [results, Tryd.results47, go_sem, *]
  · exact (HB1.out.setCell (p := ⟨w.heap.size + 1 + 1, 0, none⟩) (show w.heap.size ≤ w.heap.size + 1 + 1 by omega) _).setCell (p := ⟨w.heap.size + 1 + 1, 1, none⟩) (show w.heap.size ≤ w.heap.size + 1 + 1 by omega) _
set_option maxHeartbeats 2000000 in
set_option maxRecDepth 100000 in
theorem both_bad2 (n : Int) (A : Option Addr) (c : Nat) (xs : List Int) (m : Int) (B : Option Addr) (d : Nat) (ys : List Int) (w : World) (hr : Kd.C (Kd.int .u64) w A xs.length xs) (hc : xs.length ≤ c) (hr2 : Kd.C (Kd.int .u64) w B ys.length ys) (hc2 : ys.length ≤ d) (he : bCheck.f 1 n xs = some 0) (he2 : bCheck.f 1 m ys = some 3) (v : Value) :
    Calls Tryd.prog 47 #[.agg #[.int .i64 n, .slice A xs.length c], .agg #[.int .i64 m, .slice B ys.length d], v] w fun e w' => e = .returned (.tuple #[.agg #[.int .i64 0, .slice none 0 0], .int .i64 3]) ∧ Below w.heap.size w w' := by
  have HR := Aside0.mk hr
  have HC := Aside0.mk hc
  have HE := Aside0.mk he
  have HR2 := Aside0.mk hr2
  have HC2 := Aside0.mk hc2
  have HE2 := Aside0.mk he2
  clear hr hc he hr2 hc2 he2
  go_enter Tryd.func47, Tryd.ntmps47
  go_wp2_with fail
  obtain ⟨W, hW, hB, -, h0, h1, h2⟩ := new3 w (Obj.cells #[Value.int IntKind.i64 n, Value.slice A xs.length c] 24) (Obj.cells #[Value.int IntKind.i64 m, Value.slice B ys.length d] 24) (Obj.cells #[Value.int IntKind.i64 0, Value.slice none 0 0] 24)
  rw [hW]
  have HB := Aside0.mk hB
  have B1 := Aside0.mk h1
  have B2 := Aside0.mk h2
  clear hW hB h0 h1 h2
  refine (bCheck.calls 1 n _ c xs 0 W (Kd.C_below HR.out HB.out) HC.out HE.out).mono ?_
  rintro e w1 ⟨rfl, hb1⟩
  have B2' := Aside0.mk (blk_of_below B2.out hb1)
  obtain ⟨c10, c11, -, -⟩ := cells2 (blk_of_below B1.out hb1)
  have HB1 := Aside0.mk (below_step HB.out hb1)
  clear hb1
  go_wp2_with fail
  refine (bCheck.calls 1 m _ d ys 3 w1 (Kd.C_below HR2.out HB1.out) HC2.out HE2.out).mono ?_
  rintro e w2 ⟨rfl, hb1⟩
  obtain ⟨c30, c31, f30, f31⟩ := cells2 (blk_of_below B2'.out hb1)
  have HB2 := Aside0.mk (below_step HB1.out hb1)
  clear hb1 c10 c11
  go_wp2_with fail
  refine bodyPost_ret (v := .tuple #[.agg #[.int .i64 0, .slice none 0 0], .int .i64 3]) ?_ rfl ⟨rfl, ?_⟩
  · simp [results, Tryd.results47, go_sem, *]
  · exact (HB2.out.setCell (p := ⟨w.heap.size + 1 + 1, 0, none⟩) (show w.heap.size ≤ w.heap.size + 1 + 1 by omega) _).setCell (p := ⟨w.heap.size + 1 + 1, 1, none⟩) (show w.heap.size ≤ w.heap.size + 1 + 1 by omega) _
set_option maxHeartbeats 4000000 in
set_option maxRecDepth 100000 in
theorem both_good (n : Int) (A : Option Addr) (c : Nat) (xs : List Int) (m : Int) (B : Option Addr) (d : Nat) (ys : List Int) (w : World) (hr : Kd.C (Kd.int .u64) w A xs.length xs) (hc : xs.length ≤ c) (hr2 : Kd.C (Kd.int .u64) w B ys.length ys) (hc2 : ys.length ≤ d) (he : bCheck.f 1 n xs = some 0) (he2 : bCheck.f 1 m ys = some 0) (hne : ¬ n = m) (v : Value) :
    Calls Tryd.prog 47 #[.agg #[.int .i64 n, .slice A xs.length c], .agg #[.int .i64 m, .slice B ys.length d], v] w fun e w' => e = .returned (.tuple #[.agg #[.int .i64 0, .slice none 0 0], .int .i64 22]) ∧ Below w.heap.size w w' := by
  have hq1 : (n != m) = true := by simpa using hne
  have hq2 : (n == m) = false := by simpa using hne
  have HR := Aside0.mk hr
  have HC := Aside0.mk hc
  have HE := Aside0.mk he
  have HR2 := Aside0.mk hr2
  have HC2 := Aside0.mk hc2
  have HE2 := Aside0.mk he2
  clear hr hc he hr2 hc2 he2 hne
  go_enter Tryd.func47, Tryd.ntmps47
  go_wp2_with fail
  obtain ⟨W, hW, hB, -, h0, h1, h2⟩ := new3 w (Obj.cells #[Value.int IntKind.i64 n, Value.slice A xs.length c] 24) (Obj.cells #[Value.int IntKind.i64 m, Value.slice B ys.length d] 24) (Obj.cells #[Value.int IntKind.i64 0, Value.slice none 0 0] 24)
  rw [hW]
  have HB := Aside0.mk hB
  have B0 := Aside0.mk h0
  have B1 := Aside0.mk h1
  have B2 := Aside0.mk h2
  clear hW hB h0 h1 h2
  refine (bCheck.calls 1 n _ c xs 0 W (Kd.C_below HR.out HB.out) HC.out HE.out).mono ?_
  rintro e w1 ⟨rfl, hb1⟩
  have B0' := Aside0.mk (blk_of_below B0.out hb1)
  have B1' := Aside0.mk (blk_of_below B1.out hb1)
  have B2' := Aside0.mk (blk_of_below B2.out hb1)
  obtain ⟨c10, c11, -, -⟩ := cells2 (blk_of_below B1.out hb1)
  have HB1 := Aside0.mk (below_step HB.out hb1)
  clear hb1 B0 B1 B2
  go_wp2_with fail
  refine (bCheck.calls 1 m _ d ys 0 w1 (Kd.C_below HR2.out HB1.out) HC2.out HE2.out).mono ?_
  rintro e w2 ⟨rfl, hb1⟩
  obtain ⟨c00, c01, -, -⟩ := cells2 (blk_of_below B0'.out hb1)
  obtain ⟨c10', c11', -, -⟩ := cells2 (blk_of_below B1'.out hb1)
  obtain ⟨c30, c31, f30, f31⟩ := cells2 (blk_of_below B2'.out hb1)
  have HB2 := Aside0.mk (below_step HB1.out hb1)
  clear hb1 c10 c11
  go_wp2_with fail
  refine bodyPost_ret (v := .tuple #[.agg #[.int .i64 0, .slice none 0 0], .int .i64 22]) ?_ rfl ⟨rfl, ?_⟩
  · simp [results, Tryd.results47, go_sem, *]
  · exact (HB2.out.setCell (p := ⟨w.heap.size + 1 + 1, 0, none⟩) (show w.heap.size ≤ w.heap.size + 1 + 1 by omega) _).setCell (p := ⟨w.heap.size + 1 + 1, 1, none⟩) (show w.heap.size ≤ w.heap.size + 1 + 1 by omega) _
/-- After k words, of a new row. -/
def fill (zs : List Int) (k : Nat) : List Int := zs.take k ++ List.replicate (zs.length - k) 0
theorem fill_zero (zs : List Int) : fill zs 0 = List.replicate zs.length 0 := by simp [fill]
theorem fill_all (zs : List Int) : fill zs zs.length = zs := by simp [fill]
theorem fill_length (zs : List Int) (k : Nat) (hk : k ≤ zs.length) : (fill zs k).length = zs.length := by simp [fill]; omega
theorem fill_succ (zs : List Int) (k : Nat) (hk : k < zs.length) : (fill zs k).set k (zs.getD k 0) = fill zs (k + 1) := by
  apply List.ext_getElem?
  intro i
  rw [List.getElem?_set]
  have hl := fill_length zs k (by omega)
  by_cases hi : k = i
  · subst hi
    rw [if_pos rfl, if_pos (by omega)]
    unfold fill
    rw [List.getElem?_append_left (by simp; omega), List.getElem?_take_of_lt (by omega)]
    simp [hk]
  · rw [if_neg hi]
    unfold fill
    by_cases hik : i < k
    · rw [List.getElem?_append_left (by simp; omega), List.getElem?_append_left (by simp; omega), List.getElem?_take_of_lt hik, List.getElem?_take_of_lt (by omega)]
    · rw [List.getElem?_append_right (by simp; omega), List.getElem?_append_right (by simp; omega)]
      simp only [List.length_take, Nat.min_eq_left (Nat.le_of_lt hk), Nat.min_eq_left (show k + 1 ≤ zs.length by omega), List.getElem?_replicate]
      by_cases h : i < zs.length
      · rw [if_pos (by omega), if_pos (by omega)]
      · rw [if_neg (by omega), if_neg (by omega)]
/-- A number of a row that is read. -/
theorem read_at {w : World} {A : Option Addr} {xs : List Int} (h : Kd.C (Kd.int .u64) w A xs.length xs) {k : Nat} (hk : k < xs.length) : ∃ ad, A = some ad ∧ w.cell? (ad.add k) = some (.int .u64 (xs.getD k 0)) := by
  obtain ⟨ad, e, h⟩ := h.2.2 (by omega)
  obtain ⟨cs, hl, hk', hcell⟩ := h k _ (List.getElem?_eq_getElem hk)
  have hcs : cs = [Value.int .u64 xs[k]] := hk'
  subst hcs
  have := hcell 0 _ rfl
  refine ⟨ad, e, ?_⟩
  simpa [List.getD, hk, show (Kd.int .u64).sz = 1 from rfl] using this
theorem or_op (a b : Int) (w : World) : Calls Tryd.prog 48 #[.int .u64 a, .int .u64 b] w fun e w' => e = .returned (.int .u64 (Go.bits .or .u64 a b)) ∧ w' = w := by
  go_enter Tryd.func48, Tryd.ntmps48
  go_wp2
  go_ret
  exact ⟨rfl, rfl⟩
set_option maxHeartbeats 4000000 in
set_option maxRecDepth 100000 in
theorem or_ok (n : Int) (A : Option Addr) (c : Nat) (xs : List Int) (B : Option Addr) (d : Nat) (ys : List Int) (w : World) (hr : Kd.C (Kd.int .u64) w A xs.length xs) (hc : xs.length ≤ c) (hr2 : Kd.C (Kd.int .u64) w B ys.length ys) (hc2 : ys.length ≤ d) (he : bCheck.f 1 n xs = some 0) (he2 : bCheck.f 1 n ys = some 0)
    (hlen : xs.length ≤ 100) (hxy : xs.length = ys.length) :
    Calls Tryd.prog 47 #[.agg #[.int .i64 n, .slice A xs.length c], .agg #[.int .i64 n, .slice B ys.length d], .func (.func 48) #[] #[]] w fun e w' => ∃ v1_ : Value, e = .returned (.tuple #[.agg #[.int .i64 n, v1_], .int .i64 0]) ∧ Kd.R (Kd.int .u64) 55 w' w.heap.size (fun _ => True) v1_ (List.zipWith (Go.bits .or .u64) xs ys) ∧ Below w.heap.size w w' := by
  have HR := Aside0.mk hr
  have HC := Aside0.mk hc
  have HE := Aside0.mk he
  have HR2 := Aside0.mk hr2
  have HC2 := Aside0.mk hc2
  have HE2 := Aside0.mk he2
  have HXY := Aside0.mk hxy
  have hmk := print_make (P := Tryd.prog) 22 55 .u64 8 Tryd.underlying22 infoU64 (by decide) xs.length (by omega)
  obtain ⟨zs, hz⟩ : ∃ zs, zs = List.zipWith (Go.bits .or .u64) xs ys := ⟨_, rfl⟩
  have hzl : zs.length = xs.length := by rw [hz]; simp; omega
  have HZ := Aside0.mk hz
  have HZL := Aside0.mk hzl
  rw [← hz]
  clear hr hc he hr2 hc2 he2 hxy hz hzl
  go_enter Tryd.func47, Tryd.ntmps47
  go_wp2_with fail
  obtain ⟨W, hW, hB, -, h0, h1, h2⟩ := new3 w (Obj.cells #[Value.int IntKind.i64 n, Value.slice A xs.length c] 24) (Obj.cells #[Value.int IntKind.i64 n, Value.slice B ys.length d] 24) (Obj.cells #[Value.int IntKind.i64 0, Value.slice none 0 0] 24)
  rw [hW]
  have HB := Aside0.mk hB
  have B0 := Aside0.mk h0
  have B1 := Aside0.mk h1
  have B2 := Aside0.mk h2
  clear hW hB h0 h1 h2
  refine (bCheck.calls 1 n _ c xs 0 W (Kd.C_below HR.out HB.out) HC.out HE.out).mono ?_
  rintro e w1 ⟨rfl, hb1⟩
  have B0' := Aside0.mk (blk_of_below B0.out hb1)
  have B1' := Aside0.mk (blk_of_below B1.out hb1)
  have B2' := Aside0.mk (blk_of_below B2.out hb1)
  obtain ⟨c10, c11, -, -⟩ := cells2 (blk_of_below B1.out hb1)
  have HB1 := Aside0.mk (below_step HB.out hb1)
  clear hb1 B0 B1 B2
  go_wp2_with fail
  refine (bCheck.calls 1 n _ d ys 0 w1 (Kd.C_below HR2.out HB1.out) HC2.out HE2.out).mono ?_
  rintro e w2 ⟨rfl, hb1⟩
  have B0 := Aside0.mk (blk_of_below B0'.out hb1)
  have B1 := Aside0.mk (blk_of_below B1'.out hb1)
  have B2 := Aside0.mk (blk_of_below B2'.out hb1)
  have HB2 := Aside0.mk (below_step HB1.out hb1)
  have HL : Aside0 (w.heap.size + 1 + 1 < w2.heap.size) := ⟨(Array.getElem?_eq_some_iff.1 B2.out).1⟩
  clear hb1 c10 c11 B0' B1' B2'
  obtain ⟨c00, c01, -, -⟩ := cells2 B0.out
  obtain ⟨c10, c11, -, -⟩ := cells2 B1.out
  go_wp2_with fail
  have ho3 := own_made w2 w2.heap.size 55 .u64 xs.length (Nat.le_refl _) (by omega)
  have hb3 := below_alloc (Below.refl w2.heap.size w2) (.cells (madeCells #[.int .u64 0] xs.length) 55)
  generalize w2.alloc (.cells (madeCells #[.int .u64 0] xs.length) 55) = w3 at ho3 hb3 ⊢
  have HO3 := Aside0.mk ho3
  have HB3 := Aside0.mk hb3
  clear ho3 hb3 c00 c01 c10 c11
  go_loopw [36] (fun i wr => ∃ k : Nat, k ≤ xs.length ∧ i = .int .i64 k ∧ wr.ownsRow w2.heap.size 55 1 (.slice (some ⟨w2.heap.size, 0, none⟩) xs.length xs.length) xs.length (nums .u64 (fill zs k)) ∧ Below w2.heap.size w2 wr)
    (fun i _ => xs.length - (intOf i).toNat)
  case atStart => exact ⟨0, Nat.zero_le _, rfl, by rw [fill_zero, HZL.out]; exact HO3.out, HB3.out⟩
  case round =>
    obtain ⟨k, hk, rfl, ho, hb⟩ := hrel
    have HO := Aside0.mk ho
    have HBr := Aside0.mk hb
    clear ho hb
    by_cases hlt : k < xs.length
    · obtain ⟨c00, c01, -, -⟩ := cells2 ((HBr.out.block _ (by have := HL.out; omega)).trans B0.out)
      obtain ⟨c10, c11, -, -⟩ := cells2 ((HBr.out.block _ (by have := HL.out; omega)).trans B1.out)
      obtain ⟨ad, hA, hxk⟩ := read_at (Kd.C_below (Kd.C_below HR.out HB2.out) HBr.out) hlt
      obtain ⟨bd, hB, hyk⟩ := read_at (Kd.C_below (Kd.C_below HR2.out HB2.out) HBr.out) (show k < ys.length by have := HXY.out; omega)
      subst hA
      subst hB
      have hlt2 : k < ys.length := by have := HXY.out; omega
      obtain ⟨x, hx⟩ : ∃ x, x = xs.getD k 0 := ⟨_, rfl⟩
      obtain ⟨y, hy⟩ : ∃ y, y = ys.getD k 0 := ⟨_, rfl⟩
      rw [← hx] at hxk
      rw [← hy] at hyk
      have HZK : Aside0 (Go.bits .or .u64 x y = zs.getD k 0) := ⟨by rw [HZ.out, hx, hy]; simp [List.getD, List.getElem?_zipWith, hlt, hlt2]⟩
      clear hx hy
      go_wp2_with fail
      go_still_tail 15, (by kernel_rfl)
      refine wpStill_step (fun K hK => ?_)
      go_simp
      refine ⟨_, or_op _ _ _, hK _ ?_⟩
      clear hK K
      repeat still_step
      refine wpStill_nil ?_
      change wpList _ _ _ _ _ wr.drew
      have hst := (HO.out.drew).stored k (.int .u64 (Go.bits .or .u64 x y))
      obtain ⟨hst1, hst2⟩ := hst
      have HO2 : Aside0 ((wr.drew.setCell ⟨w2.heap.size, k, none⟩ (.int .u64 (Go.bits .or .u64 x y))).ownsRow w2.heap.size 55 1 (.slice (some ⟨w2.heap.size, 0, none⟩) xs.length xs.length) xs.length (nums .u64 (fill zs (k + 1)))) := ⟨by
        have e : (nums .u64 (fill zs k)).set k (.int .u64 (Go.bits .or .u64 x y)) = nums .u64 (fill zs (k + 1)) := by
          rw [← fill_succ zs k (by rw [HZL.out]; exact hlt), HZK.out]
          simp [nums, List.map_set]
        rw [← e]; exact hst1⟩
      have HB2' : Aside0 (Below w2.heap.size w2 (wr.drew.setCell ⟨w2.heap.size, k, none⟩ (.int .u64 (Go.bits .or .u64 x y)))) := ⟨(below_drew1 HBr.out).setCell (p := ⟨w2.heap.size, k, none⟩) (Nat.le_refl _) _⟩
      have hd1 : ∃ v, wr.drew.cell? ⟨w2.heap.size, k, none⟩ = some v := by
        refine ⟨.int .u64 ((fill zs k).getD k 0), ?_⟩
        have e1 := HO.out.cellAt k (by omega)
        have e2 : (fill zs k).length = xs.length := by rw [fill_length _ _ (by rw [HZL.out]; omega), HZL.out]
        refine (show wr.drew.cell? ⟨w2.heap.size, k, none⟩ = wr.cell? ⟨w2.heap.size, k, none⟩ from rfl).trans (e1.trans ?_)
        simp [nums, List.getD, e2, hlt]
      obtain ⟨v0, hd1⟩ := hd1
      have hd2 : wr.drew.frozen? ⟨w2.heap.size, k, none⟩ = false := HO.out.frozenAt k
      clear hst1 hst2 hxk hyk
      go_wp2
      go_roundw
      case rel => exact ⟨k + 1, by omega, by go_num, HO2.out, HB2'.out⟩
      case measure => simp [intOf]; omega
    · obtain rfl : k = xs.length := by omega
      obtain ⟨c00, c01, -, -⟩ := cells2 ((HBr.out.block _ (by have := HL.out; omega)).trans B0.out)
      obtain ⟨c30, c31, f30, f31⟩ := cells2 ((HBr.out.block _ (by have := HL.out; omega)).trans B2.out)
      go_wp2
      refine bodyPost_ret (v := .tuple #[.agg #[.int .i64 n, .slice (some ⟨w2.heap.size, 0, none⟩) xs.length xs.length], .int .i64 0]) ?_ rfl ⟨_, rfl, ?_, ?_⟩
      · simp [results, Tryd.results47, go_sem, *]
      · have hrow : wr.ownsRow w.heap.size 55 1 (.slice (some ⟨w2.heap.size, 0, none⟩) xs.length xs.length) zs.length (encs (Value.int .u64) zs) := by
          have := own_weaken HO.out HB2.out.size
          rw [← HZL.out, fill_all, HZL.out] at this
          rw [HZL.out]
          exact this
        exact Kd.R_mono (Kd.R_far (p := ⟨w.heap.size + 1 + 1, 1, none⟩) (Kd.R_far (p := ⟨w.heap.size + 1 + 1, 0, none⟩) (Kd.R_types (Kd.R_of_own (ok := fun _ => True) hrow (fun _ _ => trivial)) ((HBr.out.block _ (by have := HL.out; omega)).trans B2.out) (by decide)) (fun k hk => hk.2) _) (fun k hk => hk.2) _) (fun _ _ => trivial)
      · exact ((HB2.out.trans (HBr.out.mono HB2.out.size)).setCell (p := ⟨w.heap.size + 1 + 1, 0, none⟩) (show w.heap.size ≤ w.heap.size + 1 + 1 by omega) _).setCell (p := ⟨w.heap.size + 1 + 1, 1, none⟩) (show w.heap.size ≤ w.heap.size + 1 + 1 by omega) _
theorem or_both (n : Int) (A : Option Addr) (c : Nat) (xs : List Int) (m : Int) (B : Option Addr) (d : Nat) (ys : List Int) (w : World) (hr : Kd.C (Kd.int .u64) w A xs.length xs) (hc : xs.length ≤ c) (hr2 : Kd.C (Kd.int .u64) w B ys.length ys) (hc2 : ys.length ≤ d) :
    Calls Tryd.prog 47 #[.agg #[.int .i64 n, .slice A xs.length c], .agg #[.int .i64 m, .slice B ys.length d], .func (.func 48) #[] #[]] w fun e w' => ∃ v1_ : Value, e = .returned (.tuple #[.agg #[.int .i64 (bBoth .or n xs m ys).1, v1_], .int .i64 (bBoth .or n xs m ys).2.2]) ∧ Kd.R (Kd.int .u64) 55 w' w.heap.size (fun _ => True) v1_ (bBoth .or n xs m ys).2.1 ∧ Below w.heap.size w w' := by
  by_cases hg : Good n xs
  · by_cases hh : Good m ys
    · by_cases hnm : n = m
      · subst hnm
        have e : bBoth .or n xs n ys = (n, List.zipWith (Go.bits .or .u64) xs ys, 0) := by
          unfold bBoth
          rw [if_pos ((good_iff _ _).2 hg), if_pos ((good_iff _ _).2 hh), if_pos rfl]
        rw [e]
        have := hg.len_le; have := hg.len; have := hh.len
        exact or_ok n A c xs B d ys w hr hc hr2 hc2 (good_yes hg 0) (good_yes hh 0) (by omega) (by omega)
      · have e : bBoth .or n xs m ys = (0, [], 22) := by
          unfold bBoth
          rw [if_pos ((good_iff _ _).2 hg), if_pos ((good_iff _ _).2 hh), if_neg hnm]
        rw [e]
        exact (both_good n A c xs m B d ys w hr hc hr2 hc2 (good_yes hg 0) (good_yes hh 0) hnm _).mono fun e w' ⟨he, hb⟩ => ⟨_, he, Kd.R_nil _ _ _ _ _, hb⟩
    · have e : bBoth .or n xs m ys = (0, [], 3) := by
        unfold bBoth
        rw [if_pos ((good_iff _ _).2 hg), if_neg (fun h => hh ((good_iff _ _).1 h))]
      rw [e]
      exact (both_bad2 n A c xs m B d ys w hr hc hr2 hc2 (good_yes hg 0) (good_no hh 0) _).mono fun e w' ⟨he, hb⟩ => ⟨_, he, Kd.R_nil _ _ _ _ _, hb⟩
  · have e : bBoth .or n xs m ys = (0, [], 3) := by
      unfold bBoth
      rw [if_neg (fun h => hg ((good_iff _ _).1 h))]
    rw [e]
    exact (both_bad1 n A c xs m B d ys w hr hc (good_no hg 0) _).mono fun e w' ⟨he, hb⟩ => ⟨_, he, Kd.R_nil _ _ _ _ _, hb⟩
set_option maxHeartbeats 2000000 in
set_option maxRecDepth 100000 in
theorem bOr.calls (a0_0 : Int) (A0_1 : Option Addr) (c0_1 : Nat) (l0_1 : List Int) (a1_0 : Int) (A1_1 : Option Addr) (c1_1 : Nat) (l1_1 : List Int) (r1 : Int) (r2 : List Int) (r3 : Int) (w : World) (hr0_1 : Kd.C (Kd.int .u64) w A0_1 l0_1.length l0_1) (hc0_1 : l0_1.length ≤ c0_1) (hr1_1 : Kd.C (Kd.int .u64) w A1_1 l1_1.length l1_1) (hc1_1 : l1_1.length ≤ c1_1) (h : bOr.f a0_0 l0_1 a1_0 l1_1 = some (r1, r2, r3)) :
    Calls Tryd.prog 33 #[.agg #[.int .i64 a0_0, .slice A0_1 l0_1.length c0_1], .agg #[.int .i64 a1_0, .slice A1_1 l1_1.length c1_1]] w fun e w' => ∃ v1_ : Value, e = .returned (.tuple #[.agg #[.int .i64 r1, v1_], .int .i64 r3]) ∧ Kd.R (Kd.int .u64) 55 w' w.heap.size (fun _ => True) v1_ r2 ∧ Below w.heap.size w w' := by
  obtain ⟨rfl, rfl, rfl⟩ : (bBoth .or a0_0 l0_1 a1_0 l1_1).1 = r1 ∧ (bBoth .or a0_0 l0_1 a1_0 l1_1).2.1 = r2 ∧ (bBoth .or a0_0 l0_1 a1_0 l1_1).2.2 = r3 := by
    have := Option.some.inj h
    rw [this]; exact ⟨rfl, rfl, rfl⟩
  have HR := Aside0.mk hr0_1
  have HC := Aside0.mk hc0_1
  have HR2 := Aside0.mk hr1_1
  have HC2 := Aside0.mk hc1_1
  have HA := fun (W : World) (hb : Below w.heap.size w W) => or_both a0_0 A0_1 c0_1 l0_1 a1_0 A1_1 c1_1 l1_1 W (Kd.C_below HR.out hb) HC.out (Kd.C_below HR2.out hb) HC2.out
  generalize bBoth .or a0_0 l0_1 a1_0 l1_1 = q at HA ⊢
  have HQ := Aside0.mk HA
  clear hr0_1 hc0_1 hr1_1 hc1_1 h HA
  go_enter Tryd.func33, Tryd.ntmps33
  go_wp2_with fail
  obtain ⟨W, hW, hB, -, -, -, h2⟩ := new3 w (Obj.cells #[Value.int IntKind.i64 a0_0, Value.slice A0_1 l0_1.length c0_1] 24) (Obj.cells #[Value.int IntKind.i64 a1_0, Value.slice A1_1 l1_1.length c1_1] 24) (Obj.cells #[Value.int IntKind.i64 0, Value.slice none 0 0] 24)
  rw [hW]
  have HB := Aside0.mk hB
  have B2 := Aside0.mk h2
  clear hW hB h2
  refine (HQ.out W HB.out).mono ?_
  rintro e w1 ⟨v1, rfl, hR, hb1⟩
  obtain ⟨A2, c2, rfl⟩ : ∃ A2 c2, v1 = .slice A2 q.2.1.length c2 := by
    obtain ⟨inner, ho, -⟩ := hR.2
    exact own_slice ho
  obtain ⟨c30, c31, f30, f31⟩ := cells2 (blk_of_below B2.out hb1)
  have HB1 := Aside0.mk (below_step HB.out hb1)
  have HRR := Aside0.mk (Kd.R_types (Kd.R_lower hR HB.out.size) (blk_of_below B2.out hb1) (by decide))
  clear hb1 hR
  go_wp2_with fail
  refine bodyPost_ret (v := .tuple #[.agg #[.int .i64 q.1, .slice A2 q.2.1.length c2], .int .i64 q.2.2]) ?_ rfl ⟨_, rfl, ?_, ?_⟩
  · simp [results, Tryd.results33, go_sem, *]
  · exact Kd.R_mono (Kd.R_far (p := ⟨w.heap.size + 1 + 1, 1, none⟩) (Kd.R_far (p := ⟨w.heap.size + 1 + 1, 0, none⟩) HRR.out (fun k hk => hk.2) _) (fun k hk => hk.2) _) (fun _ _ => trivial)
  · exact (HB1.out.setCell (p := ⟨w.heap.size + 1 + 1, 0, none⟩) (show w.heap.size ≤ w.heap.size + 1 + 1 by omega) _).setCell (p := ⟨w.heap.size + 1 + 1, 1, none⟩) (show w.heap.size ≤ w.heap.size + 1 + 1 by omega) _
theorem and_op (a b : Int) (w : World) : Calls Tryd.prog 51 #[.int .u64 a, .int .u64 b] w fun e w' => e = .returned (.int .u64 (Go.bits .and .u64 a b)) ∧ w' = w := by
  go_enter Tryd.func51, Tryd.ntmps51
  go_wp2
  go_ret
  exact ⟨rfl, rfl⟩
set_option maxHeartbeats 4000000 in
set_option maxRecDepth 100000 in
theorem and_ok (n : Int) (A : Option Addr) (c : Nat) (xs : List Int) (B : Option Addr) (d : Nat) (ys : List Int) (w : World) (hr : Kd.C (Kd.int .u64) w A xs.length xs) (hc : xs.length ≤ c) (hr2 : Kd.C (Kd.int .u64) w B ys.length ys) (hc2 : ys.length ≤ d) (he : bCheck.f 1 n xs = some 0) (he2 : bCheck.f 1 n ys = some 0)
    (hlen : xs.length ≤ 100) (hxy : xs.length = ys.length) :
    Calls Tryd.prog 47 #[.agg #[.int .i64 n, .slice A xs.length c], .agg #[.int .i64 n, .slice B ys.length d], .func (.func 51) #[] #[]] w fun e w' => ∃ v1_ : Value, e = .returned (.tuple #[.agg #[.int .i64 n, v1_], .int .i64 0]) ∧ Kd.R (Kd.int .u64) 55 w' w.heap.size (fun _ => True) v1_ (List.zipWith (Go.bits .and .u64) xs ys) ∧ Below w.heap.size w w' := by
  have HR := Aside0.mk hr
  have HC := Aside0.mk hc
  have HE := Aside0.mk he
  have HR2 := Aside0.mk hr2
  have HC2 := Aside0.mk hc2
  have HE2 := Aside0.mk he2
  have HXY := Aside0.mk hxy
  have hmk := print_make (P := Tryd.prog) 22 55 .u64 8 Tryd.underlying22 infoU64 (by decide) xs.length (by omega)
  obtain ⟨zs, hz⟩ : ∃ zs, zs = List.zipWith (Go.bits .and .u64) xs ys := ⟨_, rfl⟩
  have hzl : zs.length = xs.length := by rw [hz]; simp; omega
  have HZ := Aside0.mk hz
  have HZL := Aside0.mk hzl
  rw [← hz]
  clear hr hc he hr2 hc2 he2 hxy hz hzl
  go_enter Tryd.func47, Tryd.ntmps47
  go_wp2_with fail
  obtain ⟨W, hW, hB, -, h0, h1, h2⟩ := new3 w (Obj.cells #[Value.int IntKind.i64 n, Value.slice A xs.length c] 24) (Obj.cells #[Value.int IntKind.i64 n, Value.slice B ys.length d] 24) (Obj.cells #[Value.int IntKind.i64 0, Value.slice none 0 0] 24)
  rw [hW]
  have HB := Aside0.mk hB
  have B0 := Aside0.mk h0
  have B1 := Aside0.mk h1
  have B2 := Aside0.mk h2
  clear hW hB h0 h1 h2
  refine (bCheck.calls 1 n _ c xs 0 W (Kd.C_below HR.out HB.out) HC.out HE.out).mono ?_
  rintro e w1 ⟨rfl, hb1⟩
  have B0' := Aside0.mk (blk_of_below B0.out hb1)
  have B1' := Aside0.mk (blk_of_below B1.out hb1)
  have B2' := Aside0.mk (blk_of_below B2.out hb1)
  obtain ⟨c10, c11, -, -⟩ := cells2 (blk_of_below B1.out hb1)
  have HB1 := Aside0.mk (below_step HB.out hb1)
  clear hb1 B0 B1 B2
  go_wp2_with fail
  refine (bCheck.calls 1 n _ d ys 0 w1 (Kd.C_below HR2.out HB1.out) HC2.out HE2.out).mono ?_
  rintro e w2 ⟨rfl, hb1⟩
  have B0 := Aside0.mk (blk_of_below B0'.out hb1)
  have B1 := Aside0.mk (blk_of_below B1'.out hb1)
  have B2 := Aside0.mk (blk_of_below B2'.out hb1)
  have HB2 := Aside0.mk (below_step HB1.out hb1)
  have HL : Aside0 (w.heap.size + 1 + 1 < w2.heap.size) := ⟨(Array.getElem?_eq_some_iff.1 B2.out).1⟩
  clear hb1 c10 c11 B0' B1' B2'
  obtain ⟨c00, c01, -, -⟩ := cells2 B0.out
  obtain ⟨c10, c11, -, -⟩ := cells2 B1.out
  go_wp2_with fail
  have ho3 := own_made w2 w2.heap.size 55 .u64 xs.length (Nat.le_refl _) (by omega)
  have hb3 := below_alloc (Below.refl w2.heap.size w2) (.cells (madeCells #[.int .u64 0] xs.length) 55)
  generalize w2.alloc (.cells (madeCells #[.int .u64 0] xs.length) 55) = w3 at ho3 hb3 ⊢
  have HO3 := Aside0.mk ho3
  have HB3 := Aside0.mk hb3
  clear ho3 hb3 c00 c01 c10 c11
  go_loopw [36] (fun i wr => ∃ k : Nat, k ≤ xs.length ∧ i = .int .i64 k ∧ wr.ownsRow w2.heap.size 55 1 (.slice (some ⟨w2.heap.size, 0, none⟩) xs.length xs.length) xs.length (nums .u64 (fill zs k)) ∧ Below w2.heap.size w2 wr)
    (fun i _ => xs.length - (intOf i).toNat)
  case atStart => exact ⟨0, Nat.zero_le _, rfl, by rw [fill_zero, HZL.out]; exact HO3.out, HB3.out⟩
  case round =>
    obtain ⟨k, hk, rfl, ho, hb⟩ := hrel
    have HO := Aside0.mk ho
    have HBr := Aside0.mk hb
    clear ho hb
    by_cases hlt : k < xs.length
    · obtain ⟨c00, c01, -, -⟩ := cells2 ((HBr.out.block _ (by have := HL.out; omega)).trans B0.out)
      obtain ⟨c10, c11, -, -⟩ := cells2 ((HBr.out.block _ (by have := HL.out; omega)).trans B1.out)
      obtain ⟨ad, hA, hxk⟩ := read_at (Kd.C_below (Kd.C_below HR.out HB2.out) HBr.out) hlt
      obtain ⟨bd, hB, hyk⟩ := read_at (Kd.C_below (Kd.C_below HR2.out HB2.out) HBr.out) (show k < ys.length by have := HXY.out; omega)
      subst hA
      subst hB
      have hlt2 : k < ys.length := by have := HXY.out; omega
      obtain ⟨x, hx⟩ : ∃ x, x = xs.getD k 0 := ⟨_, rfl⟩
      obtain ⟨y, hy⟩ : ∃ y, y = ys.getD k 0 := ⟨_, rfl⟩
      rw [← hx] at hxk
      rw [← hy] at hyk
      have HZK : Aside0 (Go.bits .and .u64 x y = zs.getD k 0) := ⟨by rw [HZ.out, hx, hy]; simp [List.getD, List.getElem?_zipWith, hlt, hlt2]⟩
      clear hx hy
      go_wp2_with fail
      go_still_tail 15, (by kernel_rfl)
      refine wpStill_step (fun K hK => ?_)
      go_simp
      refine ⟨_, and_op _ _ _, hK _ ?_⟩
      clear hK K
      repeat still_step
      refine wpStill_nil ?_
      change wpList _ _ _ _ _ wr.drew
      have hst := (HO.out.drew).stored k (.int .u64 (Go.bits .and .u64 x y))
      obtain ⟨hst1, hst2⟩ := hst
      have HO2 : Aside0 ((wr.drew.setCell ⟨w2.heap.size, k, none⟩ (.int .u64 (Go.bits .and .u64 x y))).ownsRow w2.heap.size 55 1 (.slice (some ⟨w2.heap.size, 0, none⟩) xs.length xs.length) xs.length (nums .u64 (fill zs (k + 1)))) := ⟨by
        have e : (nums .u64 (fill zs k)).set k (.int .u64 (Go.bits .and .u64 x y)) = nums .u64 (fill zs (k + 1)) := by
          rw [← fill_succ zs k (by rw [HZL.out]; exact hlt), HZK.out]
          simp [nums, List.map_set]
        rw [← e]; exact hst1⟩
      have HB2' : Aside0 (Below w2.heap.size w2 (wr.drew.setCell ⟨w2.heap.size, k, none⟩ (.int .u64 (Go.bits .and .u64 x y)))) := ⟨(below_drew1 HBr.out).setCell (p := ⟨w2.heap.size, k, none⟩) (Nat.le_refl _) _⟩
      have hd1 : ∃ v, wr.drew.cell? ⟨w2.heap.size, k, none⟩ = some v := by
        refine ⟨.int .u64 ((fill zs k).getD k 0), ?_⟩
        have e1 := HO.out.cellAt k (by omega)
        have e2 : (fill zs k).length = xs.length := by rw [fill_length _ _ (by rw [HZL.out]; omega), HZL.out]
        refine (show wr.drew.cell? ⟨w2.heap.size, k, none⟩ = wr.cell? ⟨w2.heap.size, k, none⟩ from rfl).trans (e1.trans ?_)
        simp [nums, List.getD, e2, hlt]
      obtain ⟨v0, hd1⟩ := hd1
      have hd2 : wr.drew.frozen? ⟨w2.heap.size, k, none⟩ = false := HO.out.frozenAt k
      clear hst1 hst2 hxk hyk
      go_wp2
      go_roundw
      case rel => exact ⟨k + 1, by omega, by go_num, HO2.out, HB2'.out⟩
      case measure => simp [intOf]; omega
    · obtain rfl : k = xs.length := by omega
      obtain ⟨c00, c01, -, -⟩ := cells2 ((HBr.out.block _ (by have := HL.out; omega)).trans B0.out)
      obtain ⟨c30, c31, f30, f31⟩ := cells2 ((HBr.out.block _ (by have := HL.out; omega)).trans B2.out)
      go_wp2
      refine bodyPost_ret (v := .tuple #[.agg #[.int .i64 n, .slice (some ⟨w2.heap.size, 0, none⟩) xs.length xs.length], .int .i64 0]) ?_ rfl ⟨_, rfl, ?_, ?_⟩
      · simp [results, Tryd.results47, go_sem, *]
      · have hrow : wr.ownsRow w.heap.size 55 1 (.slice (some ⟨w2.heap.size, 0, none⟩) xs.length xs.length) zs.length (encs (Value.int .u64) zs) := by
          have := own_weaken HO.out HB2.out.size
          rw [← HZL.out, fill_all, HZL.out] at this
          rw [HZL.out]
          exact this
        exact Kd.R_mono (Kd.R_far (p := ⟨w.heap.size + 1 + 1, 1, none⟩) (Kd.R_far (p := ⟨w.heap.size + 1 + 1, 0, none⟩) (Kd.R_types (Kd.R_of_own (ok := fun _ => True) hrow (fun _ _ => trivial)) ((HBr.out.block _ (by have := HL.out; omega)).trans B2.out) (by decide)) (fun k hk => hk.2) _) (fun k hk => hk.2) _) (fun _ _ => trivial)
      · exact ((HB2.out.trans (HBr.out.mono HB2.out.size)).setCell (p := ⟨w.heap.size + 1 + 1, 0, none⟩) (show w.heap.size ≤ w.heap.size + 1 + 1 by omega) _).setCell (p := ⟨w.heap.size + 1 + 1, 1, none⟩) (show w.heap.size ≤ w.heap.size + 1 + 1 by omega) _
theorem and_both (n : Int) (A : Option Addr) (c : Nat) (xs : List Int) (m : Int) (B : Option Addr) (d : Nat) (ys : List Int) (w : World) (hr : Kd.C (Kd.int .u64) w A xs.length xs) (hc : xs.length ≤ c) (hr2 : Kd.C (Kd.int .u64) w B ys.length ys) (hc2 : ys.length ≤ d) :
    Calls Tryd.prog 47 #[.agg #[.int .i64 n, .slice A xs.length c], .agg #[.int .i64 m, .slice B ys.length d], .func (.func 51) #[] #[]] w fun e w' => ∃ v1_ : Value, e = .returned (.tuple #[.agg #[.int .i64 (bBoth .and n xs m ys).1, v1_], .int .i64 (bBoth .and n xs m ys).2.2]) ∧ Kd.R (Kd.int .u64) 55 w' w.heap.size (fun _ => True) v1_ (bBoth .and n xs m ys).2.1 ∧ Below w.heap.size w w' := by
  by_cases hg : Good n xs
  · by_cases hh : Good m ys
    · by_cases hnm : n = m
      · subst hnm
        have e : bBoth .and n xs n ys = (n, List.zipWith (Go.bits .and .u64) xs ys, 0) := by
          unfold bBoth
          rw [if_pos ((good_iff _ _).2 hg), if_pos ((good_iff _ _).2 hh), if_pos rfl]
        rw [e]
        have := hg.len_le; have := hg.len; have := hh.len
        exact and_ok n A c xs B d ys w hr hc hr2 hc2 (good_yes hg 0) (good_yes hh 0) (by omega) (by omega)
      · have e : bBoth .and n xs m ys = (0, [], 22) := by
          unfold bBoth
          rw [if_pos ((good_iff _ _).2 hg), if_pos ((good_iff _ _).2 hh), if_neg hnm]
        rw [e]
        exact (both_good n A c xs m B d ys w hr hc hr2 hc2 (good_yes hg 0) (good_yes hh 0) hnm _).mono fun e w' ⟨he, hb⟩ => ⟨_, he, Kd.R_nil _ _ _ _ _, hb⟩
    · have e : bBoth .and n xs m ys = (0, [], 3) := by
        unfold bBoth
        rw [if_pos ((good_iff _ _).2 hg), if_neg (fun h => hh ((good_iff _ _).1 h))]
      rw [e]
      exact (both_bad2 n A c xs m B d ys w hr hc hr2 hc2 (good_yes hg 0) (good_no hh 0) _).mono fun e w' ⟨he, hb⟩ => ⟨_, he, Kd.R_nil _ _ _ _ _, hb⟩
  · have e : bBoth .and n xs m ys = (0, [], 3) := by
      unfold bBoth
      rw [if_neg (fun h => hg ((good_iff _ _).1 h))]
    rw [e]
    exact (both_bad1 n A c xs m B d ys w hr hc (good_no hg 0) _).mono fun e w' ⟨he, hb⟩ => ⟨_, he, Kd.R_nil _ _ _ _ _, hb⟩
set_option maxHeartbeats 2000000 in
set_option maxRecDepth 100000 in
theorem bAnd.calls (a0_0 : Int) (A0_1 : Option Addr) (c0_1 : Nat) (l0_1 : List Int) (a1_0 : Int) (A1_1 : Option Addr) (c1_1 : Nat) (l1_1 : List Int) (r1 : Int) (r2 : List Int) (r3 : Int) (w : World) (hr0_1 : Kd.C (Kd.int .u64) w A0_1 l0_1.length l0_1) (hc0_1 : l0_1.length ≤ c0_1) (hr1_1 : Kd.C (Kd.int .u64) w A1_1 l1_1.length l1_1) (hc1_1 : l1_1.length ≤ c1_1) (h : bAnd.f a0_0 l0_1 a1_0 l1_1 = some (r1, r2, r3)) :
    Calls Tryd.prog 35 #[.agg #[.int .i64 a0_0, .slice A0_1 l0_1.length c0_1], .agg #[.int .i64 a1_0, .slice A1_1 l1_1.length c1_1]] w fun e w' => ∃ v1_ : Value, e = .returned (.tuple #[.agg #[.int .i64 r1, v1_], .int .i64 r3]) ∧ Kd.R (Kd.int .u64) 55 w' w.heap.size (fun _ => True) v1_ r2 ∧ Below w.heap.size w w' := by
  obtain ⟨rfl, rfl, rfl⟩ : (bBoth .and a0_0 l0_1 a1_0 l1_1).1 = r1 ∧ (bBoth .and a0_0 l0_1 a1_0 l1_1).2.1 = r2 ∧ (bBoth .and a0_0 l0_1 a1_0 l1_1).2.2 = r3 := by
    have := Option.some.inj h
    rw [this]; exact ⟨rfl, rfl, rfl⟩
  have HR := Aside0.mk hr0_1
  have HC := Aside0.mk hc0_1
  have HR2 := Aside0.mk hr1_1
  have HC2 := Aside0.mk hc1_1
  have HA := fun (W : World) (hb : Below w.heap.size w W) => and_both a0_0 A0_1 c0_1 l0_1 a1_0 A1_1 c1_1 l1_1 W (Kd.C_below HR.out hb) HC.out (Kd.C_below HR2.out hb) HC2.out
  generalize bBoth .and a0_0 l0_1 a1_0 l1_1 = q at HA ⊢
  have HQ := Aside0.mk HA
  clear hr0_1 hc0_1 hr1_1 hc1_1 h HA
  go_enter Tryd.func35, Tryd.ntmps35
  go_wp2_with fail
  obtain ⟨W, hW, hB, -, -, -, h2⟩ := new3 w (Obj.cells #[Value.int IntKind.i64 a0_0, Value.slice A0_1 l0_1.length c0_1] 24) (Obj.cells #[Value.int IntKind.i64 a1_0, Value.slice A1_1 l1_1.length c1_1] 24) (Obj.cells #[Value.int IntKind.i64 0, Value.slice none 0 0] 24)
  rw [hW]
  have HB := Aside0.mk hB
  have B2 := Aside0.mk h2
  clear hW hB h2
  refine (HQ.out W HB.out).mono ?_
  rintro e w1 ⟨v1, rfl, hR, hb1⟩
  obtain ⟨A2, c2, rfl⟩ : ∃ A2 c2, v1 = .slice A2 q.2.1.length c2 := by
    obtain ⟨inner, ho, -⟩ := hR.2
    exact own_slice ho
  obtain ⟨c30, c31, f30, f31⟩ := cells2 (blk_of_below B2.out hb1)
  have HB1 := Aside0.mk (below_step HB.out hb1)
  have HRR := Aside0.mk (Kd.R_types (Kd.R_lower hR HB.out.size) (blk_of_below B2.out hb1) (by decide))
  clear hb1 hR
  go_wp2_with fail
  refine bodyPost_ret (v := .tuple #[.agg #[.int .i64 q.1, .slice A2 q.2.1.length c2], .int .i64 q.2.2]) ?_ rfl ⟨_, rfl, ?_, ?_⟩
  · simp [results, Tryd.results35, go_sem, *]
  · exact Kd.R_mono (Kd.R_far (p := ⟨w.heap.size + 1 + 1, 1, none⟩) (Kd.R_far (p := ⟨w.heap.size + 1 + 1, 0, none⟩) HRR.out (fun k hk => hk.2) _) (fun k hk => hk.2) _) (fun _ _ => trivial)
  · exact (HB1.out.setCell (p := ⟨w.heap.size + 1 + 1, 0, none⟩) (show w.heap.size ≤ w.heap.size + 1 + 1 by omega) _).setCell (p := ⟨w.heap.size + 1 + 1, 1, none⟩) (show w.heap.size ≤ w.heap.size + 1 + 1 by omega) _
theorem andNot_op (a b : Int) (w : World) : Calls Tryd.prog 52 #[.int .u64 a, .int .u64 b] w fun e w' => e = .returned (.int .u64 (Go.bits .andNot .u64 a b)) ∧ w' = w := by
  go_enter Tryd.func52, Tryd.ntmps52
  go_wp2
  go_ret
  exact ⟨rfl, rfl⟩
set_option maxHeartbeats 4000000 in
set_option maxRecDepth 100000 in
theorem andNot_ok (n : Int) (A : Option Addr) (c : Nat) (xs : List Int) (B : Option Addr) (d : Nat) (ys : List Int) (w : World) (hr : Kd.C (Kd.int .u64) w A xs.length xs) (hc : xs.length ≤ c) (hr2 : Kd.C (Kd.int .u64) w B ys.length ys) (hc2 : ys.length ≤ d) (he : bCheck.f 1 n xs = some 0) (he2 : bCheck.f 1 n ys = some 0)
    (hlen : xs.length ≤ 100) (hxy : xs.length = ys.length) :
    Calls Tryd.prog 47 #[.agg #[.int .i64 n, .slice A xs.length c], .agg #[.int .i64 n, .slice B ys.length d], .func (.func 52) #[] #[]] w fun e w' => ∃ v1_ : Value, e = .returned (.tuple #[.agg #[.int .i64 n, v1_], .int .i64 0]) ∧ Kd.R (Kd.int .u64) 55 w' w.heap.size (fun _ => True) v1_ (List.zipWith (Go.bits .andNot .u64) xs ys) ∧ Below w.heap.size w w' := by
  have HR := Aside0.mk hr
  have HC := Aside0.mk hc
  have HE := Aside0.mk he
  have HR2 := Aside0.mk hr2
  have HC2 := Aside0.mk hc2
  have HE2 := Aside0.mk he2
  have HXY := Aside0.mk hxy
  have hmk := print_make (P := Tryd.prog) 22 55 .u64 8 Tryd.underlying22 infoU64 (by decide) xs.length (by omega)
  obtain ⟨zs, hz⟩ : ∃ zs, zs = List.zipWith (Go.bits .andNot .u64) xs ys := ⟨_, rfl⟩
  have hzl : zs.length = xs.length := by rw [hz]; simp; omega
  have HZ := Aside0.mk hz
  have HZL := Aside0.mk hzl
  rw [← hz]
  clear hr hc he hr2 hc2 he2 hxy hz hzl
  go_enter Tryd.func47, Tryd.ntmps47
  go_wp2_with fail
  obtain ⟨W, hW, hB, -, h0, h1, h2⟩ := new3 w (Obj.cells #[Value.int IntKind.i64 n, Value.slice A xs.length c] 24) (Obj.cells #[Value.int IntKind.i64 n, Value.slice B ys.length d] 24) (Obj.cells #[Value.int IntKind.i64 0, Value.slice none 0 0] 24)
  rw [hW]
  have HB := Aside0.mk hB
  have B0 := Aside0.mk h0
  have B1 := Aside0.mk h1
  have B2 := Aside0.mk h2
  clear hW hB h0 h1 h2
  refine (bCheck.calls 1 n _ c xs 0 W (Kd.C_below HR.out HB.out) HC.out HE.out).mono ?_
  rintro e w1 ⟨rfl, hb1⟩
  have B0' := Aside0.mk (blk_of_below B0.out hb1)
  have B1' := Aside0.mk (blk_of_below B1.out hb1)
  have B2' := Aside0.mk (blk_of_below B2.out hb1)
  obtain ⟨c10, c11, -, -⟩ := cells2 (blk_of_below B1.out hb1)
  have HB1 := Aside0.mk (below_step HB.out hb1)
  clear hb1 B0 B1 B2
  go_wp2_with fail
  refine (bCheck.calls 1 n _ d ys 0 w1 (Kd.C_below HR2.out HB1.out) HC2.out HE2.out).mono ?_
  rintro e w2 ⟨rfl, hb1⟩
  have B0 := Aside0.mk (blk_of_below B0'.out hb1)
  have B1 := Aside0.mk (blk_of_below B1'.out hb1)
  have B2 := Aside0.mk (blk_of_below B2'.out hb1)
  have HB2 := Aside0.mk (below_step HB1.out hb1)
  have HL : Aside0 (w.heap.size + 1 + 1 < w2.heap.size) := ⟨(Array.getElem?_eq_some_iff.1 B2.out).1⟩
  clear hb1 c10 c11 B0' B1' B2'
  obtain ⟨c00, c01, -, -⟩ := cells2 B0.out
  obtain ⟨c10, c11, -, -⟩ := cells2 B1.out
  go_wp2_with fail
  have ho3 := own_made w2 w2.heap.size 55 .u64 xs.length (Nat.le_refl _) (by omega)
  have hb3 := below_alloc (Below.refl w2.heap.size w2) (.cells (madeCells #[.int .u64 0] xs.length) 55)
  generalize w2.alloc (.cells (madeCells #[.int .u64 0] xs.length) 55) = w3 at ho3 hb3 ⊢
  have HO3 := Aside0.mk ho3
  have HB3 := Aside0.mk hb3
  clear ho3 hb3 c00 c01 c10 c11
  go_loopw [36] (fun i wr => ∃ k : Nat, k ≤ xs.length ∧ i = .int .i64 k ∧ wr.ownsRow w2.heap.size 55 1 (.slice (some ⟨w2.heap.size, 0, none⟩) xs.length xs.length) xs.length (nums .u64 (fill zs k)) ∧ Below w2.heap.size w2 wr)
    (fun i _ => xs.length - (intOf i).toNat)
  case atStart => exact ⟨0, Nat.zero_le _, rfl, by rw [fill_zero, HZL.out]; exact HO3.out, HB3.out⟩
  case round =>
    obtain ⟨k, hk, rfl, ho, hb⟩ := hrel
    have HO := Aside0.mk ho
    have HBr := Aside0.mk hb
    clear ho hb
    by_cases hlt : k < xs.length
    · obtain ⟨c00, c01, -, -⟩ := cells2 ((HBr.out.block _ (by have := HL.out; omega)).trans B0.out)
      obtain ⟨c10, c11, -, -⟩ := cells2 ((HBr.out.block _ (by have := HL.out; omega)).trans B1.out)
      obtain ⟨ad, hA, hxk⟩ := read_at (Kd.C_below (Kd.C_below HR.out HB2.out) HBr.out) hlt
      obtain ⟨bd, hB, hyk⟩ := read_at (Kd.C_below (Kd.C_below HR2.out HB2.out) HBr.out) (show k < ys.length by have := HXY.out; omega)
      subst hA
      subst hB
      have hlt2 : k < ys.length := by have := HXY.out; omega
      obtain ⟨x, hx⟩ : ∃ x, x = xs.getD k 0 := ⟨_, rfl⟩
      obtain ⟨y, hy⟩ : ∃ y, y = ys.getD k 0 := ⟨_, rfl⟩
      rw [← hx] at hxk
      rw [← hy] at hyk
      have HZK : Aside0 (Go.bits .andNot .u64 x y = zs.getD k 0) := ⟨by rw [HZ.out, hx, hy]; simp [List.getD, List.getElem?_zipWith, hlt, hlt2]⟩
      clear hx hy
      go_wp2_with fail
      go_still_tail 15, (by kernel_rfl)
      refine wpStill_step (fun K hK => ?_)
      go_simp
      refine ⟨_, andNot_op _ _ _, hK _ ?_⟩
      clear hK K
      repeat still_step
      refine wpStill_nil ?_
      change wpList _ _ _ _ _ wr.drew
      have hst := (HO.out.drew).stored k (.int .u64 (Go.bits .andNot .u64 x y))
      obtain ⟨hst1, hst2⟩ := hst
      have HO2 : Aside0 ((wr.drew.setCell ⟨w2.heap.size, k, none⟩ (.int .u64 (Go.bits .andNot .u64 x y))).ownsRow w2.heap.size 55 1 (.slice (some ⟨w2.heap.size, 0, none⟩) xs.length xs.length) xs.length (nums .u64 (fill zs (k + 1)))) := ⟨by
        have e : (nums .u64 (fill zs k)).set k (.int .u64 (Go.bits .andNot .u64 x y)) = nums .u64 (fill zs (k + 1)) := by
          rw [← fill_succ zs k (by rw [HZL.out]; exact hlt), HZK.out]
          simp [nums, List.map_set]
        rw [← e]; exact hst1⟩
      have HB2' : Aside0 (Below w2.heap.size w2 (wr.drew.setCell ⟨w2.heap.size, k, none⟩ (.int .u64 (Go.bits .andNot .u64 x y)))) := ⟨(below_drew1 HBr.out).setCell (p := ⟨w2.heap.size, k, none⟩) (Nat.le_refl _) _⟩
      have hd1 : ∃ v, wr.drew.cell? ⟨w2.heap.size, k, none⟩ = some v := by
        refine ⟨.int .u64 ((fill zs k).getD k 0), ?_⟩
        have e1 := HO.out.cellAt k (by omega)
        have e2 : (fill zs k).length = xs.length := by rw [fill_length _ _ (by rw [HZL.out]; omega), HZL.out]
        refine (show wr.drew.cell? ⟨w2.heap.size, k, none⟩ = wr.cell? ⟨w2.heap.size, k, none⟩ from rfl).trans (e1.trans ?_)
        simp [nums, List.getD, e2, hlt]
      obtain ⟨v0, hd1⟩ := hd1
      have hd2 : wr.drew.frozen? ⟨w2.heap.size, k, none⟩ = false := HO.out.frozenAt k
      clear hst1 hst2 hxk hyk
      go_wp2
      go_roundw
      case rel => exact ⟨k + 1, by omega, by go_num, HO2.out, HB2'.out⟩
      case measure => simp [intOf]; omega
    · obtain rfl : k = xs.length := by omega
      obtain ⟨c00, c01, -, -⟩ := cells2 ((HBr.out.block _ (by have := HL.out; omega)).trans B0.out)
      obtain ⟨c30, c31, f30, f31⟩ := cells2 ((HBr.out.block _ (by have := HL.out; omega)).trans B2.out)
      go_wp2
      refine bodyPost_ret (v := .tuple #[.agg #[.int .i64 n, .slice (some ⟨w2.heap.size, 0, none⟩) xs.length xs.length], .int .i64 0]) ?_ rfl ⟨_, rfl, ?_, ?_⟩
      · simp [results, Tryd.results47, go_sem, *]
      · have hrow : wr.ownsRow w.heap.size 55 1 (.slice (some ⟨w2.heap.size, 0, none⟩) xs.length xs.length) zs.length (encs (Value.int .u64) zs) := by
          have := own_weaken HO.out HB2.out.size
          rw [← HZL.out, fill_all, HZL.out] at this
          rw [HZL.out]
          exact this
        exact Kd.R_mono (Kd.R_far (p := ⟨w.heap.size + 1 + 1, 1, none⟩) (Kd.R_far (p := ⟨w.heap.size + 1 + 1, 0, none⟩) (Kd.R_types (Kd.R_of_own (ok := fun _ => True) hrow (fun _ _ => trivial)) ((HBr.out.block _ (by have := HL.out; omega)).trans B2.out) (by decide)) (fun k hk => hk.2) _) (fun k hk => hk.2) _) (fun _ _ => trivial)
      · exact ((HB2.out.trans (HBr.out.mono HB2.out.size)).setCell (p := ⟨w.heap.size + 1 + 1, 0, none⟩) (show w.heap.size ≤ w.heap.size + 1 + 1 by omega) _).setCell (p := ⟨w.heap.size + 1 + 1, 1, none⟩) (show w.heap.size ≤ w.heap.size + 1 + 1 by omega) _
theorem andNot_both (n : Int) (A : Option Addr) (c : Nat) (xs : List Int) (m : Int) (B : Option Addr) (d : Nat) (ys : List Int) (w : World) (hr : Kd.C (Kd.int .u64) w A xs.length xs) (hc : xs.length ≤ c) (hr2 : Kd.C (Kd.int .u64) w B ys.length ys) (hc2 : ys.length ≤ d) :
    Calls Tryd.prog 47 #[.agg #[.int .i64 n, .slice A xs.length c], .agg #[.int .i64 m, .slice B ys.length d], .func (.func 52) #[] #[]] w fun e w' => ∃ v1_ : Value, e = .returned (.tuple #[.agg #[.int .i64 (bBoth .andNot n xs m ys).1, v1_], .int .i64 (bBoth .andNot n xs m ys).2.2]) ∧ Kd.R (Kd.int .u64) 55 w' w.heap.size (fun _ => True) v1_ (bBoth .andNot n xs m ys).2.1 ∧ Below w.heap.size w w' := by
  by_cases hg : Good n xs
  · by_cases hh : Good m ys
    · by_cases hnm : n = m
      · subst hnm
        have e : bBoth .andNot n xs n ys = (n, List.zipWith (Go.bits .andNot .u64) xs ys, 0) := by
          unfold bBoth
          rw [if_pos ((good_iff _ _).2 hg), if_pos ((good_iff _ _).2 hh), if_pos rfl]
        rw [e]
        have := hg.len_le; have := hg.len; have := hh.len
        exact andNot_ok n A c xs B d ys w hr hc hr2 hc2 (good_yes hg 0) (good_yes hh 0) (by omega) (by omega)
      · have e : bBoth .andNot n xs m ys = (0, [], 22) := by
          unfold bBoth
          rw [if_pos ((good_iff _ _).2 hg), if_pos ((good_iff _ _).2 hh), if_neg hnm]
        rw [e]
        exact (both_good n A c xs m B d ys w hr hc hr2 hc2 (good_yes hg 0) (good_yes hh 0) hnm _).mono fun e w' ⟨he, hb⟩ => ⟨_, he, Kd.R_nil _ _ _ _ _, hb⟩
    · have e : bBoth .andNot n xs m ys = (0, [], 3) := by
        unfold bBoth
        rw [if_pos ((good_iff _ _).2 hg), if_neg (fun h => hh ((good_iff _ _).1 h))]
      rw [e]
      exact (both_bad2 n A c xs m B d ys w hr hc hr2 hc2 (good_yes hg 0) (good_no hh 0) _).mono fun e w' ⟨he, hb⟩ => ⟨_, he, Kd.R_nil _ _ _ _ _, hb⟩
  · have e : bBoth .andNot n xs m ys = (0, [], 3) := by
      unfold bBoth
      rw [if_neg (fun h => hg ((good_iff _ _).1 h))]
    rw [e]
    exact (both_bad1 n A c xs m B d ys w hr hc (good_no hg 0) _).mono fun e w' ⟨he, hb⟩ => ⟨_, he, Kd.R_nil _ _ _ _ _, hb⟩
set_option maxHeartbeats 2000000 in
set_option maxRecDepth 100000 in
theorem bAndNot.calls (a0_0 : Int) (A0_1 : Option Addr) (c0_1 : Nat) (l0_1 : List Int) (a1_0 : Int) (A1_1 : Option Addr) (c1_1 : Nat) (l1_1 : List Int) (r1 : Int) (r2 : List Int) (r3 : Int) (w : World) (hr0_1 : Kd.C (Kd.int .u64) w A0_1 l0_1.length l0_1) (hc0_1 : l0_1.length ≤ c0_1) (hr1_1 : Kd.C (Kd.int .u64) w A1_1 l1_1.length l1_1) (hc1_1 : l1_1.length ≤ c1_1) (h : bAndNot.f a0_0 l0_1 a1_0 l1_1 = some (r1, r2, r3)) :
    Calls Tryd.prog 37 #[.agg #[.int .i64 a0_0, .slice A0_1 l0_1.length c0_1], .agg #[.int .i64 a1_0, .slice A1_1 l1_1.length c1_1]] w fun e w' => ∃ v1_ : Value, e = .returned (.tuple #[.agg #[.int .i64 r1, v1_], .int .i64 r3]) ∧ Kd.R (Kd.int .u64) 55 w' w.heap.size (fun _ => True) v1_ r2 ∧ Below w.heap.size w w' := by
  obtain ⟨rfl, rfl, rfl⟩ : (bBoth .andNot a0_0 l0_1 a1_0 l1_1).1 = r1 ∧ (bBoth .andNot a0_0 l0_1 a1_0 l1_1).2.1 = r2 ∧ (bBoth .andNot a0_0 l0_1 a1_0 l1_1).2.2 = r3 := by
    have := Option.some.inj h
    rw [this]; exact ⟨rfl, rfl, rfl⟩
  have HR := Aside0.mk hr0_1
  have HC := Aside0.mk hc0_1
  have HR2 := Aside0.mk hr1_1
  have HC2 := Aside0.mk hc1_1
  have HA := fun (W : World) (hb : Below w.heap.size w W) => andNot_both a0_0 A0_1 c0_1 l0_1 a1_0 A1_1 c1_1 l1_1 W (Kd.C_below HR.out hb) HC.out (Kd.C_below HR2.out hb) HC2.out
  generalize bBoth .andNot a0_0 l0_1 a1_0 l1_1 = q at HA ⊢
  have HQ := Aside0.mk HA
  clear hr0_1 hc0_1 hr1_1 hc1_1 h HA
  go_enter Tryd.func37, Tryd.ntmps37
  go_wp2_with fail
  obtain ⟨W, hW, hB, -, -, -, h2⟩ := new3 w (Obj.cells #[Value.int IntKind.i64 a0_0, Value.slice A0_1 l0_1.length c0_1] 24) (Obj.cells #[Value.int IntKind.i64 a1_0, Value.slice A1_1 l1_1.length c1_1] 24) (Obj.cells #[Value.int IntKind.i64 0, Value.slice none 0 0] 24)
  rw [hW]
  have HB := Aside0.mk hB
  have B2 := Aside0.mk h2
  clear hW hB h2
  refine (HQ.out W HB.out).mono ?_
  rintro e w1 ⟨v1, rfl, hR, hb1⟩
  obtain ⟨A2, c2, rfl⟩ : ∃ A2 c2, v1 = .slice A2 q.2.1.length c2 := by
    obtain ⟨inner, ho, -⟩ := hR.2
    exact own_slice ho
  obtain ⟨c30, c31, f30, f31⟩ := cells2 (blk_of_below B2.out hb1)
  have HB1 := Aside0.mk (below_step HB.out hb1)
  have HRR := Aside0.mk (Kd.R_types (Kd.R_lower hR HB.out.size) (blk_of_below B2.out hb1) (by decide))
  clear hb1 hR
  go_wp2_with fail
  refine bodyPost_ret (v := .tuple #[.agg #[.int .i64 q.1, .slice A2 q.2.1.length c2], .int .i64 q.2.2]) ?_ rfl ⟨_, rfl, ?_, ?_⟩
  · simp [results, Tryd.results37, go_sem, *]
  · exact Kd.R_mono (Kd.R_far (p := ⟨w.heap.size + 1 + 1, 1, none⟩) (Kd.R_far (p := ⟨w.heap.size + 1 + 1, 0, none⟩) HRR.out (fun k hk => hk.2) _) (fun k hk => hk.2) _) (fun _ _ => trivial)
  · exact (HB1.out.setCell (p := ⟨w.heap.size + 1 + 1, 0, none⟩) (show w.heap.size ≤ w.heap.size + 1 + 1 by omega) _).setCell (p := ⟨w.heap.size + 1 + 1, 1, none⟩) (show w.heap.size ≤ w.heap.size + 1 + 1 by omega) _
end Go.Proofs.YthpldfjjdmjcoaaDoor.P
