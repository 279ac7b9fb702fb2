/-
  Parts of the proof of the law BitmapCounts (part 2): what the functions it reaches come to, and the plain law. Conditions: those that each theorem names.
-/
import Derived.KernelRfl
import Derived.Test.YthpldfjjdmjcoaaDoorCBitmapCounts1
namespace Go.Proofs.YthpldfjjdmjcoaaDoor.P
open Go.RowKit Go.Proofs.YthpldfjjdmjcoaaDoorW.PrintWords Go.Proofs.YthpldfjjdmjcoaaDoorW.PrintLast Go.Proofs.YthpldfjjdmjcoaaDoorW.PrintMore
attribute [local go_sem] max2_int min2_int max_two min_two max_three min_three max_four min_four   -- for this text's walks alone
set_option linter.unusedVariables false
set_option linter.unusedSimpArgs false
def l02awake.j0 : Nat → Bool → Int → List Int → Int → List Int → Option (Bool)
  | 0, _, _, _, _, _ => none
  | k + 1, x51, x220000, x220001, x226000, x226001 => if x51 = true then (some false) else ((bExtents.f x226000 x226001).bind fun t232 => (if 0 < (x220001.length : Int) then (if (rd x220001 0) = 17293822569102704640 then (if 1 < (x220001.length : Int) then (if (rd x220001 1) = 15 then ((bNext.f x220000 x220001 0).bind fun t237 => (if t237 = 60 then ((bNext.f x220000 x220001 68).bind fun t238 => (if t238 = (-1) then ((bCount.f k x220000 x220001).bind fun t239 => (if t239 = 8 then ((r02SameExtents.f k t232 (([(⟨60, 2⟩ : S26), (⟨64, 4⟩ : S26)] : List (S26)))).bind fun t243 => (if t243 = true then ((bCheck.f k 3 (([8] : List Int))).bind fun t247 => (some (t247 == 3))) else (some false))) else (some false))) else (some false))) else (some false))) else (some false)) else (none)) else (some false)) else (none)))
def l02awake.f (k : Nat)  : Option (Bool) := (bNew.f 70).bind fun bt208 => ((bSet.f bt208.1 bt208.2.1 60 8).bind fun bt214 => ((bClear.f bt214.1 bt214.2.1 62 2).bind fun bt220 => ((bSet.f bt208.1 bt208.2.1 69 2).bind fun bt226 => (if bt208.2.2 = 0 then (if bt214.2.2 = 0 then (if bt220.2.2 = 0 then (if bt226.2.2 = 2 then (l02awake.j0 k ((bt214.2.1.length : Int) != 2) bt214.1 bt214.2.1 bt220.1 bt220.2.1) else (l02awake.j0 k true bt214.1 bt214.2.1 bt220.1 bt220.2.1)) else (l02awake.j0 k true bt214.1 bt214.2.1 bt220.1 bt220.2.1)) else (l02awake.j0 k true bt214.1 bt214.2.1 bt220.1 bt220.2.1)) else (l02awake.j0 k true bt214.1 bt214.2.1 bt220.1 bt220.2.1)))))
theorem l02awake.mono_l : ∀ k, (∀ y0 y1 y2 y3 y4, LeO (l02awake.j0 k y0 y1 y2 y3 y4) (l02awake.j0 (k + 1) y0 y1 y2 y3 y4))
  | 0 => fun _ _ _ _ _ r h => by simp [l02awake.j0] at h
  | k + 1 => by
    have ih0 := l02awake.mono_l k
    · intro y0 y1 y2 y3 y4
      unfold l02awake.j0
      repeat' first
      | (with_reducible exact ih0 _ _ _ _ _)
      | (with_reducible exact bCheck.mono _ _ _)
      | (with_reducible exact bCount.mono _ _ _)
      | (with_reducible exact r02SameExtents.mono _ _ _)
      | (with_reducible exact LeO.refl _)
      | (with_reducible exact LeO.none _)
      | (with_reducible refine LeO.ite ?_ ?_)
      | (with_reducible refine LeO.bind ?_ (fun _ => ?_))
      | exact ih0 _ _ _ _ _
      | exact bCheck.mono _ _ _
      | exact bCount.mono _ _ _
      | exact r02SameExtents.mono _ _ _
      | exact LeO.none _
      | refine LeO.ite ?_ ?_
      | refine LeO.bind ?_ (fun _ => ?_)
theorem l02awake.mono : ∀ k, LeO (l02awake.f k ) (l02awake.f (k + 1) ) := by
  intro  k
  have ih0 := l02awake.mono_l k
  unfold l02awake.f
  repeat' first
      | (with_reducible exact ih0 _ _ _ _ _)
      | (with_reducible exact bCheck.mono _ _ _)
      | (with_reducible exact bCount.mono _ _ _)
      | (with_reducible exact r02SameExtents.mono _ _ _)
      | (with_reducible exact LeO.refl _)
      | (with_reducible exact LeO.none _)
      | (with_reducible refine LeO.ite ?_ ?_)
      | (with_reducible refine LeO.bind ?_ (fun _ => ?_))
      | exact ih0 _ _ _ _ _
      | exact bCheck.mono _ _ _
      | exact bCount.mono _ _ _
      | exact r02SameExtents.mono _ _ _
      | exact LeO.none _
      | refine LeO.ite ?_ ?_
      | refine LeO.bind ?_ (fun _ => ?_)
set_option maxHeartbeats 8000000 in
set_option maxRecDepth 100000 in
theorem l02awake.calls (k : Nat)  (r : Bool) (w : World) (hG : TabOK w) (h : l02awake.f k  = some r) :
    Calls Tryd.prog 12 #[] w fun e w' => e = .returned (.bool r) ∧ Below w.heap.size w w' := by
  have hu24 := Tryd.underlying24
  have hu26 := Tryd.underlying26
  have HB := Aside0.mk (Below.refl w.heap.size w)
  have H : ((bNew.f 70).bind fun bt208 => ((bSet.f bt208.1 bt208.2.1 60 8).bind fun bt214 => ((bClear.f bt214.1 bt214.2.1 62 2).bind fun bt220 => ((bSet.f bt208.1 bt208.2.1 69 2).bind fun bt226 => (if bt208.2.2 = 0 then (if bt214.2.2 = 0 then (if bt220.2.2 = 0 then (if bt226.2.2 = 2 then (l02awake.j0 k ((bt214.2.1.length : Int) != 2) bt214.1 bt214.2.1 bt220.1 bt220.2.1) else (l02awake.j0 k true bt214.1 bt214.2.1 bt220.1 bt220.2.1)) else (l02awake.j0 k true bt214.1 bt214.2.1 bt220.1 bt220.2.1)) else (l02awake.j0 k true bt214.1 bt214.2.1 bt220.1 bt220.2.1)) else (l02awake.j0 k true bt214.1 bt214.2.1 bt220.1 bt220.2.1)))))) = some r := h
  clear h
  replace H := Option.bind_eq_some_iff.mp H
  obtain ⟨⟨t208, t209, t212⟩, A10, H⟩ := H
  replace H : ((bSet.f t208 t209 60 8).bind fun bt214 => ((bClear.f bt214.1 bt214.2.1 62 2).bind fun bt220 => ((bSet.f t208 t209 69 2).bind fun bt226 => (if t212 = 0 then (if bt214.2.2 = 0 then (if bt220.2.2 = 0 then (if bt226.2.2 = 2 then (l02awake.j0 k ((bt214.2.1.length : Int) != 2) bt214.1 bt214.2.1 bt220.1 bt220.2.1) else (l02awake.j0 k true bt214.1 bt214.2.1 bt220.1 bt220.2.1)) else (l02awake.j0 k true bt214.1 bt214.2.1 bt220.1 bt220.2.1)) else (l02awake.j0 k true bt214.1 bt214.2.1 bt220.1 bt220.2.1)) else (l02awake.j0 k true bt214.1 bt214.2.1 bt220.1 bt220.2.1))))) = some r := H
  have A1 := Aside0.mk A10
  clear A10
  replace H := Option.bind_eq_some_iff.mp H
  obtain ⟨⟨t214, t215, t218⟩, A20, H⟩ := H
  replace H : ((bClear.f t214 t215 62 2).bind fun bt220 => ((bSet.f t208 t209 69 2).bind fun bt226 => (if t212 = 0 then (if t218 = 0 then (if bt220.2.2 = 0 then (if bt226.2.2 = 2 then (l02awake.j0 k ((t215.length : Int) != 2) t214 t215 bt220.1 bt220.2.1) else (l02awake.j0 k true t214 t215 bt220.1 bt220.2.1)) else (l02awake.j0 k true t214 t215 bt220.1 bt220.2.1)) else (l02awake.j0 k true t214 t215 bt220.1 bt220.2.1)) else (l02awake.j0 k true t214 t215 bt220.1 bt220.2.1)))) = some r := H
  have A2 := Aside0.mk A20
  clear A20
  replace H := Option.bind_eq_some_iff.mp H
  obtain ⟨⟨t220, t221, t224⟩, A30, H⟩ := H
  replace H : ((bSet.f t208 t209 69 2).bind fun bt226 => (if t212 = 0 then (if t218 = 0 then (if t224 = 0 then (if bt226.2.2 = 2 then (l02awake.j0 k ((t215.length : Int) != 2) t214 t215 t220 t221) else (l02awake.j0 k true t214 t215 t220 t221)) else (l02awake.j0 k true t214 t215 t220 t221)) else (l02awake.j0 k true t214 t215 t220 t221)) else (l02awake.j0 k true t214 t215 t220 t221))) = some r := H
  have A3 := Aside0.mk A30
  clear A30
  replace H := Option.bind_eq_some_iff.mp H
  obtain ⟨⟨t226, t227, t230⟩, A40, H⟩ := H
  replace H : (if t212 = 0 then (if t218 = 0 then (if t224 = 0 then (if t230 = 2 then (l02awake.j0 k ((t215.length : Int) != 2) t214 t215 t220 t221) else (l02awake.j0 k true t214 t215 t220 t221)) else (l02awake.j0 k true t214 t215 t220 t221)) else (l02awake.j0 k true t214 t215 t220 t221)) else (l02awake.j0 k true t214 t215 t220 t221)) = some r := H
  have A4 := Aside0.mk A40
  clear A40
  have HC5 := Aside0.mk H
  clear H
  go_enter Tryd.func12, Tryd.ntmps12
  go_upto_region 5 with (first | ((with_reducible refine gate_callee (f := 18) rfl ?_); refine goesL_ (some 11) rfl rfl Tryd.func18 (by kernel_rfl) rfl #[.int .i64 70] rfl (by (try simp only [List.map_toArray, List.map_cons, List.map_nil]); first | done | rfl | (simp only [List.length_drop, List.length_take]; rfl)) ?_; (with_reducible refine (bNew.calls 70 t208 t209 t212 _ A1.out).mono ?_); rintro e w6 ⟨v210, rfl, ho0, hb⟩; refine ⟨_, rfl, ?_⟩; have n0_ := Aside0.mk (Kd.R_lower ho0 (below_size (by repeat (first | (with_reducible first | exact HB.out | apply below_alloc | apply pw_below_drewN | apply below_drew1) | exact HB.out)))); have n1_ := Aside0.mk (below_step (by repeat (first | (with_reducible first | exact HB.out | apply below_alloc | apply pw_below_drewN | apply below_drew1) | exact HB.out)) hb); clear HB; have HO211 := n0_; have HB := n1_; clear n0_ n1_; (try clear hb); (try clear hb2); (try clear hk); (try clear hi); (try clear ho0)) | ((with_reducible refine gate_dst (N := 1) rfl ?_); (try (refine gate_guard (by rfl) ?_; dsimp only)); refine box_event ?hg (N := 1) ?hd (cs := #[.int .i64 0, .slice none 0 0]) (t := 24) ?hr ?_; (case hd => rfl); (case hg => rfl); (case hr => first | (go_simp; done) | (go_simp; rfl)); intro gb213 hg w7 hbox hb; have n0_ := Aside0.mk (Kd.R_below (by (with_reducible repeat (first | apply Kd.R_alloc | apply Kd.R_drewN | apply Kd.R_drew)); exact HO211.out) hb); have n1_ := Aside0.mk (below_step (by repeat (first | (with_reducible first | exact HB.out | apply below_alloc | apply pw_below_drewN | apply below_drew1) | exact HB.out)) hb); have n2_ := Aside0.mk (hbox); have n3_ := Aside0.mk ((by rw [hg]; exact (below_size (by repeat (first | (with_reducible first | exact HB.out | apply below_alloc | apply pw_below_drewN | apply below_drew1) | exact HB.out))) : w.heap.size ≤ gb213)); have n4_ := Aside0.mk ((by rw [hg]; exact (below_size (by repeat (first | (with_reducible first | exact HB.out | apply below_alloc | apply pw_below_drewN | apply below_drew1) | exact HB.out))) : w.heap.size ≤ gb213)); clear HO211; clear HB; have HO211 := n0_; have HB := n1_; have BK213 := n2_; have GW213 := n3_; have GE213 := n4_; clear n0_ n1_ n2_ n3_ n4_; clear hb hbox hg; have hcz8_0 : w7.cell? ⟨gb213, 0, none⟩ = some (.int .i64 0) := (blk_cell BK213.out 0).trans rfl; have hcz8_1 : w7.cell? ⟨gb213, 1, none⟩ = some (.slice none 0 0) := (blk_cell BK213.out 1).trans rfl; have hfz8_0 := blk_frozen BK213.out 0; have hfz8_1 := blk_frozen BK213.out 1; obtain ⟨Ao9, co9, eo9⟩ := Kd.R_slice HO211.out; subst eo9) | ((with_reducible refine gate_callee (f := 13) rfl ?_); refine goesL_ (some 17) rfl rfl Tryd.func13 (by kernel_rfl) rfl #[.agg #[.int .i64 t208, .slice Ao9 t209.length co9], .agg #[.int .i64 60, .int .i64 8]] rfl (by (try simp only [List.map_toArray, List.map_cons, List.map_nil]); first | done | rfl | (simp only [List.length_drop, List.length_take]; rfl)) ?_; (with_reducible refine (bSet.calls t208 _ _ t209 60 8 t214 t215 t218 _ ?side1 ?side2 A2.out).mono ?_); (case side1 => refine (Kd.R_reads' (e := 55) (base := w.heap.size) (ok := fun k_ => True) (n := t209.length) (c := co9) ?_).2.2; exact (by (with_reducible repeat (first | apply Kd.R_alloc | apply Kd.R_drewN | apply Kd.R_drew)); exact (Kd.R_mono (Kd.R_far (p := ⟨gb213, 1, none⟩) (Kd.R_far (p := ⟨gb213, 0, none⟩) (Kd.R_types HO211.out BK213.out (by decide)) (fun _ hk => hk.2) (.int .i64 t208)) (fun _ hk => hk.2) (.slice Ao9 t209.length co9)) (fun _ h_ => h_.1)))); (case side2 => exact (Kd.R_reads' HO211.out).2.1); rintro e w10 ⟨v216, rfl, ho0, hb⟩; refine ⟨_, rfl, ?_⟩; have n0_ := Aside0.mk (Kd.R_elder' (by (with_reducible repeat (first | apply Kd.R_alloc | apply Kd.R_drewN | apply Kd.R_drew)); exact (Kd.R_mono (Kd.R_far (p := ⟨gb213, 1, none⟩) (Kd.R_far (p := ⟨gb213, 0, none⟩) (Kd.R_types HO211.out BK213.out (by decide)) (fun _ hk => hk.2) (.int .i64 t208)) (fun _ hk => hk.2) (.slice Ao9 t209.length co9)) (fun _ h_ => h_.1))) (Kd.R_base ho0) hb); have n1_ := Aside0.mk (Kd.R_lower (Kd.R_new' ho0 (Kd.R_lt (by (with_reducible repeat (first | apply Kd.R_alloc | apply Kd.R_drewN | apply Kd.R_drew)); exact (Kd.R_mono (Kd.R_far (p := ⟨gb213, 1, none⟩) (Kd.R_far (p := ⟨gb213, 0, none⟩) (Kd.R_types HO211.out BK213.out (by decide)) (fun _ hk => hk.2) (.int .i64 t208)) (fun _ hk => hk.2) (.slice Ao9 t209.length co9)) (fun _ h_ => h_.1))))) (below_size (by repeat (first | (with_reducible first | exact HB.out | apply below_alloc | apply pw_below_drewN | apply below_drew1 | refine below_set ?_ GE213.out) | exact HB.out)))); have n2_ := Aside0.mk (blk_below (g := gb213) (o := .cells #[.int .i64 t208, .slice Ao9 t209.length co9] 24 (0, 0)) (by (with_reducible repeat (first | refine blk_drewN ?_ _ | refine blk_drew ?_ | refine blk_alloc ?_ _)); refine blk_put (cs := #[.int .i64 t208, .slice none 0 0]) ?_ 1 _ rfl; (with_reducible repeat (first | refine blk_drewN ?_ _ | refine blk_drew ?_ | refine blk_alloc ?_ _)); refine blk_put (cs := #[.int .i64 0, .slice none 0 0]) ?_ 0 _ rfl; (with_reducible repeat (first | refine blk_drewN ?_ _ | refine blk_drew ?_ | refine blk_alloc ?_ _)); exact BK213.out) hb); have n3_ := Aside0.mk (below_step (by repeat (first | (with_reducible first | exact HB.out | apply below_alloc | apply pw_below_drewN | apply below_drew1 | refine below_set ?_ GE213.out) | exact HB.out)) hb); clear HO211; clear BK213; clear HB; have HO211 := n0_; have HO217 := n1_; have BK213 := n2_; have HB := n3_; clear n0_ n1_ n2_ n3_; (try clear hb); (try clear hb2); (try clear hk); (try clear hi); (try clear ho0)) | ((with_reducible refine gate_dst (N := 3) rfl ?_); (try (refine gate_guard (by rfl) ?_; dsimp only)); refine box_event ?hg (N := 3) ?hd (cs := #[.int .i64 0, .slice none 0 0]) (t := 24) ?hr ?_; (case hd => rfl); (case hg => rfl); (case hr => first | (go_simp; done) | (go_simp; rfl)); intro gb219 hg w11 hbox hb; have n0_ := Aside0.mk (Kd.R_below (by (with_reducible repeat (first | apply Kd.R_alloc | apply Kd.R_drewN | apply Kd.R_drew)); exact HO211.out) hb); have n1_ := Aside0.mk (Kd.R_below (by (with_reducible repeat (first | apply Kd.R_alloc | apply Kd.R_drewN | apply Kd.R_drew)); exact HO217.out) hb); have n2_ := Aside0.mk (blk_below (g := gb213) (o := .cells #[.int .i64 t208, .slice Ao9 t209.length co9] 24 (0, 0)) (by (with_reducible repeat (first | refine blk_drewN ?_ _ | refine blk_drew ?_ | refine blk_alloc ?_ _)); exact BK213.out) hb); have n3_ := Aside0.mk (below_step (by repeat (first | (with_reducible first | exact HB.out | apply below_alloc | apply pw_below_drewN | apply below_drew1 | refine below_set ?_ GE213.out) | exact HB.out)) hb); have n4_ := Aside0.mk (hbox); have n5_ := Aside0.mk ((by rw [hg]; exact (below_size (by repeat (first | (with_reducible first | exact HB.out | apply below_alloc | apply pw_below_drewN | apply below_drew1 | refine below_set ?_ GE213.out) | exact HB.out))) : w.heap.size ≤ gb219)); have n6_ := Aside0.mk ((by rw [hg]; exact (below_size (by repeat (first | (with_reducible first | exact HB.out | apply below_alloc | apply pw_below_drewN | apply below_drew1 | refine below_set ?_ GE213.out) | exact HB.out))) : w.heap.size ≤ gb219)); have n7_ := Aside0.mk ((by rw [hg]; exact Nat.ne_of_lt (blk_lt (g := gb213) (o := .cells #[.int .i64 t208, .slice Ao9 t209.length co9] 24 (0, 0)) (by (with_reducible repeat (first | refine blk_drewN ?_ _ | refine blk_drew ?_ | refine blk_alloc ?_ _)); exact BK213.out)) : gb213 ≠ gb219)); have n8_ := Aside0.mk ((by rw [hg]; exact Nat.ne_of_gt (blk_lt (g := gb213) (o := .cells #[.int .i64 t208, .slice Ao9 t209.length co9] 24 (0, 0)) (by (with_reducible repeat (first | refine blk_drewN ?_ _ | refine blk_drew ?_ | refine blk_alloc ?_ _)); exact BK213.out)) : gb219 ≠ gb213)); clear HO211; clear HO217; clear BK213; clear HB; have HO211 := n0_; have HO217 := n1_; have BK213 := n2_; have HB := n3_; have BK219 := n4_; have GW219 := n5_; have GE219 := n6_; have NB213_219 := n7_; have NB219_213 := n8_; clear n0_ n1_ n2_ n3_ n4_ n5_ n6_ n7_ n8_; clear hb hbox hg; have hnb12 := NB219_213.out; have hnc12 := NB213_219.out; have hcz13_0 : w11.cell? ⟨gb219, 0, none⟩ = some (.int .i64 0) := (blk_cell BK219.out 0).trans rfl; have hcz13_1 : w11.cell? ⟨gb219, 1, none⟩ = some (.slice none 0 0) := (blk_cell BK219.out 1).trans rfl; have hfz13_0 := blk_frozen BK219.out 0; have hfz13_1 := blk_frozen BK219.out 1; obtain ⟨Ao14, co14, eo14⟩ := Kd.R_slice HO217.out; subst eo14) | ((with_reducible refine gate_callee (f := 15) rfl ?_); refine goesL_ (some 23) rfl rfl Tryd.func15 (by kernel_rfl) rfl #[.agg #[.int .i64 t214, .slice Ao14 t215.length co14], .agg #[.int .i64 62, .int .i64 2]] rfl (by (try simp only [List.map_toArray, List.map_cons, List.map_nil]); first | done | rfl | (simp only [List.length_drop, List.length_take]; rfl)) ?_; (with_reducible refine (bClear.calls t214 _ _ t215 62 2 t220 t221 t224 _ ?side1 ?side2 A3.out).mono ?_); (case side1 => refine (Kd.R_reads' (e := 55) (base := w.heap.size) (ok := fun k_ => (True ∧ some k_ ≠ (.slice Ao9 t209.length co9 : Value).ownBlock)) (n := t215.length) (c := co14) ?_).2.2; exact (by (with_reducible repeat (first | apply Kd.R_alloc | apply Kd.R_drewN | apply Kd.R_drew)); exact (Kd.R_mono (Kd.R_far (p := ⟨gb219, 1, none⟩) (Kd.R_far (p := ⟨gb219, 0, none⟩) (Kd.R_types HO217.out BK219.out (by decide)) (fun _ hk => hk.2) (.int .i64 t214)) (fun _ hk => hk.2) (.slice Ao14 t215.length co14)) (fun _ h_ => h_.1)))); (case side2 => exact (Kd.R_reads' HO217.out).2.1); rintro e w15 ⟨v222, rfl, ho0, hb⟩; refine ⟨_, rfl, ?_⟩; have n0_ := Aside0.mk (Kd.R_elder' (by (with_reducible repeat (first | apply Kd.R_alloc | apply Kd.R_drewN | apply Kd.R_drew)); exact (Kd.R_mono (Kd.R_far (p := ⟨gb219, 1, none⟩) (Kd.R_far (p := ⟨gb219, 0, none⟩) (Kd.R_types HO211.out BK219.out (by decide)) (fun _ hk => hk.2) (.int .i64 t214)) (fun _ hk => hk.2) (.slice Ao14 t215.length co14)) (fun _ h_ => h_.1))) (Kd.R_base ho0) hb); have n1_ := Aside0.mk (Kd.R_elder' (by (with_reducible repeat (first | apply Kd.R_alloc | apply Kd.R_drewN | apply Kd.R_drew)); exact (Kd.R_mono (Kd.R_far (p := ⟨gb219, 1, none⟩) (Kd.R_far (p := ⟨gb219, 0, none⟩) (Kd.R_types HO217.out BK219.out (by decide)) (fun _ hk => hk.2) (.int .i64 t214)) (fun _ hk => hk.2) (.slice Ao14 t215.length co14)) (fun _ h_ => h_.1))) (Kd.R_base ho0) hb); have n2_ := Aside0.mk (Kd.R_lower (Kd.R_new' (Kd.R_new' ho0 (Kd.R_lt (by (with_reducible repeat (first | apply Kd.R_alloc | apply Kd.R_drewN | apply Kd.R_drew)); exact (Kd.R_mono (Kd.R_far (p := ⟨gb219, 1, none⟩) (Kd.R_far (p := ⟨gb219, 0, none⟩) (Kd.R_types HO211.out BK219.out (by decide)) (fun _ hk => hk.2) (.int .i64 t214)) (fun _ hk => hk.2) (.slice Ao14 t215.length co14)) (fun _ h_ => h_.1))))) (Kd.R_lt (by (with_reducible repeat (first | apply Kd.R_alloc | apply Kd.R_drewN | apply Kd.R_drew)); exact (Kd.R_mono (Kd.R_far (p := ⟨gb219, 1, none⟩) (Kd.R_far (p := ⟨gb219, 0, none⟩) (Kd.R_types HO217.out BK219.out (by decide)) (fun _ hk => hk.2) (.int .i64 t214)) (fun _ hk => hk.2) (.slice Ao14 t215.length co14)) (fun _ h_ => h_.1))))) (below_size (by repeat (first | (with_reducible first | exact HB.out | apply below_alloc | apply pw_below_drewN | apply below_drew1 | refine below_set ?_ GE213.out | refine below_set ?_ GE219.out) | exact HB.out)))); have n3_ := Aside0.mk (blk_below (g := gb213) (o := .cells #[.int .i64 t208, .slice Ao9 t209.length co9] 24 (0, 0)) (by (with_reducible repeat (first | refine blk_drewN ?_ _ | refine blk_drew ?_ | refine blk_alloc ?_ _)); refine blk_far ?_ NB213_219.out _; (with_reducible repeat (first | refine blk_drewN ?_ _ | refine blk_drew ?_ | refine blk_alloc ?_ _)); refine blk_far ?_ NB213_219.out _; (with_reducible repeat (first | refine blk_drewN ?_ _ | refine blk_drew ?_ | refine blk_alloc ?_ _)); exact BK213.out) hb); have n4_ := Aside0.mk (blk_below (g := gb219) (o := .cells #[.int .i64 t214, .slice Ao14 t215.length co14] 24 (0, 0)) (by (with_reducible repeat (first | refine blk_drewN ?_ _ | refine blk_drew ?_ | refine blk_alloc ?_ _)); refine blk_put (cs := #[.int .i64 t214, .slice none 0 0]) ?_ 1 _ rfl; (with_reducible repeat (first | refine blk_drewN ?_ _ | refine blk_drew ?_ | refine blk_alloc ?_ _)); refine blk_put (cs := #[.int .i64 0, .slice none 0 0]) ?_ 0 _ rfl; (with_reducible repeat (first | refine blk_drewN ?_ _ | refine blk_drew ?_ | refine blk_alloc ?_ _)); exact BK219.out) hb); have n5_ := Aside0.mk (below_step (by repeat (first | (with_reducible first | exact HB.out | apply below_alloc | apply pw_below_drewN | apply below_drew1 | refine below_set ?_ GE213.out | refine below_set ?_ GE219.out) | exact HB.out)) hb); clear HO211; clear HO217; clear BK213; clear BK219; clear HB; have HO211 := n0_; have HO217 := n1_; have HO223 := n2_; have BK213 := n3_; have BK219 := n4_; have HB := n5_; clear n0_ n1_ n2_ n3_ n4_ n5_; (try clear hb); (try clear hb2); (try clear hk); (try clear hi); (try clear ho0)) | ((with_reducible refine gate_dst (N := 5) rfl ?_); (try (refine gate_guard (by rfl) ?_; dsimp only)); refine box_event ?hg (N := 5) ?hd (cs := #[.int .i64 0, .slice none 0 0]) (t := 24) ?hr ?_; (case hd => rfl); (case hg => rfl); (case hr => first | (go_simp; done) | (go_simp; rfl)); intro gb225 hg w16 hbox hb; have n0_ := Aside0.mk (Kd.R_below (by (with_reducible repeat (first | apply Kd.R_alloc | apply Kd.R_drewN | apply Kd.R_drew)); exact HO211.out) hb); have n1_ := Aside0.mk (Kd.R_below (by (with_reducible repeat (first | apply Kd.R_alloc | apply Kd.R_drewN | apply Kd.R_drew)); exact HO217.out) hb); have n2_ := Aside0.mk (Kd.R_below (by (with_reducible repeat (first | apply Kd.R_alloc | apply Kd.R_drewN | apply Kd.R_drew)); exact HO223.out) hb); have n3_ := Aside0.mk (blk_below (g := gb213) (o := .cells #[.int .i64 t208, .slice Ao9 t209.length co9] 24 (0, 0)) (by (with_reducible repeat (first | refine blk_drewN ?_ _ | refine blk_drew ?_ | refine blk_alloc ?_ _)); exact BK213.out) hb); have n4_ := Aside0.mk (blk_below (g := gb219) (o := .cells #[.int .i64 t214, .slice Ao14 t215.length co14] 24 (0, 0)) (by (with_reducible repeat (first | refine blk_drewN ?_ _ | refine blk_drew ?_ | refine blk_alloc ?_ _)); exact BK219.out) hb); have n5_ := Aside0.mk (below_step (by repeat (first | (with_reducible first | exact HB.out | apply below_alloc | apply pw_below_drewN | apply below_drew1 | refine below_set ?_ GE213.out | refine below_set ?_ GE219.out) | exact HB.out)) hb); have n6_ := Aside0.mk (hbox); have n7_ := Aside0.mk ((by rw [hg]; exact (below_size (by repeat (first | (with_reducible first | exact HB.out | apply below_alloc | apply pw_below_drewN | apply below_drew1 | refine below_set ?_ GE213.out | refine below_set ?_ GE219.out) | exact HB.out))) : w.heap.size ≤ gb225)); have n8_ := Aside0.mk ((by rw [hg]; exact (below_size (by repeat (first | (with_reducible first | exact HB.out | apply below_alloc | apply pw_below_drewN | apply below_drew1 | refine below_set ?_ GE213.out | refine below_set ?_ GE219.out) | exact HB.out))) : w.heap.size ≤ gb225)); have n9_ := Aside0.mk ((by rw [hg]; exact Nat.ne_of_lt (blk_lt (g := gb213) (o := .cells #[.int .i64 t208, .slice Ao9 t209.length co9] 24 (0, 0)) (by (with_reducible repeat (first | refine blk_drewN ?_ _ | refine blk_drew ?_ | refine blk_alloc ?_ _)); exact BK213.out)) : gb213 ≠ gb225)); have n10_ := Aside0.mk ((by rw [hg]; exact Nat.ne_of_gt (blk_lt (g := gb213) (o := .cells #[.int .i64 t208, .slice Ao9 t209.length co9] 24 (0, 0)) (by (with_reducible repeat (first | refine blk_drewN ?_ _ | refine blk_drew ?_ | refine blk_alloc ?_ _)); exact BK213.out)) : gb225 ≠ gb213)); have n11_ := Aside0.mk ((by rw [hg]; exact Nat.ne_of_lt (blk_lt (g := gb219) (o := .cells #[.int .i64 t214, .slice Ao14 t215.length co14] 24 (0, 0)) (by (with_reducible repeat (first | refine blk_drewN ?_ _ | refine blk_drew ?_ | refine blk_alloc ?_ _)); exact BK219.out)) : gb219 ≠ gb225)); have n12_ := Aside0.mk ((by rw [hg]; exact Nat.ne_of_gt (blk_lt (g := gb219) (o := .cells #[.int .i64 t214, .slice Ao14 t215.length co14] 24 (0, 0)) (by (with_reducible repeat (first | refine blk_drewN ?_ _ | refine blk_drew ?_ | refine blk_alloc ?_ _)); exact BK219.out)) : gb225 ≠ gb219)); clear HO211; clear HO217; clear HO223; clear BK213; clear BK219; clear HB; have HO211 := n0_; have HO217 := n1_; have HO223 := n2_; have BK213 := n3_; have BK219 := n4_; have HB := n5_; have BK225 := n6_; have GW225 := n7_; have GE225 := n8_; have NB213_225 := n9_; have NB225_213 := n10_; have NB219_225 := n11_; have NB225_219 := n12_; clear n0_ n1_ n2_ n3_ n4_ n5_ n6_ n7_ n8_ n9_ n10_ n11_ n12_; clear hb hbox hg; have hnb17 := NB225_213.out; have hnc17 := NB213_225.out; have hnb18 := NB225_219.out; have hnc18 := NB219_225.out; have hcz19_0 : w16.cell? ⟨gb225, 0, none⟩ = some (.int .i64 0) := (blk_cell BK225.out 0).trans rfl; have hcz19_1 : w16.cell? ⟨gb225, 1, none⟩ = some (.slice none 0 0) := (blk_cell BK225.out 1).trans rfl; have hfz19_0 := blk_frozen BK225.out 0; have hfz19_1 := blk_frozen BK225.out 1; obtain ⟨Ao20, co20, eo20⟩ := Kd.R_slice HO223.out; subst eo20; have hcz21_0 : w16.cell? ⟨gb213, 0, none⟩ = some (.int .i64 t208) := (blk_cell BK213.out 0).trans rfl; have hcz21_1 : w16.cell? ⟨gb213, 1, none⟩ = some (.slice Ao9 t209.length co9) := (blk_cell BK213.out 1).trans rfl; have hfz21_0 := blk_frozen BK213.out 0; have hfz21_1 := blk_frozen BK213.out 1) | ((with_reducible refine gate_callee (f := 13) rfl ?_); refine goesL_ (some 29) rfl rfl Tryd.func13 (by kernel_rfl) rfl #[.agg #[.int .i64 t208, .slice Ao9 t209.length co9], .agg #[.int .i64 69, .int .i64 2]] rfl (by (try simp only [List.map_toArray, List.map_cons, List.map_nil]); first | done | rfl | (simp only [List.length_drop, List.length_take]; rfl)) ?_; (with_reducible refine (bSet.calls t208 _ _ t209 69 2 t226 t227 t230 _ ?side1 ?side2 A4.out).mono ?_); (case side1 => refine (Kd.R_reads' (e := 55) (base := w.heap.size) (ok := fun k_ => ((True ∧ some k_ ≠ (.slice Ao14 t215.length co14 : Value).ownBlock) ∧ some k_ ≠ (.slice Ao20 t221.length co20 : Value).ownBlock)) (n := t209.length) (c := co9) ?_).2.2; exact (by (with_reducible repeat (first | apply Kd.R_alloc | apply Kd.R_drewN | apply Kd.R_drew)); exact (Kd.R_mono (Kd.R_far (p := ⟨gb225, 1, none⟩) (Kd.R_far (p := ⟨gb225, 0, none⟩) (Kd.R_types HO211.out BK225.out (by decide)) (fun _ hk => hk.2) (.int .i64 t220)) (fun _ hk => hk.2) (.slice Ao20 t221.length co20)) (fun _ h_ => h_.1)))); (case side2 => exact (Kd.R_reads' HO211.out).2.1); rintro e w22 ⟨v228, rfl, ho0, hb⟩; refine ⟨_, rfl, ?_⟩; have n0_ := Aside0.mk (Kd.R_elder' (by (with_reducible repeat (first | apply Kd.R_alloc | apply Kd.R_drewN | apply Kd.R_drew)); exact (Kd.R_mono (Kd.R_far (p := ⟨gb225, 1, none⟩) (Kd.R_far (p := ⟨gb225, 0, none⟩) (Kd.R_types HO211.out BK225.out (by decide)) (fun _ hk => hk.2) (.int .i64 t220)) (fun _ hk => hk.2) (.slice Ao20 t221.length co20)) (fun _ h_ => h_.1))) (Kd.R_base ho0) hb); have n1_ := Aside0.mk (Kd.R_elder' (by (with_reducible repeat (first | apply Kd.R_alloc | apply Kd.R_drewN | apply Kd.R_drew)); exact (Kd.R_mono (Kd.R_far (p := ⟨gb225, 1, none⟩) (Kd.R_far (p := ⟨gb225, 0, none⟩) (Kd.R_types HO217.out BK225.out (by decide)) (fun _ hk => hk.2) (.int .i64 t220)) (fun _ hk => hk.2) (.slice Ao20 t221.length co20)) (fun _ h_ => h_.1))) (Kd.R_base ho0) hb); have n2_ := Aside0.mk (Kd.R_elder' (by (with_reducible repeat (first | apply Kd.R_alloc | apply Kd.R_drewN | apply Kd.R_drew)); exact (Kd.R_mono (Kd.R_far (p := ⟨gb225, 1, none⟩) (Kd.R_far (p := ⟨gb225, 0, none⟩) (Kd.R_types HO223.out BK225.out (by decide)) (fun _ hk => hk.2) (.int .i64 t220)) (fun _ hk => hk.2) (.slice Ao20 t221.length co20)) (fun _ h_ => h_.1))) (Kd.R_base ho0) hb); have n3_ := Aside0.mk (Kd.R_lower (Kd.R_new' (Kd.R_new' (Kd.R_new' ho0 (Kd.R_lt (by (with_reducible repeat (first | apply Kd.R_alloc | apply Kd.R_drewN | apply Kd.R_drew)); exact (Kd.R_mono (Kd.R_far (p := ⟨gb225, 1, none⟩) (Kd.R_far (p := ⟨gb225, 0, none⟩) (Kd.R_types HO211.out BK225.out (by decide)) (fun _ hk => hk.2) (.int .i64 t220)) (fun _ hk => hk.2) (.slice Ao20 t221.length co20)) (fun _ h_ => h_.1))))) (Kd.R_lt (by (with_reducible repeat (first | apply Kd.R_alloc | apply Kd.R_drewN | apply Kd.R_drew)); exact (Kd.R_mono (Kd.R_far (p := ⟨gb225, 1, none⟩) (Kd.R_far (p := ⟨gb225, 0, none⟩) (Kd.R_types HO217.out BK225.out (by decide)) (fun _ hk => hk.2) (.int .i64 t220)) (fun _ hk => hk.2) (.slice Ao20 t221.length co20)) (fun _ h_ => h_.1))))) (Kd.R_lt (by (with_reducible repeat (first | apply Kd.R_alloc | apply Kd.R_drewN | apply Kd.R_drew)); exact (Kd.R_mono (Kd.R_far (p := ⟨gb225, 1, none⟩) (Kd.R_far (p := ⟨gb225, 0, none⟩) (Kd.R_types HO223.out BK225.out (by decide)) (fun _ hk => hk.2) (.int .i64 t220)) (fun _ hk => hk.2) (.slice Ao20 t221.length co20)) (fun _ h_ => h_.1))))) (below_size (by repeat (first | (with_reducible first | exact HB.out | apply below_alloc | apply pw_below_drewN | apply below_drew1 | refine below_set ?_ GE213.out | refine below_set ?_ GE219.out | refine below_set ?_ GE225.out) | exact HB.out)))); have n4_ := Aside0.mk (blk_below (g := gb213) (o := .cells #[.int .i64 t208, .slice Ao9 t209.length co9] 24 (0, 0)) (by (with_reducible repeat (first | refine blk_drewN ?_ _ | refine blk_drew ?_ | refine blk_alloc ?_ _)); refine blk_far ?_ NB213_225.out _; (with_reducible repeat (first | refine blk_drewN ?_ _ | refine blk_drew ?_ | refine blk_alloc ?_ _)); refine blk_far ?_ NB213_225.out _; (with_reducible repeat (first | refine blk_drewN ?_ _ | refine blk_drew ?_ | refine blk_alloc ?_ _)); exact BK213.out) hb); have n5_ := Aside0.mk (blk_below (g := gb219) (o := .cells #[.int .i64 t214, .slice Ao14 t215.length co14] 24 (0, 0)) (by (with_reducible repeat (first | refine blk_drewN ?_ _ | refine blk_drew ?_ | refine blk_alloc ?_ _)); refine blk_far ?_ NB219_225.out _; (with_reducible repeat (first | refine blk_drewN ?_ _ | refine blk_drew ?_ | refine blk_alloc ?_ _)); refine blk_far ?_ NB219_225.out _; (with_reducible repeat (first | refine blk_drewN ?_ _ | refine blk_drew ?_ | refine blk_alloc ?_ _)); exact BK219.out) hb); have n6_ := Aside0.mk (blk_below (g := gb225) (o := .cells #[.int .i64 t220, .slice Ao20 t221.length co20] 24 (0, 0)) (by (with_reducible repeat (first | refine blk_drewN ?_ _ | refine blk_drew ?_ | refine blk_alloc ?_ _)); refine blk_put (cs := #[.int .i64 t220, .slice none 0 0]) ?_ 1 _ rfl; (with_reducible repeat (first | refine blk_drewN ?_ _ | refine blk_drew ?_ | refine blk_alloc ?_ _)); refine blk_put (cs := #[.int .i64 0, .slice none 0 0]) ?_ 0 _ rfl; (with_reducible repeat (first | refine blk_drewN ?_ _ | refine blk_drew ?_ | refine blk_alloc ?_ _)); exact BK225.out) hb); have n7_ := Aside0.mk (below_step (by repeat (first | (with_reducible first | exact HB.out | apply below_alloc | apply pw_below_drewN | apply below_drew1 | refine below_set ?_ GE213.out | refine below_set ?_ GE219.out | refine below_set ?_ GE225.out) | exact HB.out)) hb); clear HO211; clear HO217; clear HO223; clear BK213; clear BK219; clear BK225; clear HB; have HO211 := n0_; have HO217 := n1_; have HO223 := n2_; have HO229 := n3_; have BK213 := n4_; have BK219 := n5_; have BK225 := n6_; have HB := n7_; clear n0_ n1_ n2_ n3_ n4_ n5_ n6_ n7_; (try clear hb); (try clear hb2); (try clear hk); (try clear hi); (try clear ho0)) | ((with_reducible refine gate_dst (N := 7) rfl ?_); (try (refine gate_guard (by rfl) ?_; dsimp only)); refine box_event ?hg (N := 7) ?hd (cs := #[.int .i64 0, .slice none 0 0]) (t := 24) ?hr ?_; (case hd => rfl); (case hg => rfl); (case hr => first | (go_simp; done) | (go_simp; rfl)); intro gb231 hg w23 hbox hb; have n0_ := Aside0.mk (Kd.R_below (by (with_reducible repeat (first | apply Kd.R_alloc | apply Kd.R_drewN | apply Kd.R_drew)); exact HO211.out) hb); have n1_ := Aside0.mk (Kd.R_below (by (with_reducible repeat (first | apply Kd.R_alloc | apply Kd.R_drewN | apply Kd.R_drew)); exact HO217.out) hb); have n2_ := Aside0.mk (Kd.R_below (by (with_reducible repeat (first | apply Kd.R_alloc | apply Kd.R_drewN | apply Kd.R_drew)); exact HO223.out) hb); have n3_ := Aside0.mk (Kd.R_below (by (with_reducible repeat (first | apply Kd.R_alloc | apply Kd.R_drewN | apply Kd.R_drew)); exact HO229.out) hb); have n4_ := Aside0.mk (blk_below (g := gb213) (o := .cells #[.int .i64 t208, .slice Ao9 t209.length co9] 24 (0, 0)) (by (with_reducible repeat (first | refine blk_drewN ?_ _ | refine blk_drew ?_ | refine blk_alloc ?_ _)); exact BK213.out) hb); have n5_ := Aside0.mk (blk_below (g := gb219) (o := .cells #[.int .i64 t214, .slice Ao14 t215.length co14] 24 (0, 0)) (by (with_reducible repeat (first | refine blk_drewN ?_ _ | refine blk_drew ?_ | refine blk_alloc ?_ _)); exact BK219.out) hb); have n6_ := Aside0.mk (blk_below (g := gb225) (o := .cells #[.int .i64 t220, .slice Ao20 t221.length co20] 24 (0, 0)) (by (with_reducible repeat (first | refine blk_drewN ?_ _ | refine blk_drew ?_ | refine blk_alloc ?_ _)); exact BK225.out) hb); have n7_ := Aside0.mk (below_step (by repeat (first | (with_reducible first | exact HB.out | apply below_alloc | apply pw_below_drewN | apply below_drew1 | refine below_set ?_ GE213.out | refine below_set ?_ GE219.out | refine below_set ?_ GE225.out) | exact HB.out)) hb); have n8_ := Aside0.mk (hbox); have n9_ := Aside0.mk ((by rw [hg]; exact (below_size (by repeat (first | (with_reducible first | exact HB.out | apply below_alloc | apply pw_below_drewN | apply below_drew1 | refine below_set ?_ GE213.out | refine below_set ?_ GE219.out | refine below_set ?_ GE225.out) | exact HB.out))) : w.heap.size ≤ gb231)); have n10_ := Aside0.mk ((by rw [hg]; exact (below_size (by repeat (first | (with_reducible first | exact HB.out | apply below_alloc | apply pw_below_drewN | apply below_drew1 | refine below_set ?_ GE213.out | refine below_set ?_ GE219.out | refine below_set ?_ GE225.out) | exact HB.out))) : w.heap.size ≤ gb231)); have n11_ := Aside0.mk ((by rw [hg]; exact Nat.ne_of_lt (blk_lt (g := gb213) (o := .cells #[.int .i64 t208, .slice Ao9 t209.length co9] 24 (0, 0)) (by (with_reducible repeat (first | refine blk_drewN ?_ _ | refine blk_drew ?_ | refine blk_alloc ?_ _)); exact BK213.out)) : gb213 ≠ gb231)); have n12_ := Aside0.mk ((by rw [hg]; exact Nat.ne_of_gt (blk_lt (g := gb213) (o := .cells #[.int .i64 t208, .slice Ao9 t209.length co9] 24 (0, 0)) (by (with_reducible repeat (first | refine blk_drewN ?_ _ | refine blk_drew ?_ | refine blk_alloc ?_ _)); exact BK213.out)) : gb231 ≠ gb213)); have n13_ := Aside0.mk ((by rw [hg]; exact Nat.ne_of_lt (blk_lt (g := gb219) (o := .cells #[.int .i64 t214, .slice Ao14 t215.length co14] 24 (0, 0)) (by (with_reducible repeat (first | refine blk_drewN ?_ _ | refine blk_drew ?_ | refine blk_alloc ?_ _)); exact BK219.out)) : gb219 ≠ gb231)); have n14_ := Aside0.mk ((by rw [hg]; exact Nat.ne_of_gt (blk_lt (g := gb219) (o := .cells #[.int .i64 t214, .slice Ao14 t215.length co14] 24 (0, 0)) (by (with_reducible repeat (first | refine blk_drewN ?_ _ | refine blk_drew ?_ | refine blk_alloc ?_ _)); exact BK219.out)) : gb231 ≠ gb219)); have n15_ := Aside0.mk ((by rw [hg]; exact Nat.ne_of_lt (blk_lt (g := gb225) (o := .cells #[.int .i64 t220, .slice Ao20 t221.length co20] 24 (0, 0)) (by (with_reducible repeat (first | refine blk_drewN ?_ _ | refine blk_drew ?_ | refine blk_alloc ?_ _)); exact BK225.out)) : gb225 ≠ gb231)); have n16_ := Aside0.mk ((by rw [hg]; exact Nat.ne_of_gt (blk_lt (g := gb225) (o := .cells #[.int .i64 t220, .slice Ao20 t221.length co20] 24 (0, 0)) (by (with_reducible repeat (first | refine blk_drewN ?_ _ | refine blk_drew ?_ | refine blk_alloc ?_ _)); exact BK225.out)) : gb231 ≠ gb225)); clear HO211; clear HO217; clear HO223; clear HO229; clear BK213; clear BK219; clear BK225; clear HB; have HO211 := n0_; have HO217 := n1_; have HO223 := n2_; have HO229 := n3_; have BK213 := n4_; have BK219 := n5_; have BK225 := n6_; have HB := n7_; have BK231 := n8_; have GW231 := n9_; have GE231 := n10_; have NB213_231 := n11_; have NB231_213 := n12_; have NB219_231 := n13_; have NB231_219 := n14_; have NB225_231 := n15_; have NB231_225 := n16_; clear n0_ n1_ n2_ n3_ n4_ n5_ n6_ n7_ n8_ n9_ n10_ n11_ n12_ n13_ n14_ n15_ n16_; clear hb hbox hg; have hnb24 := NB231_213.out; have hnc24 := NB213_231.out; have hnb25 := NB231_219.out; have hnc25 := NB219_231.out; have hnb26 := NB231_225.out; have hnc26 := NB225_231.out; have hcz27_0 : w23.cell? ⟨gb231, 0, none⟩ = some (.int .i64 0) := (blk_cell BK231.out 0).trans rfl; have hcz27_1 : w23.cell? ⟨gb231, 1, none⟩ = some (.slice none 0 0) := (blk_cell BK231.out 1).trans rfl; have hfz27_0 := blk_frozen BK231.out 0; have hfz27_1 := blk_frozen BK231.out 1; obtain ⟨Ao28, co28, eo28⟩ := Kd.R_slice HO229.out; subst eo28))
  (try simp only [Act.put, List.setIfInBounds_toArray, List.set_cons_zero, List.set_cons_succ])
  go_cut [51] (fun v51 wc => ∃ (kq : Nat) (x51_4 : Bool), v51 = .bool x51_4 ∧ Aside0 (l02awake.j0 kq x51_4 t214 t215 t220 t221 = some r) ∧ Aside0 (kq ≤ k) ∧ Aside0 (Kd.R (Kd.int .u64) 55 wc w.heap.size (fun k_ => some k_ ≠ ((.slice Ao14 t215.length co14) : Value).ownBlock ∧ some k_ ≠ ((.slice Ao20 t221.length co20) : Value).ownBlock ∧ some k_ ≠ ((.slice Ao28 t227.length co28) : Value).ownBlock) (.slice Ao9 t209.length co9) t209) ∧ Aside0 (Kd.R (Kd.int .u64) 55 wc w.heap.size (fun k_ => some k_ ≠ ((.slice Ao9 t209.length co9) : Value).ownBlock ∧ some k_ ≠ ((.slice Ao20 t221.length co20) : Value).ownBlock ∧ some k_ ≠ ((.slice Ao28 t227.length co28) : Value).ownBlock) (.slice Ao14 t215.length co14) t215) ∧ Aside0 (Kd.R (Kd.int .u64) 55 wc w.heap.size (fun k_ => some k_ ≠ ((.slice Ao9 t209.length co9) : Value).ownBlock ∧ some k_ ≠ ((.slice Ao14 t215.length co14) : Value).ownBlock ∧ some k_ ≠ ((.slice Ao28 t227.length co28) : Value).ownBlock) (.slice Ao20 t221.length co20) t221) ∧ Aside0 (Kd.R (Kd.int .u64) 55 wc w.heap.size (fun k_ => some k_ ≠ ((.slice Ao9 t209.length co9) : Value).ownBlock ∧ some k_ ≠ ((.slice Ao14 t215.length co14) : Value).ownBlock ∧ some k_ ≠ ((.slice Ao20 t221.length co20) : Value).ownBlock) (.slice Ao28 t227.length co28) t227) ∧ Aside0 (wc.heap[gb213]? = some (.cells #[.int .i64 t208, (.slice Ao9 t209.length co9)] 24 (0, 0))) ∧ Aside0 (wc.heap[gb219]? = some (.cells #[.int .i64 t214, (.slice Ao14 t215.length co14)] 24 (0, 0))) ∧ Aside0 (wc.heap[gb225]? = some (.cells #[.int .i64 t220, (.slice Ao20 t221.length co20)] 24 (0, 0))) ∧ Aside0 (wc.heap[gb231]? = some (.cells #[.int .i64 t226, (.slice Ao28 t227.length co28)] 24 (0, 0))) ∧ Aside0 (Below w.heap.size w wc))
  case first =>
    have H := HC5.out
    clear HC5
    by_cases c29 : t212 = 0
    · rw [if_pos c29] at H
      have c29b0 : (t212 == 0) = true := beq_iff_eq.mpr c29
      have c29b1 : (t212 != 0) = false := bne_eq_false_iff_eq.mpr c29
      clear c29
      (first | rw [c29b0] | (simp only [i64_w, i32_w]; rw [c29b0]) | skip)
      by_cases c30 : t218 = 0
      · rw [if_pos c30] at H
        have c30b0 : (t218 == 0) = true := beq_iff_eq.mpr c30
        have c30b1 : (t218 != 0) = false := bne_eq_false_iff_eq.mpr c30
        clear c30
        by_cases c31 : t224 = 0
        · rw [if_pos c31] at H
          have c31b0 : (t224 == 0) = true := beq_iff_eq.mpr c31
          have c31b1 : (t224 != 0) = false := bne_eq_false_iff_eq.mpr c31
          clear c31
          by_cases c32 : t230 = 2
          · rw [if_pos c32] at H
            have c32b0 : (t230 == 2) = true := beq_iff_eq.mpr c32
            have c32b1 : (t230 != 2) = false := bne_eq_false_iff_eq.mpr c32
            clear c32
            have H' := Aside0.mk H
            clear H
            have hnb33 := NB219_213.out
            have hnc33 := NB213_219.out
            have hnb34 := NB219_225.out
            have hnc34 := NB225_219.out
            have hnb35 := NB219_231.out
            have hnc35 := NB231_219.out
            have hcz36_0 : w23.cell? ⟨gb219, 0, none⟩ = some (.int .i64 t214) := (blk_cell BK219.out 0).trans rfl
            have hcz36_1 : w23.cell? ⟨gb219, 1, none⟩ = some (.slice Ao14 t215.length co14) := (blk_cell BK219.out 1).trans rfl
            have hfz36_0 := blk_frozen BK219.out 0
            have hfz36_1 := blk_frozen BK219.out 1
            go_wp2
            go_meet
            case rel => exact ⟨_, (((t215.length : Int) != 2)), (by first | rfl | (simp; done) | (simp [*]; done)), H', ⟨by first | omega | exact Nat.le_refl _⟩, ⟨by (with_reducible repeat (first | apply Kd.R_alloc | apply Kd.R_drewN | apply Kd.R_drew)); exact Kd.R_mono (Kd.R_far (p := ⟨gb231, 1, none⟩) (Kd.R_far (p := ⟨gb231, 0, none⟩) (Kd.R_types HO211.out BK231.out (by decide)) (fun _ hk => hk.2) (.int .i64 t226)) (fun _ hk => hk.2) (.slice Ao28 t227.length co28)) (fun _ hk => by first | exact ⟨hk.1.1.1.2, ⟨hk.1.1.2, hk.1.2⟩⟩ | (revert hk; simp only [and_imp]; intros; (repeat' (first | assumption | apply And.intro)); done))⟩, ⟨by (with_reducible repeat (first | apply Kd.R_alloc | apply Kd.R_drewN | apply Kd.R_drew)); exact Kd.R_mono (Kd.R_far (p := ⟨gb231, 1, none⟩) (Kd.R_far (p := ⟨gb231, 0, none⟩) (Kd.R_types HO217.out BK231.out (by decide)) (fun _ hk => hk.2) (.int .i64 t226)) (fun _ hk => hk.2) (.slice Ao28 t227.length co28)) (fun _ hk => by first | exact ⟨hk.1.1.1.2, ⟨hk.1.1.2, hk.1.2⟩⟩ | (revert hk; simp only [and_imp]; intros; (repeat' (first | assumption | apply And.intro)); done))⟩, ⟨by (with_reducible repeat (first | apply Kd.R_alloc | apply Kd.R_drewN | apply Kd.R_drew)); exact Kd.R_mono (Kd.R_far (p := ⟨gb231, 1, none⟩) (Kd.R_far (p := ⟨gb231, 0, none⟩) (Kd.R_types HO223.out BK231.out (by decide)) (fun _ hk => hk.2) (.int .i64 t226)) (fun _ hk => hk.2) (.slice Ao28 t227.length co28)) (fun _ hk => by first | exact ⟨hk.1.1.1.2, ⟨hk.1.1.2, hk.1.2⟩⟩ | (revert hk; simp only [and_imp]; intros; (repeat' (first | assumption | apply And.intro)); done))⟩, ⟨by (with_reducible repeat (first | apply Kd.R_alloc | apply Kd.R_drewN | apply Kd.R_drew)); exact Kd.R_mono (Kd.R_far (p := ⟨gb231, 1, none⟩) (Kd.R_far (p := ⟨gb231, 0, none⟩) (Kd.R_types HO229.out BK231.out (by decide)) (fun _ hk => hk.2) (.int .i64 t226)) (fun _ hk => hk.2) (.slice Ao28 t227.length co28)) (fun _ hk => by first | exact ⟨hk.1.1.1.2, ⟨hk.1.1.2, hk.1.2⟩⟩ | (revert hk; simp only [and_imp]; intros; (repeat' (first | assumption | apply And.intro)); done))⟩, ⟨by (with_reducible repeat (first | refine blk_drewN ?_ _ | refine blk_drew ?_ | refine blk_alloc ?_ _)); refine blk_far ?_ NB213_231.out _; (with_reducible repeat (first | refine blk_drewN ?_ _ | refine blk_drew ?_ | refine blk_alloc ?_ _)); refine blk_far ?_ NB213_231.out _; (with_reducible repeat (first | refine blk_drewN ?_ _ | refine blk_drew ?_ | refine blk_alloc ?_ _)); exact BK213.out⟩, ⟨by (with_reducible repeat (first | refine blk_drewN ?_ _ | refine blk_drew ?_ | refine blk_alloc ?_ _)); refine blk_far ?_ NB219_231.out _; (with_reducible repeat (first | refine blk_drewN ?_ _ | refine blk_drew ?_ | refine blk_alloc ?_ _)); refine blk_far ?_ NB219_231.out _; (with_reducible repeat (first | refine blk_drewN ?_ _ | refine blk_drew ?_ | refine blk_alloc ?_ _)); exact BK219.out⟩, ⟨by (with_reducible repeat (first | refine blk_drewN ?_ _ | refine blk_drew ?_ | refine blk_alloc ?_ _)); refine blk_far ?_ NB225_231.out _; (with_reducible repeat (first | refine blk_drewN ?_ _ | refine blk_drew ?_ | refine blk_alloc ?_ _)); refine blk_far ?_ NB225_231.out _; (with_reducible repeat (first | refine blk_drewN ?_ _ | refine blk_drew ?_ | refine blk_alloc ?_ _)); exact BK225.out⟩, ⟨by (with_reducible repeat (first | refine blk_drewN ?_ _ | refine blk_drew ?_ | refine blk_alloc ?_ _)); refine blk_put (cs := #[.int .i64 t226, .slice none 0 0]) ?_ 1 _ rfl; (with_reducible repeat (first | refine blk_drewN ?_ _ | refine blk_drew ?_ | refine blk_alloc ?_ _)); refine blk_put (cs := #[.int .i64 0, .slice none 0 0]) ?_ 0 _ rfl; (with_reducible repeat (first | refine blk_drewN ?_ _ | refine blk_drew ?_ | refine blk_alloc ?_ _)); exact BK231.out⟩, ⟨by repeat (first | (with_reducible first | exact HB.out | apply below_alloc | apply pw_below_drewN | apply below_drew1 | refine below_set ?_ GE213.out | refine below_set ?_ GE219.out | refine below_set ?_ GE225.out | refine below_set ?_ GE231.out) | exact HB.out)⟩⟩
          · rw [if_neg c32] at H
            have c32b0 : (t230 == 2) = false := beq_eq_false_iff_ne.mpr c32
            have c32b1 : (t230 != 2) = true := bne_iff_ne.mpr c32
            have H' := Aside0.mk H
            clear H
            go_wp2
            go_meet
            case rel => exact ⟨_, (true), (by first | rfl | (simp; done) | (simp [*]; done)), H', ⟨by first | omega | exact Nat.le_refl _⟩, ⟨by (with_reducible repeat (first | apply Kd.R_alloc | apply Kd.R_drewN | apply Kd.R_drew)); exact Kd.R_mono (Kd.R_far (p := ⟨gb231, 1, none⟩) (Kd.R_far (p := ⟨gb231, 0, none⟩) (Kd.R_types HO211.out BK231.out (by decide)) (fun _ hk => hk.2) (.int .i64 t226)) (fun _ hk => hk.2) (.slice Ao28 t227.length co28)) (fun _ hk => by first | exact ⟨hk.1.1.1.2, ⟨hk.1.1.2, hk.1.2⟩⟩ | (revert hk; simp only [and_imp]; intros; (repeat' (first | assumption | apply And.intro)); done))⟩, ⟨by (with_reducible repeat (first | apply Kd.R_alloc | apply Kd.R_drewN | apply Kd.R_drew)); exact Kd.R_mono (Kd.R_far (p := ⟨gb231, 1, none⟩) (Kd.R_far (p := ⟨gb231, 0, none⟩) (Kd.R_types HO217.out BK231.out (by decide)) (fun _ hk => hk.2) (.int .i64 t226)) (fun _ hk => hk.2) (.slice Ao28 t227.length co28)) (fun _ hk => by first | exact ⟨hk.1.1.1.2, ⟨hk.1.1.2, hk.1.2⟩⟩ | (revert hk; simp only [and_imp]; intros; (repeat' (first | assumption | apply And.intro)); done))⟩, ⟨by (with_reducible repeat (first | apply Kd.R_alloc | apply Kd.R_drewN | apply Kd.R_drew)); exact Kd.R_mono (Kd.R_far (p := ⟨gb231, 1, none⟩) (Kd.R_far (p := ⟨gb231, 0, none⟩) (Kd.R_types HO223.out BK231.out (by decide)) (fun _ hk => hk.2) (.int .i64 t226)) (fun _ hk => hk.2) (.slice Ao28 t227.length co28)) (fun _ hk => by first | exact ⟨hk.1.1.1.2, ⟨hk.1.1.2, hk.1.2⟩⟩ | (revert hk; simp only [and_imp]; intros; (repeat' (first | assumption | apply And.intro)); done))⟩, ⟨by (with_reducible repeat (first | apply Kd.R_alloc | apply Kd.R_drewN | apply Kd.R_drew)); exact Kd.R_mono (Kd.R_far (p := ⟨gb231, 1, none⟩) (Kd.R_far (p := ⟨gb231, 0, none⟩) (Kd.R_types HO229.out BK231.out (by decide)) (fun _ hk => hk.2) (.int .i64 t226)) (fun _ hk => hk.2) (.slice Ao28 t227.length co28)) (fun _ hk => by first | exact ⟨hk.1.1.1.2, ⟨hk.1.1.2, hk.1.2⟩⟩ | (revert hk; simp only [and_imp]; intros; (repeat' (first | assumption | apply And.intro)); done))⟩, ⟨by (with_reducible repeat (first | refine blk_drewN ?_ _ | refine blk_drew ?_ | refine blk_alloc ?_ _)); refine blk_far ?_ NB213_231.out _; (with_reducible repeat (first | refine blk_drewN ?_ _ | refine blk_drew ?_ | refine blk_alloc ?_ _)); refine blk_far ?_ NB213_231.out _; (with_reducible repeat (first | refine blk_drewN ?_ _ | refine blk_drew ?_ | refine blk_alloc ?_ _)); exact BK213.out⟩, ⟨by (with_reducible repeat (first | refine blk_drewN ?_ _ | refine blk_drew ?_ | refine blk_alloc ?_ _)); refine blk_far ?_ NB219_231.out _; (with_reducible repeat (first | refine blk_drewN ?_ _ | refine blk_drew ?_ | refine blk_alloc ?_ _)); refine blk_far ?_ NB219_231.out _; (with_reducible repeat (first | refine blk_drewN ?_ _ | refine blk_drew ?_ | refine blk_alloc ?_ _)); exact BK219.out⟩, ⟨by (with_reducible repeat (first | refine blk_drewN ?_ _ | refine blk_drew ?_ | refine blk_alloc ?_ _)); refine blk_far ?_ NB225_231.out _; (with_reducible repeat (first | refine blk_drewN ?_ _ | refine blk_drew ?_ | refine blk_alloc ?_ _)); refine blk_far ?_ NB225_231.out _; (with_reducible repeat (first | refine blk_drewN ?_ _ | refine blk_drew ?_ | refine blk_alloc ?_ _)); exact BK225.out⟩, ⟨by (with_reducible repeat (first | refine blk_drewN ?_ _ | refine blk_drew ?_ | refine blk_alloc ?_ _)); refine blk_put (cs := #[.int .i64 t226, .slice none 0 0]) ?_ 1 _ rfl; (with_reducible repeat (first | refine blk_drewN ?_ _ | refine blk_drew ?_ | refine blk_alloc ?_ _)); refine blk_put (cs := #[.int .i64 0, .slice none 0 0]) ?_ 0 _ rfl; (with_reducible repeat (first | refine blk_drewN ?_ _ | refine blk_drew ?_ | refine blk_alloc ?_ _)); exact BK231.out⟩, ⟨by repeat (first | (with_reducible first | exact HB.out | apply below_alloc | apply pw_below_drewN | apply below_drew1 | refine below_set ?_ GE213.out | refine below_set ?_ GE219.out | refine below_set ?_ GE225.out | refine below_set ?_ GE231.out) | exact HB.out)⟩⟩
        · rw [if_neg c31] at H
          have c31b0 : (t224 == 0) = false := beq_eq_false_iff_ne.mpr c31
          have c31b1 : (t224 != 0) = true := bne_iff_ne.mpr c31
          have H' := Aside0.mk H
          clear H
          go_wp2
          go_meet
          case rel => exact ⟨_, (true), (by first | rfl | (simp; done) | (simp [*]; done)), H', ⟨by first | omega | exact Nat.le_refl _⟩, ⟨by (with_reducible repeat (first | apply Kd.R_alloc | apply Kd.R_drewN | apply Kd.R_drew)); exact Kd.R_mono (Kd.R_far (p := ⟨gb231, 1, none⟩) (Kd.R_far (p := ⟨gb231, 0, none⟩) (Kd.R_types HO211.out BK231.out (by decide)) (fun _ hk => hk.2) (.int .i64 t226)) (fun _ hk => hk.2) (.slice Ao28 t227.length co28)) (fun _ hk => by first | exact ⟨hk.1.1.1.2, ⟨hk.1.1.2, hk.1.2⟩⟩ | (revert hk; simp only [and_imp]; intros; (repeat' (first | assumption | apply And.intro)); done))⟩, ⟨by (with_reducible repeat (first | apply Kd.R_alloc | apply Kd.R_drewN | apply Kd.R_drew)); exact Kd.R_mono (Kd.R_far (p := ⟨gb231, 1, none⟩) (Kd.R_far (p := ⟨gb231, 0, none⟩) (Kd.R_types HO217.out BK231.out (by decide)) (fun _ hk => hk.2) (.int .i64 t226)) (fun _ hk => hk.2) (.slice Ao28 t227.length co28)) (fun _ hk => by first | exact ⟨hk.1.1.1.2, ⟨hk.1.1.2, hk.1.2⟩⟩ | (revert hk; simp only [and_imp]; intros; (repeat' (first | assumption | apply And.intro)); done))⟩, ⟨by (with_reducible repeat (first | apply Kd.R_alloc | apply Kd.R_drewN | apply Kd.R_drew)); exact Kd.R_mono (Kd.R_far (p := ⟨gb231, 1, none⟩) (Kd.R_far (p := ⟨gb231, 0, none⟩) (Kd.R_types HO223.out BK231.out (by decide)) (fun _ hk => hk.2) (.int .i64 t226)) (fun _ hk => hk.2) (.slice Ao28 t227.length co28)) (fun _ hk => by first | exact ⟨hk.1.1.1.2, ⟨hk.1.1.2, hk.1.2⟩⟩ | (revert hk; simp only [and_imp]; intros; (repeat' (first | assumption | apply And.intro)); done))⟩, ⟨by (with_reducible repeat (first | apply Kd.R_alloc | apply Kd.R_drewN | apply Kd.R_drew)); exact Kd.R_mono (Kd.R_far (p := ⟨gb231, 1, none⟩) (Kd.R_far (p := ⟨gb231, 0, none⟩) (Kd.R_types HO229.out BK231.out (by decide)) (fun _ hk => hk.2) (.int .i64 t226)) (fun _ hk => hk.2) (.slice Ao28 t227.length co28)) (fun _ hk => by first | exact ⟨hk.1.1.1.2, ⟨hk.1.1.2, hk.1.2⟩⟩ | (revert hk; simp only [and_imp]; intros; (repeat' (first | assumption | apply And.intro)); done))⟩, ⟨by (with_reducible repeat (first | refine blk_drewN ?_ _ | refine blk_drew ?_ | refine blk_alloc ?_ _)); refine blk_far ?_ NB213_231.out _; (with_reducible repeat (first | refine blk_drewN ?_ _ | refine blk_drew ?_ | refine blk_alloc ?_ _)); refine blk_far ?_ NB213_231.out _; (with_reducible repeat (first | refine blk_drewN ?_ _ | refine blk_drew ?_ | refine blk_alloc ?_ _)); exact BK213.out⟩, ⟨by (with_reducible repeat (first | refine blk_drewN ?_ _ | refine blk_drew ?_ | refine blk_alloc ?_ _)); refine blk_far ?_ NB219_231.out _; (with_reducible repeat (first | refine blk_drewN ?_ _ | refine blk_drew ?_ | refine blk_alloc ?_ _)); refine blk_far ?_ NB219_231.out _; (with_reducible repeat (first | refine blk_drewN ?_ _ | refine blk_drew ?_ | refine blk_alloc ?_ _)); exact BK219.out⟩, ⟨by (with_reducible repeat (first | refine blk_drewN ?_ _ | refine blk_drew ?_ | refine blk_alloc ?_ _)); refine blk_far ?_ NB225_231.out _; (with_reducible repeat (first | refine blk_drewN ?_ _ | refine blk_drew ?_ | refine blk_alloc ?_ _)); refine blk_far ?_ NB225_231.out _; (with_reducible repeat (first | refine blk_drewN ?_ _ | refine blk_drew ?_ | refine blk_alloc ?_ _)); exact BK225.out⟩, ⟨by (with_reducible repeat (first | refine blk_drewN ?_ _ | refine blk_drew ?_ | refine blk_alloc ?_ _)); refine blk_put (cs := #[.int .i64 t226, .slice none 0 0]) ?_ 1 _ rfl; (with_reducible repeat (first | refine blk_drewN ?_ _ | refine blk_drew ?_ | refine blk_alloc ?_ _)); refine blk_put (cs := #[.int .i64 0, .slice none 0 0]) ?_ 0 _ rfl; (with_reducible repeat (first | refine blk_drewN ?_ _ | refine blk_drew ?_ | refine blk_alloc ?_ _)); exact BK231.out⟩, ⟨by repeat (first | (with_reducible first | exact HB.out | apply below_alloc | apply pw_below_drewN | apply below_drew1 | refine below_set ?_ GE213.out | refine below_set ?_ GE219.out | refine below_set ?_ GE225.out | refine below_set ?_ GE231.out) | exact HB.out)⟩⟩
      · rw [if_neg c30] at H
        have c30b0 : (t218 == 0) = false := beq_eq_false_iff_ne.mpr c30
        have c30b1 : (t218 != 0) = true := bne_iff_ne.mpr c30
        have H' := Aside0.mk H
        clear H
        go_wp2
        go_meet
        case rel => exact ⟨_, (true), (by first | rfl | (simp; done) | (simp [*]; done)), H', ⟨by first | omega | exact Nat.le_refl _⟩, ⟨by (with_reducible repeat (first | apply Kd.R_alloc | apply Kd.R_drewN | apply Kd.R_drew)); exact Kd.R_mono (Kd.R_far (p := ⟨gb231, 1, none⟩) (Kd.R_far (p := ⟨gb231, 0, none⟩) (Kd.R_types HO211.out BK231.out (by decide)) (fun _ hk => hk.2) (.int .i64 t226)) (fun _ hk => hk.2) (.slice Ao28 t227.length co28)) (fun _ hk => by first | exact ⟨hk.1.1.1.2, ⟨hk.1.1.2, hk.1.2⟩⟩ | (revert hk; simp only [and_imp]; intros; (repeat' (first | assumption | apply And.intro)); done))⟩, ⟨by (with_reducible repeat (first | apply Kd.R_alloc | apply Kd.R_drewN | apply Kd.R_drew)); exact Kd.R_mono (Kd.R_far (p := ⟨gb231, 1, none⟩) (Kd.R_far (p := ⟨gb231, 0, none⟩) (Kd.R_types HO217.out BK231.out (by decide)) (fun _ hk => hk.2) (.int .i64 t226)) (fun _ hk => hk.2) (.slice Ao28 t227.length co28)) (fun _ hk => by first | exact ⟨hk.1.1.1.2, ⟨hk.1.1.2, hk.1.2⟩⟩ | (revert hk; simp only [and_imp]; intros; (repeat' (first | assumption | apply And.intro)); done))⟩, ⟨by (with_reducible repeat (first | apply Kd.R_alloc | apply Kd.R_drewN | apply Kd.R_drew)); exact Kd.R_mono (Kd.R_far (p := ⟨gb231, 1, none⟩) (Kd.R_far (p := ⟨gb231, 0, none⟩) (Kd.R_types HO223.out BK231.out (by decide)) (fun _ hk => hk.2) (.int .i64 t226)) (fun _ hk => hk.2) (.slice Ao28 t227.length co28)) (fun _ hk => by first | exact ⟨hk.1.1.1.2, ⟨hk.1.1.2, hk.1.2⟩⟩ | (revert hk; simp only [and_imp]; intros; (repeat' (first | assumption | apply And.intro)); done))⟩, ⟨by (with_reducible repeat (first | apply Kd.R_alloc | apply Kd.R_drewN | apply Kd.R_drew)); exact Kd.R_mono (Kd.R_far (p := ⟨gb231, 1, none⟩) (Kd.R_far (p := ⟨gb231, 0, none⟩) (Kd.R_types HO229.out BK231.out (by decide)) (fun _ hk => hk.2) (.int .i64 t226)) (fun _ hk => hk.2) (.slice Ao28 t227.length co28)) (fun _ hk => by first | exact ⟨hk.1.1.1.2, ⟨hk.1.1.2, hk.1.2⟩⟩ | (revert hk; simp only [and_imp]; intros; (repeat' (first | assumption | apply And.intro)); done))⟩, ⟨by (with_reducible repeat (first | refine blk_drewN ?_ _ | refine blk_drew ?_ | refine blk_alloc ?_ _)); refine blk_far ?_ NB213_231.out _; (with_reducible repeat (first | refine blk_drewN ?_ _ | refine blk_drew ?_ | refine blk_alloc ?_ _)); refine blk_far ?_ NB213_231.out _; (with_reducible repeat (first | refine blk_drewN ?_ _ | refine blk_drew ?_ | refine blk_alloc ?_ _)); exact BK213.out⟩, ⟨by (with_reducible repeat (first | refine blk_drewN ?_ _ | refine blk_drew ?_ | refine blk_alloc ?_ _)); refine blk_far ?_ NB219_231.out _; (with_reducible repeat (first | refine blk_drewN ?_ _ | refine blk_drew ?_ | refine blk_alloc ?_ _)); refine blk_far ?_ NB219_231.out _; (with_reducible repeat (first | refine blk_drewN ?_ _ | refine blk_drew ?_ | refine blk_alloc ?_ _)); exact BK219.out⟩, ⟨by (with_reducible repeat (first | refine blk_drewN ?_ _ | refine blk_drew ?_ | refine blk_alloc ?_ _)); refine blk_far ?_ NB225_231.out _; (with_reducible repeat (first | refine blk_drewN ?_ _ | refine blk_drew ?_ | refine blk_alloc ?_ _)); refine blk_far ?_ NB225_231.out _; (with_reducible repeat (first | refine blk_drewN ?_ _ | refine blk_drew ?_ | refine blk_alloc ?_ _)); exact BK225.out⟩, ⟨by (with_reducible repeat (first | refine blk_drewN ?_ _ | refine blk_drew ?_ | refine blk_alloc ?_ _)); refine blk_put (cs := #[.int .i64 t226, .slice none 0 0]) ?_ 1 _ rfl; (with_reducible repeat (first | refine blk_drewN ?_ _ | refine blk_drew ?_ | refine blk_alloc ?_ _)); refine blk_put (cs := #[.int .i64 0, .slice none 0 0]) ?_ 0 _ rfl; (with_reducible repeat (first | refine blk_drewN ?_ _ | refine blk_drew ?_ | refine blk_alloc ?_ _)); exact BK231.out⟩, ⟨by repeat (first | (with_reducible first | exact HB.out | apply below_alloc | apply pw_below_drewN | apply below_drew1 | refine below_set ?_ GE213.out | refine below_set ?_ GE219.out | refine below_set ?_ GE225.out | refine below_set ?_ GE231.out) | exact HB.out)⟩⟩
    · rw [if_neg c29] at H
      have c29b0 : (t212 == 0) = false := beq_eq_false_iff_ne.mpr c29
      have c29b1 : (t212 != 0) = true := bne_iff_ne.mpr c29
      (first | rw [c29b0] | (simp only [i64_w, i32_w]; rw [c29b0]) | skip)
      have H' := Aside0.mk H
      clear H
      go_wp2
      go_meet
      case rel => exact ⟨_, (true), (by first | rfl | (simp; done) | (simp [*]; done)), H', ⟨by first | omega | exact Nat.le_refl _⟩, ⟨by (with_reducible repeat (first | apply Kd.R_alloc | apply Kd.R_drewN | apply Kd.R_drew)); exact Kd.R_mono (Kd.R_far (p := ⟨gb231, 1, none⟩) (Kd.R_far (p := ⟨gb231, 0, none⟩) (Kd.R_types HO211.out BK231.out (by decide)) (fun _ hk => hk.2) (.int .i64 t226)) (fun _ hk => hk.2) (.slice Ao28 t227.length co28)) (fun _ hk => by first | exact ⟨hk.1.1.1.2, ⟨hk.1.1.2, hk.1.2⟩⟩ | (revert hk; simp only [and_imp]; intros; (repeat' (first | assumption | apply And.intro)); done))⟩, ⟨by (with_reducible repeat (first | apply Kd.R_alloc | apply Kd.R_drewN | apply Kd.R_drew)); exact Kd.R_mono (Kd.R_far (p := ⟨gb231, 1, none⟩) (Kd.R_far (p := ⟨gb231, 0, none⟩) (Kd.R_types HO217.out BK231.out (by decide)) (fun _ hk => hk.2) (.int .i64 t226)) (fun _ hk => hk.2) (.slice Ao28 t227.length co28)) (fun _ hk => by first | exact ⟨hk.1.1.1.2, ⟨hk.1.1.2, hk.1.2⟩⟩ | (revert hk; simp only [and_imp]; intros; (repeat' (first | assumption | apply And.intro)); done))⟩, ⟨by (with_reducible repeat (first | apply Kd.R_alloc | apply Kd.R_drewN | apply Kd.R_drew)); exact Kd.R_mono (Kd.R_far (p := ⟨gb231, 1, none⟩) (Kd.R_far (p := ⟨gb231, 0, none⟩) (Kd.R_types HO223.out BK231.out (by decide)) (fun _ hk => hk.2) (.int .i64 t226)) (fun _ hk => hk.2) (.slice Ao28 t227.length co28)) (fun _ hk => by first | exact ⟨hk.1.1.1.2, ⟨hk.1.1.2, hk.1.2⟩⟩ | (revert hk; simp only [and_imp]; intros; (repeat' (first | assumption | apply And.intro)); done))⟩, ⟨by (with_reducible repeat (first | apply Kd.R_alloc | apply Kd.R_drewN | apply Kd.R_drew)); exact Kd.R_mono (Kd.R_far (p := ⟨gb231, 1, none⟩) (Kd.R_far (p := ⟨gb231, 0, none⟩) (Kd.R_types HO229.out BK231.out (by decide)) (fun _ hk => hk.2) (.int .i64 t226)) (fun _ hk => hk.2) (.slice Ao28 t227.length co28)) (fun _ hk => by first | exact ⟨hk.1.1.1.2, ⟨hk.1.1.2, hk.1.2⟩⟩ | (revert hk; simp only [and_imp]; intros; (repeat' (first | assumption | apply And.intro)); done))⟩, ⟨by (with_reducible repeat (first | refine blk_drewN ?_ _ | refine blk_drew ?_ | refine blk_alloc ?_ _)); refine blk_far ?_ NB213_231.out _; (with_reducible repeat (first | refine blk_drewN ?_ _ | refine blk_drew ?_ | refine blk_alloc ?_ _)); refine blk_far ?_ NB213_231.out _; (with_reducible repeat (first | refine blk_drewN ?_ _ | refine blk_drew ?_ | refine blk_alloc ?_ _)); exact BK213.out⟩, ⟨by (with_reducible repeat (first | refine blk_drewN ?_ _ | refine blk_drew ?_ | refine blk_alloc ?_ _)); refine blk_far ?_ NB219_231.out _; (with_reducible repeat (first | refine blk_drewN ?_ _ | refine blk_drew ?_ | refine blk_alloc ?_ _)); refine blk_far ?_ NB219_231.out _; (with_reducible repeat (first | refine blk_drewN ?_ _ | refine blk_drew ?_ | refine blk_alloc ?_ _)); exact BK219.out⟩, ⟨by (with_reducible repeat (first | refine blk_drewN ?_ _ | refine blk_drew ?_ | refine blk_alloc ?_ _)); refine blk_far ?_ NB225_231.out _; (with_reducible repeat (first | refine blk_drewN ?_ _ | refine blk_drew ?_ | refine blk_alloc ?_ _)); refine blk_far ?_ NB225_231.out _; (with_reducible repeat (first | refine blk_drewN ?_ _ | refine blk_drew ?_ | refine blk_alloc ?_ _)); exact BK225.out⟩, ⟨by (with_reducible repeat (first | refine blk_drewN ?_ _ | refine blk_drew ?_ | refine blk_alloc ?_ _)); refine blk_put (cs := #[.int .i64 t226, .slice none 0 0]) ?_ 1 _ rfl; (with_reducible repeat (first | refine blk_drewN ?_ _ | refine blk_drew ?_ | refine blk_alloc ?_ _)); refine blk_put (cs := #[.int .i64 0, .slice none 0 0]) ?_ 0 _ rfl; (with_reducible repeat (first | refine blk_drewN ?_ _ | refine blk_drew ?_ | refine blk_alloc ?_ _)); exact BK231.out⟩, ⟨by repeat (first | (with_reducible first | exact HB.out | apply below_alloc | apply pw_below_drewN | apply below_drew1 | refine below_set ?_ GE213.out | refine below_set ?_ GE219.out | refine below_set ?_ GE225.out | refine below_set ?_ GE231.out) | exact HB.out)⟩⟩
  case rest =>
    clear HC5
    try clear c1
    try clear c2
    try clear p2
    try clear c3
    try clear c12
    try clear c13
    try clear c15
    try clear c17
    try clear c18
    try clear c24
    try clear c25
    try clear c26
    try clear c29
    try clear c29b0
    try clear c29b1
    try clear c30
    try clear c30b0
    try clear c30b1
    try clear c31
    try clear c31b0
    try clear c31b1
    try clear c32
    try clear c32b0
    try clear c32b1
    try clear c33
    try clear c34
    try clear c35
    try clear hcz13_0
    try clear hcz13_1
    try clear hcz19_0
    try clear hcz19_1
    try clear hcz21_0
    try clear hcz21_1
    try clear hcz27_0
    try clear hcz27_1
    try clear hcz36_0
    try clear hcz36_1
    try clear hcz8_0
    try clear hcz8_1
    try clear hfz13_0
    try clear hfz13_1
    try clear hfz19_0
    try clear hfz19_1
    try clear hfz21_0
    try clear hfz21_1
    try clear hfz27_0
    try clear hfz27_1
    try clear hfz36_0
    try clear hfz36_1
    try clear hfz8_0
    try clear hfz8_1
    obtain ⟨kq, x51_4, rfl, HA, HJ4, HO_214001, HO_220001, HO_226001, HO_232001, BK213, BK219, BK225, BK231, HB⟩ := hcut
    cases kq with
    | zero => exact absurd HA.out (by simp [l02awake.j0])
    | succ kj4 =>
      have H := HA.out
      clear HA
      simp only [l02awake.j0] at H
      by_cases c37 : x51_4 = true
      · subst c37
        have H1 : (some false) = some r := by rw [if_pos rfl] at H; exact H
        clear H
        have H := H1
        clear H1
        obtain rfl := Option.some.inj H
        go_wp2
        go_ret
        exact ⟨by first | rfl | (simp [errW_none, errW_some] <;> rfl) | (simp [*, errW_none, errW_some] <;> rfl), by repeat (first | (with_reducible first | exact HB.out | apply below_alloc | apply pw_below_drewN | apply below_drew1 | refine below_set ?_ GE213.out | refine below_set ?_ GE219.out | refine below_set ?_ GE225.out | refine below_set ?_ GE231.out) | exact HB.out)⟩
      · replace c37 := Bool.eq_false_iff.mpr c37
        subst c37
        have H1 : ((bExtents.f t220 t221).bind fun t232 => (if 0 < (t215.length : Int) then (if (rd t215 0) = 17293822569102704640 then (if 1 < (t215.length : Int) then (if (rd t215 1) = 15 then ((bNext.f t214 t215 0).bind fun t237 => (if t237 = 60 then ((bNext.f t214 t215 68).bind fun t238 => (if t238 = (-1) then ((bCount.f kj4 t214 t215).bind fun t239 => (if t239 = 8 then ((r02SameExtents.f kj4 t232 (([(⟨60, 2⟩ : S26), (⟨64, 4⟩ : S26)] : List (S26)))).bind fun t243 => (if t243 = true then ((bCheck.f kj4 3 (([8] : List Int))).bind fun t247 => (some (t247 == 3))) else (some false))) else (some false))) else (some false))) else (some false))) else (some false)) else (none)) else (some false)) else (none))) = some r := by rw [if_neg (show ¬ (false = true) by decide)] at H; exact H
        clear H
        have H := H1
        clear H1
        replace H := Option.bind_eq_some_iff.mp H
        obtain ⟨t232, A380, H⟩ := H
        replace H : (if 0 < (t215.length : Int) then (if (rd t215 0) = 17293822569102704640 then (if 1 < (t215.length : Int) then (if (rd t215 1) = 15 then ((bNext.f t214 t215 0).bind fun t237 => (if t237 = 60 then ((bNext.f t214 t215 68).bind fun t238 => (if t238 = (-1) then ((bCount.f kj4 t214 t215).bind fun t239 => (if t239 = 8 then ((r02SameExtents.f kj4 t232 (([(⟨60, 2⟩ : S26), (⟨64, 4⟩ : S26)] : List (S26)))).bind fun t243 => (if t243 = true then ((bCheck.f kj4 3 (([8] : List Int))).bind fun t247 => (some (t247 == 3))) else (some false))) else (some false))) else (some false))) else (some false))) else (some false)) else (none)) else (some false)) else (none)) = some r := H
        have A38 := Aside0.mk A380
        clear A380
        by_cases c39 : 0 < (t215.length : Int)
        · rw [if_pos c39] at H
          have c39b0 : decide (0 < (t215.length : Int)) = true := decide_eq_true c39
          have c39b1 : decide (0 < t215.length) = true := decide_eq_true (by omega)
          clear c39
          by_cases c40 : (rd t215 0) = 17293822569102704640
          · rw [if_pos c40] at H
            have c40b0 : ((rd t215 0) == 17293822569102704640) = true := beq_iff_eq.mpr c40
            have c40b1 : ((rd t215 0) != 17293822569102704640) = false := bne_eq_false_iff_eq.mpr c40
            clear c40
            by_cases c41 : 1 < (t215.length : Int)
            · rw [if_pos c41] at H
              have c41b0 : decide (1 < (t215.length : Int)) = true := decide_eq_true c41
              have c41b1 : decide (1 < t215.length) = true := decide_eq_true (by omega)
              clear c41
              by_cases c42 : (rd t215 1) = 15
              · rw [if_pos c42] at H
                have c42b0 : ((rd t215 1) == 15) = true := beq_iff_eq.mpr c42
                have c42b1 : ((rd t215 1) != 15) = false := bne_eq_false_iff_eq.mpr c42
                clear c42
                replace H := Option.bind_eq_some_iff.mp H
                obtain ⟨t237, A430, H⟩ := H
                replace H : (if t237 = 60 then ((bNext.f t214 t215 68).bind fun t238 => (if t238 = (-1) then ((bCount.f kj4 t214 t215).bind fun t239 => (if t239 = 8 then ((r02SameExtents.f kj4 t232 (([(⟨60, 2⟩ : S26), (⟨64, 4⟩ : S26)] : List (S26)))).bind fun t243 => (if t243 = true then ((bCheck.f kj4 3 (([8] : List Int))).bind fun t247 => (some (t247 == 3))) else (some false))) else (some false))) else (some false))) else (some false)) = some r := H
                have A43 := Aside0.mk A430
                clear A430
                by_cases c44 : t237 = 60
                · rw [if_pos c44] at H
                  have c44b0 : (t237 == 60) = true := beq_iff_eq.mpr c44
                  have c44b1 : (t237 != 60) = false := bne_eq_false_iff_eq.mpr c44
                  clear c44
                  replace H := Option.bind_eq_some_iff.mp H
                  obtain ⟨t238, A450, H⟩ := H
                  replace H : (if t238 = (-1) then ((bCount.f kj4 t214 t215).bind fun t239 => (if t239 = 8 then ((r02SameExtents.f kj4 t232 (([(⟨60, 2⟩ : S26), (⟨64, 4⟩ : S26)] : List (S26)))).bind fun t243 => (if t243 = true then ((bCheck.f kj4 3 (([8] : List Int))).bind fun t247 => (some (t247 == 3))) else (some false))) else (some false))) else (some false)) = some r := H
                  have A45 := Aside0.mk A450
                  clear A450
                  by_cases c46 : t238 = (-1)
                  · rw [if_pos c46] at H
                    have c46b0 : (t238 == (-1)) = true := beq_iff_eq.mpr c46
                    have c46b1 : (t238 != (-1)) = false := bne_eq_false_iff_eq.mpr c46
                    clear c46
                    replace H := Option.bind_eq_some_iff.mp H
                    obtain ⟨t239, A470, H⟩ := H
                    replace H : (if t239 = 8 then ((r02SameExtents.f kj4 t232 (([(⟨60, 2⟩ : S26), (⟨64, 4⟩ : S26)] : List (S26)))).bind fun t243 => (if t243 = true then ((bCheck.f kj4 3 (([8] : List Int))).bind fun t247 => (some (t247 == 3))) else (some false))) else (some false)) = some r := H
                    have A47 := Aside0.mk A470
                    clear A470
                    by_cases c48 : t239 = 8
                    · rw [if_pos c48] at H
                      have c48b0 : (t239 == 8) = true := beq_iff_eq.mpr c48
                      have c48b1 : (t239 != 8) = false := bne_eq_false_iff_eq.mpr c48
                      clear c48
                      obtain ⟨y240, hy240⟩ : ∃ y_ : List (S26), y_ = (([(⟨60, 2⟩ : S26), (⟨64, 4⟩ : S26)] : List (S26))) := ⟨_, rfl⟩
                      replace H : ((r02SameExtents.f kj4 t232 y240).bind fun t243 => (if t243 = true then ((bCheck.f kj4 3 (([8] : List Int))).bind fun t247 => (some (t247 == 3))) else (some false))) = some r := by first | (rw [hy240]; with_reducible exact H) | (have H2_ := (Option.bind_some _ _).symm.trans H; rw [hy240]; with_reducible exact H2_) | (have H2_ := (Option.bind_some _ _).symm.trans H; with_reducible exact H2_) | with_reducible exact H | (rw [hy240]; exact H) | exact H
                      have Ny240 := Aside0.mk hy240
                      clear hy240
                      replace H := Option.bind_eq_some_iff.mp H
                      obtain ⟨t243, A490, H⟩ := H
                      replace H : (if t243 = true then ((bCheck.f kj4 3 (([8] : List Int))).bind fun t247 => (some (t247 == 3))) else (some false)) = some r := H
                      have A49 := Aside0.mk A490
                      clear A490
                      by_cases c50 : t243 = true
                      · subst c50
                        have H1 : ((bCheck.f kj4 3 (([8] : List Int))).bind fun t247 => (some (t247 == 3))) = some r := by rw [if_pos rfl] at H; exact H
                        clear H
                        have H := H1
                        clear H1
                        obtain ⟨y244, hy244⟩ : ∃ y_ : List Int, y_ = (([8] : List Int)) := ⟨_, rfl⟩
                        replace H : ((bCheck.f kj4 3 y244).bind fun t247 => (some (t247 == 3))) = some r := by first | (rw [hy244]; with_reducible exact H) | (have H2_ := (Option.bind_some _ _).symm.trans H; rw [hy244]; with_reducible exact H2_) | (have H2_ := (Option.bind_some _ _).symm.trans H; with_reducible exact H2_) | with_reducible exact H | (rw [hy244]; exact H) | exact H
                        have Ny244 := Aside0.mk hy244
                        clear hy244
                        replace H := Option.bind_eq_some_iff.mp H
                        obtain ⟨t247, A510, H⟩ := H
                        replace H : (some (t247 == 3)) = some r := H
                        have A51 := Aside0.mk A510
                        clear A510
                        obtain rfl := Option.some.inj H
                        have hnb52 := NB225_213.out
                        have hnc52 := NB213_225.out
                        have hnb53 := NB225_219.out
                        have hnc53 := NB219_225.out
                        have hnb54 := NB225_231.out
                        have hnc54 := NB231_225.out
                        have hcz55_0 : wc.cell? ⟨gb225, 0, none⟩ = some (.int .i64 t220) := (blk_cell BK225.out 0).trans rfl
                        have hcz55_1 : wc.cell? ⟨gb225, 1, none⟩ = some (.slice Ao20 t221.length co20) := (blk_cell BK225.out 1).trans rfl
                        have hfz55_0 := blk_frozen BK225.out 0
                        have hfz55_1 := blk_frozen BK225.out 1
                        go_wp2_with (first | ((with_reducible refine gate_callee (f := 31) rfl ?_); refine goesL_ (some 53) rfl rfl Tryd.func31 (by kernel_rfl) rfl #[.agg #[.int .i64 t220, .slice Ao20 t221.length co20]] rfl (by (try simp only [List.map_toArray, List.map_cons, List.map_nil]); first | done | rfl | (simp only [List.length_drop, List.length_take]; rfl)) ?_; (with_reducible refine (bExtents.calls t220 _ _ t221 t232 _ ?side3 ?side1 ?side2 A38.out).mono ?_); (case side1 => repeat (first | exact (Kd.R_reads' HO_226001.out).2.2 | (with_reducible refine Kd.C_alloc ?_ _) | (with_reducible refine Kd.C_drewN ?_ _) | (with_reducible refine Kd.C_drew ?_))); (case side2 => exact (Kd.R_reads' HO_226001.out).2.1); (case side3 => exact TabOK.below hG (by repeat (first | (with_reducible first | exact HB.out | apply below_alloc | apply pw_below_drewN | apply below_drew1 | refine below_set ?_ GE213.out | refine below_set ?_ GE219.out | refine below_set ?_ GE225.out | refine below_set ?_ GE231.out) | exact HB.out))); rintro e w56 ⟨v233, rfl, ho0, hb⟩; refine ⟨_, rfl, ?_⟩; have n0_ := Aside0.mk (Kd.R_below (by (with_reducible repeat (first | apply Kd.R_alloc | apply Kd.R_drewN | apply Kd.R_drew)); exact HO_214001.out) hb); have n1_ := Aside0.mk (Kd.R_below (by (with_reducible repeat (first | apply Kd.R_alloc | apply Kd.R_drewN | apply Kd.R_drew)); exact HO_220001.out) hb); have n2_ := Aside0.mk (Kd.R_below (by (with_reducible repeat (first | apply Kd.R_alloc | apply Kd.R_drewN | apply Kd.R_drew)); exact HO_226001.out) hb); have n3_ := Aside0.mk (Kd.R_below (by (with_reducible repeat (first | apply Kd.R_alloc | apply Kd.R_drewN | apply Kd.R_drew)); exact HO_232001.out) hb); have n4_ := Aside0.mk (Kd.R_lower ho0 (below_size (by repeat (first | (with_reducible first | exact HB.out | apply below_alloc | apply pw_below_drewN | apply below_drew1 | refine below_set ?_ GE213.out | refine below_set ?_ GE219.out | refine below_set ?_ GE225.out | refine below_set ?_ GE231.out) | exact HB.out)))); have n5_ := Aside0.mk (blk_below (g := gb213) (o := .cells #[.int .i64 t208, .slice Ao9 t209.length co9] 24 (0, 0)) (by (with_reducible repeat (first | refine blk_drewN ?_ _ | refine blk_drew ?_ | refine blk_alloc ?_ _)); exact BK213.out) hb); have n6_ := Aside0.mk (blk_below (g := gb219) (o := .cells #[.int .i64 t214, .slice Ao14 t215.length co14] 24 (0, 0)) (by (with_reducible repeat (first | refine blk_drewN ?_ _ | refine blk_drew ?_ | refine blk_alloc ?_ _)); exact BK219.out) hb); have n7_ := Aside0.mk (blk_below (g := gb225) (o := .cells #[.int .i64 t220, .slice Ao20 t221.length co20] 24 (0, 0)) (by (with_reducible repeat (first | refine blk_drewN ?_ _ | refine blk_drew ?_ | refine blk_alloc ?_ _)); exact BK225.out) hb); have n8_ := Aside0.mk (blk_below (g := gb231) (o := .cells #[.int .i64 t226, .slice Ao28 t227.length co28] 24 (0, 0)) (by (with_reducible repeat (first | refine blk_drewN ?_ _ | refine blk_drew ?_ | refine blk_alloc ?_ _)); exact BK231.out) hb); have n9_ := Aside0.mk (below_step (by repeat (first | (with_reducible first | exact HB.out | apply below_alloc | apply pw_below_drewN | apply below_drew1 | refine below_set ?_ GE213.out | refine below_set ?_ GE219.out | refine below_set ?_ GE225.out | refine below_set ?_ GE231.out) | exact HB.out)) hb); clear HO_214001; clear HO_220001; clear HO_226001; clear HO_232001; clear BK213; clear BK219; clear BK225; clear BK231; clear HB; have HO_214001 := n0_; have HO_220001 := n1_; have HO_226001 := n2_; have HO_232001 := n3_; have HO234 := n4_; have BK213 := n5_; have BK219 := n6_; have BK225 := n7_; have BK231 := n8_; have HB := n9_; clear n0_ n1_ n2_ n3_ n4_ n5_ n6_ n7_ n8_ n9_; (try clear hb); (try clear hb2); (try clear hk); (try clear hi); (try clear ho0); have hnb57 := NB219_213.out; have hnc57 := NB213_219.out; have hnb58 := NB219_231.out; have hnc58 := NB231_219.out; have hcz59_0 : w56.cell? ⟨gb219, 0, none⟩ = some (.int .i64 t214) := (blk_cell BK219.out 0).trans rfl; have hcz59_1 : w56.cell? ⟨gb219, 1, none⟩ = some (.slice Ao14 t215.length co14) := (blk_cell BK219.out 1).trans rfl; have hfz59_0 := blk_frozen BK219.out 0; have hfz59_1 := blk_frozen BK219.out 1; have p235 : 0 ≤ (0 : Int) := (by omega); have q235 : 0 < (t215.length : Int) := of_decide_eq_true (by first | (with_reducible assumption) | assumption); obtain ⟨ad235, e235, hx235_0⟩ := Kd.at_int (Kd.R_reads' HO_220001.out).2.2 0 p235 q235; cases e235; have qi235 : (0 < t215.length) = True := eq_true (by omega); (try rw [show ((0 : Int)).toNat = 0 from rfl] at hx235_0); (try rw [Addr.add_zero'] at hx235_0); replace p235 := eq_true p235; replace q235 := eq_true q235; have p236 : 0 ≤ (1 : Int) := (by omega); have q236 : 1 < (t215.length : Int) := of_decide_eq_true (by first | (with_reducible assumption) | assumption); obtain ⟨ad236, e236, hx236_0⟩ := Kd.at_int (Kd.R_reads' HO_220001.out).2.2 1 p236 q236; obtain rfl : ad235 = ad236 := (by injection e236); (try simp only [show (1 : Int).toNat = 1 from rfl, Nat.reduceMul, Nat.reduceEqDiff, Go.Addr.add, ↓reduceIte] at hx236_0); have qi236 : (1 < t215.length) = True := eq_true (by omega); (try rw [show ((1 : Int)).toNat = 1 from rfl] at hx236_0); replace p236 := eq_true p236; replace q236 := eq_true q236) | (go_at_call 26; (with_reducible refine (bNext.calls t214 _ _ t215 0 t237 _ ?side3 ?side1 ?side2 A43.out).mono ?_); (case side1 => repeat (first | exact (Kd.R_reads' HO_220001.out).2.2 | (with_reducible refine Kd.C_alloc ?_ _) | (with_reducible refine Kd.C_drewN ?_ _) | (with_reducible refine Kd.C_drew ?_))); (case side2 => exact (Kd.R_reads' HO_220001.out).2.1); (case side3 => exact TabOK.below hG (by repeat (first | (with_reducible first | exact HB.out | apply below_alloc | apply pw_below_drewN | apply below_drew1 | refine below_set ?_ GE213.out | refine below_set ?_ GE219.out | refine below_set ?_ GE225.out | refine below_set ?_ GE231.out) | exact HB.out))); rintro e w60 ⟨rfl, hb⟩; have n0_ := Aside0.mk (Kd.R_below (by (with_reducible repeat (first | apply Kd.R_alloc | apply Kd.R_drewN | apply Kd.R_drew)); exact HO_214001.out) hb); have n1_ := Aside0.mk (Kd.R_below (by (with_reducible repeat (first | apply Kd.R_alloc | apply Kd.R_drewN | apply Kd.R_drew)); exact HO_220001.out) hb); have n2_ := Aside0.mk (Kd.R_below (by (with_reducible repeat (first | apply Kd.R_alloc | apply Kd.R_drewN | apply Kd.R_drew)); exact HO_226001.out) hb); have n3_ := Aside0.mk (Kd.R_below (by (with_reducible repeat (first | apply Kd.R_alloc | apply Kd.R_drewN | apply Kd.R_drew)); exact HO_232001.out) hb); have n4_ := Aside0.mk (Kd.R_below (by (with_reducible repeat (first | apply Kd.R_alloc | apply Kd.R_drewN | apply Kd.R_drew)); exact HO234.out) hb); have n5_ := Aside0.mk (blk_below (g := gb213) (o := .cells #[.int .i64 t208, .slice Ao9 t209.length co9] 24 (0, 0)) (by (with_reducible repeat (first | refine blk_drewN ?_ _ | refine blk_drew ?_ | refine blk_alloc ?_ _)); exact BK213.out) hb); have n6_ := Aside0.mk (blk_below (g := gb219) (o := .cells #[.int .i64 t214, .slice (some ad235) t215.length co14] 24 (0, 0)) (by (with_reducible repeat (first | refine blk_drewN ?_ _ | refine blk_drew ?_ | refine blk_alloc ?_ _)); exact BK219.out) hb); have n7_ := Aside0.mk (blk_below (g := gb225) (o := .cells #[.int .i64 t220, .slice Ao20 t221.length co20] 24 (0, 0)) (by (with_reducible repeat (first | refine blk_drewN ?_ _ | refine blk_drew ?_ | refine blk_alloc ?_ _)); exact BK225.out) hb); have n8_ := Aside0.mk (blk_below (g := gb231) (o := .cells #[.int .i64 t226, .slice Ao28 t227.length co28] 24 (0, 0)) (by (with_reducible repeat (first | refine blk_drewN ?_ _ | refine blk_drew ?_ | refine blk_alloc ?_ _)); exact BK231.out) hb); have n9_ := Aside0.mk (below_step (by repeat (first | (with_reducible first | exact HB.out | apply below_alloc | apply pw_below_drewN | apply below_drew1 | refine below_set ?_ GE213.out | refine below_set ?_ GE219.out | refine below_set ?_ GE225.out | refine below_set ?_ GE231.out) | exact HB.out)) hb); clear HO_214001; clear HO_220001; clear HO_226001; clear HO_232001; clear HO234; clear BK213; clear BK219; clear BK225; clear BK231; clear HB; have HO_214001 := n0_; have HO_220001 := n1_; have HO_226001 := n2_; have HO_232001 := n3_; have HO234 := n4_; have BK213 := n5_; have BK219 := n6_; have BK225 := n7_; have BK231 := n8_; have HB := n9_; clear n0_ n1_ n2_ n3_ n4_ n5_ n6_ n7_ n8_ n9_; (try clear hb); (try clear hb2); (try clear hk); (try clear hi); have hcz61_0 : w60.cell? ⟨gb219, 0, none⟩ = some (.int .i64 t214) := (blk_cell BK219.out 0).trans rfl; have hcz61_1 : w60.cell? ⟨gb219, 1, none⟩ = some (.slice (some ad235) t215.length co14) := (blk_cell BK219.out 1).trans rfl; have hfz61_0 := blk_frozen BK219.out 0; have hfz61_1 := blk_frozen BK219.out 1) | (go_at_call 26; (with_reducible refine (bNext.calls t214 _ _ t215 68 t238 _ ?side3 ?side1 ?side2 A45.out).mono ?_); (case side1 => repeat (first | exact (Kd.R_reads' HO_220001.out).2.2 | (with_reducible refine Kd.C_alloc ?_ _) | (with_reducible refine Kd.C_drewN ?_ _) | (with_reducible refine Kd.C_drew ?_))); (case side2 => exact (Kd.R_reads' HO_220001.out).2.1); (case side3 => exact TabOK.below hG (by repeat (first | (with_reducible first | exact HB.out | apply below_alloc | apply pw_below_drewN | apply below_drew1 | refine below_set ?_ GE213.out | refine below_set ?_ GE219.out | refine below_set ?_ GE225.out | refine below_set ?_ GE231.out) | exact HB.out))); rintro e w62 ⟨rfl, hb⟩; have n0_ := Aside0.mk (Kd.R_below (by (with_reducible repeat (first | apply Kd.R_alloc | apply Kd.R_drewN | apply Kd.R_drew)); exact HO_214001.out) hb); have n1_ := Aside0.mk (Kd.R_below (by (with_reducible repeat (first | apply Kd.R_alloc | apply Kd.R_drewN | apply Kd.R_drew)); exact HO_220001.out) hb); have n2_ := Aside0.mk (Kd.R_below (by (with_reducible repeat (first | apply Kd.R_alloc | apply Kd.R_drewN | apply Kd.R_drew)); exact HO_226001.out) hb); have n3_ := Aside0.mk (Kd.R_below (by (with_reducible repeat (first | apply Kd.R_alloc | apply Kd.R_drewN | apply Kd.R_drew)); exact HO_232001.out) hb); have n4_ := Aside0.mk (Kd.R_below (by (with_reducible repeat (first | apply Kd.R_alloc | apply Kd.R_drewN | apply Kd.R_drew)); exact HO234.out) hb); have n5_ := Aside0.mk (blk_below (g := gb213) (o := .cells #[.int .i64 t208, .slice Ao9 t209.length co9] 24 (0, 0)) (by (with_reducible repeat (first | refine blk_drewN ?_ _ | refine blk_drew ?_ | refine blk_alloc ?_ _)); exact BK213.out) hb); have n6_ := Aside0.mk (blk_below (g := gb219) (o := .cells #[.int .i64 t214, .slice (some ad235) t215.length co14] 24 (0, 0)) (by (with_reducible repeat (first | refine blk_drewN ?_ _ | refine blk_drew ?_ | refine blk_alloc ?_ _)); exact BK219.out) hb); have n7_ := Aside0.mk (blk_below (g := gb225) (o := .cells #[.int .i64 t220, .slice Ao20 t221.length co20] 24 (0, 0)) (by (with_reducible repeat (first | refine blk_drewN ?_ _ | refine blk_drew ?_ | refine blk_alloc ?_ _)); exact BK225.out) hb); have n8_ := Aside0.mk (blk_below (g := gb231) (o := .cells #[.int .i64 t226, .slice Ao28 t227.length co28] 24 (0, 0)) (by (with_reducible repeat (first | refine blk_drewN ?_ _ | refine blk_drew ?_ | refine blk_alloc ?_ _)); exact BK231.out) hb); have n9_ := Aside0.mk (below_step (by repeat (first | (with_reducible first | exact HB.out | apply below_alloc | apply pw_below_drewN | apply below_drew1 | refine below_set ?_ GE213.out | refine below_set ?_ GE219.out | refine below_set ?_ GE225.out | refine below_set ?_ GE231.out) | exact HB.out)) hb); clear HO_214001; clear HO_220001; clear HO_226001; clear HO_232001; clear HO234; clear BK213; clear BK219; clear BK225; clear BK231; clear HB; have HO_214001 := n0_; have HO_220001 := n1_; have HO_226001 := n2_; have HO_232001 := n3_; have HO234 := n4_; have BK213 := n5_; have BK219 := n6_; have BK225 := n7_; have BK231 := n8_; have HB := n9_; clear n0_ n1_ n2_ n3_ n4_ n5_ n6_ n7_ n8_ n9_; (try clear hb); (try clear hb2); (try clear hk); (try clear hi); have hcz63_0 : w62.cell? ⟨gb219, 0, none⟩ = some (.int .i64 t214) := (blk_cell BK219.out 0).trans rfl; have hcz63_1 : w62.cell? ⟨gb219, 1, none⟩ = some (.slice (some ad235) t215.length co14) := (blk_cell BK219.out 1).trans rfl; have hfz63_0 := blk_frozen BK219.out 0; have hfz63_1 := blk_frozen BK219.out 1) | (go_at_call 24; (with_reducible refine (bCount.calls kj4 t214 _ _ t215 t239 _ ?side1 ?side2 A47.out).mono ?_); (case side1 => repeat (first | exact (Kd.R_reads' HO_220001.out).2.2 | (with_reducible refine Kd.C_alloc ?_ _) | (with_reducible refine Kd.C_drewN ?_ _) | (with_reducible refine Kd.C_drew ?_))); (case side2 => exact (Kd.R_reads' HO_220001.out).2.1); rintro e w64 ⟨rfl, hb⟩; have n0_ := Aside0.mk (Kd.R_below (by (with_reducible repeat (first | apply Kd.R_alloc | apply Kd.R_drewN | apply Kd.R_drew)); exact HO_214001.out) hb); have n1_ := Aside0.mk (Kd.R_below (by (with_reducible repeat (first | apply Kd.R_alloc | apply Kd.R_drewN | apply Kd.R_drew)); exact HO_220001.out) hb); have n2_ := Aside0.mk (Kd.R_below (by (with_reducible repeat (first | apply Kd.R_alloc | apply Kd.R_drewN | apply Kd.R_drew)); exact HO_226001.out) hb); have n3_ := Aside0.mk (Kd.R_below (by (with_reducible repeat (first | apply Kd.R_alloc | apply Kd.R_drewN | apply Kd.R_drew)); exact HO_232001.out) hb); have n4_ := Aside0.mk (Kd.R_below (by (with_reducible repeat (first | apply Kd.R_alloc | apply Kd.R_drewN | apply Kd.R_drew)); exact HO234.out) hb); have n5_ := Aside0.mk (blk_below (g := gb213) (o := .cells #[.int .i64 t208, .slice Ao9 t209.length co9] 24 (0, 0)) (by (with_reducible repeat (first | refine blk_drewN ?_ _ | refine blk_drew ?_ | refine blk_alloc ?_ _)); exact BK213.out) hb); have n6_ := Aside0.mk (blk_below (g := gb219) (o := .cells #[.int .i64 t214, .slice (some ad235) t215.length co14] 24 (0, 0)) (by (with_reducible repeat (first | refine blk_drewN ?_ _ | refine blk_drew ?_ | refine blk_alloc ?_ _)); exact BK219.out) hb); have n7_ := Aside0.mk (blk_below (g := gb225) (o := .cells #[.int .i64 t220, .slice Ao20 t221.length co20] 24 (0, 0)) (by (with_reducible repeat (first | refine blk_drewN ?_ _ | refine blk_drew ?_ | refine blk_alloc ?_ _)); exact BK225.out) hb); have n8_ := Aside0.mk (blk_below (g := gb231) (o := .cells #[.int .i64 t226, .slice Ao28 t227.length co28] 24 (0, 0)) (by (with_reducible repeat (first | refine blk_drewN ?_ _ | refine blk_drew ?_ | refine blk_alloc ?_ _)); exact BK231.out) hb); have n9_ := Aside0.mk (below_step (by repeat (first | (with_reducible first | exact HB.out | apply below_alloc | apply pw_below_drewN | apply below_drew1 | refine below_set ?_ GE213.out | refine below_set ?_ GE219.out | refine below_set ?_ GE225.out | refine below_set ?_ GE231.out) | exact HB.out)) hb); clear HO_214001; clear HO_220001; clear HO_226001; clear HO_232001; clear HO234; clear BK213; clear BK219; clear BK225; clear BK231; clear HB; have HO_214001 := n0_; have HO_220001 := n1_; have HO_226001 := n2_; have HO_232001 := n3_; have HO234 := n4_; have BK213 := n5_; have BK219 := n6_; have BK225 := n7_; have BK231 := n8_; have HB := n9_; clear n0_ n1_ n2_ n3_ n4_ n5_ n6_ n7_ n8_ n9_; (try clear hb); (try clear hb2); (try clear hk); (try clear hi)) | ((with_reducible refine gate_dst (N := 85) rfl ?_); (try (refine gate_guard (by rfl) ?_; dsimp only)); refine Kd.R_lit k26 _ 26 ?hg (N := 85) ?hd (xs := ([(⟨60, 2⟩ : S26), (⟨64, 4⟩ : S26)] : List (S26))) (inner := [.int .i64 60, .int .i64 2, .int .i64 64, .int .i64 4]) (ok := fun _ => True) (okp := fun _ => True) ?hr ?hp (fun _ hk => hk) trivial (Below.refl _ _) (Nat.le_refl _) (by simp) ?_; (case hd => rfl); (case hg => rfl); (case hr => first | (go_simp; done) | (go_simp; rfl)); (case hp => exact (Reps.c2 (show Kd.M k26 _ _ _ (⟨60, 2⟩ : S26) [.int .i64 60, .int .i64 2] from (k26_mkM _ _ _ (⟨60, 2⟩ : S26) )) (Reps.c2 (show Kd.M k26 _ _ _ (⟨64, 4⟩ : S26) [.int .i64 64, .int .i64 4] from (k26_mkM _ _ _ (⟨64, 4⟩ : S26) )) (Reps.none _ _)))); intro v241 w65 ho66 hb hg_ hnew_; clear hg_ hnew_; (first | rw [← Ny240.out] at ho66 | (simp only [Int.reduceToNat] at ho66; rw [← Ny240.out] at ho66)); have n0_ := Aside0.mk (Kd.R_below (by (with_reducible repeat (first | apply Kd.R_alloc | apply Kd.R_drewN | apply Kd.R_drew)); exact HO_214001.out) hb); have n1_ := Aside0.mk (Kd.R_below (by (with_reducible repeat (first | apply Kd.R_alloc | apply Kd.R_drewN | apply Kd.R_drew)); exact HO_220001.out) hb); have n2_ := Aside0.mk (Kd.R_below (by (with_reducible repeat (first | apply Kd.R_alloc | apply Kd.R_drewN | apply Kd.R_drew)); exact HO_226001.out) hb); have n3_ := Aside0.mk (Kd.R_below (by (with_reducible repeat (first | apply Kd.R_alloc | apply Kd.R_drewN | apply Kd.R_drew)); exact HO_232001.out) hb); have n4_ := Aside0.mk (Kd.R_elder' (by (with_reducible repeat (first | apply Kd.R_alloc | apply Kd.R_drewN | apply Kd.R_drew)); exact HO234.out) (Kd.R_base ho66) hb); have n5_ := Aside0.mk (Kd.R_lower (Kd.R_new' ho66 (Kd.R_lt (by (with_reducible repeat (first | apply Kd.R_alloc | apply Kd.R_drewN | apply Kd.R_drew)); exact HO234.out))) (below_size (by repeat (first | (with_reducible first | exact HB.out | apply below_alloc | apply pw_below_drewN | apply below_drew1 | refine below_set ?_ GE213.out | refine below_set ?_ GE219.out | refine below_set ?_ GE225.out | refine below_set ?_ GE231.out) | exact HB.out)))); have n6_ := Aside0.mk (blk_below (g := gb213) (o := .cells #[.int .i64 t208, .slice Ao9 t209.length co9] 24 (0, 0)) (by (with_reducible repeat (first | refine blk_drewN ?_ _ | refine blk_drew ?_ | refine blk_alloc ?_ _)); exact BK213.out) hb); have n7_ := Aside0.mk (blk_below (g := gb219) (o := .cells #[.int .i64 t214, .slice (some ad235) t215.length co14] 24 (0, 0)) (by (with_reducible repeat (first | refine blk_drewN ?_ _ | refine blk_drew ?_ | refine blk_alloc ?_ _)); exact BK219.out) hb); have n8_ := Aside0.mk (blk_below (g := gb225) (o := .cells #[.int .i64 t220, .slice Ao20 t221.length co20] 24 (0, 0)) (by (with_reducible repeat (first | refine blk_drewN ?_ _ | refine blk_drew ?_ | refine blk_alloc ?_ _)); exact BK225.out) hb); have n9_ := Aside0.mk (blk_below (g := gb231) (o := .cells #[.int .i64 t226, .slice Ao28 t227.length co28] 24 (0, 0)) (by (with_reducible repeat (first | refine blk_drewN ?_ _ | refine blk_drew ?_ | refine blk_alloc ?_ _)); exact BK231.out) hb); have n10_ := Aside0.mk (below_step (by repeat (first | (with_reducible first | exact HB.out | apply below_alloc | apply pw_below_drewN | apply below_drew1 | refine below_set ?_ GE213.out | refine below_set ?_ GE219.out | refine below_set ?_ GE225.out | refine below_set ?_ GE231.out) | exact HB.out)) hb); clear HO_214001; clear HO_220001; clear HO_226001; clear HO_232001; clear HO234; clear BK213; clear BK219; clear BK225; clear BK231; clear HB; have HO_214001 := n0_; have HO_220001 := n1_; have HO_226001 := n2_; have HO_232001 := n3_; have HO234 := n4_; have HO242 := n5_; have BK213 := n6_; have BK219 := n7_; have BK225 := n8_; have BK231 := n9_; have HB := n10_; clear n0_ n1_ n2_ n3_ n4_ n5_ n6_ n7_ n8_ n9_ n10_; clear hb ho66; obtain ⟨Ao67, co67, eo67⟩ := Kd.R_slice HO234.out; subst eo67; obtain ⟨Ao68, co68, eo68⟩ := Kd.R_slice HO242.out; subst eo68) | (go_at_call 30; (with_reducible refine (r02SameExtents.calls kj4 _ _ t232 _ _ y240 true _ ?side1 ?side2 ?side3 ?side4 A49.out).mono ?_); (case side1 => repeat (first | exact (Kd.R_reads' HO234.out).2.2 | (with_reducible refine Kd.C_alloc ?_ _) | (with_reducible refine Kd.C_drewN ?_ _) | (with_reducible refine Kd.C_drew ?_))); (case side2 => exact (Kd.R_reads' HO234.out).2.1); (case side3 => repeat (first | exact (Kd.R_reads' HO242.out).2.2 | (with_reducible refine Kd.C_alloc ?_ _) | (with_reducible refine Kd.C_drewN ?_ _) | (with_reducible refine Kd.C_drew ?_))); (case side4 => exact (Kd.R_reads' HO242.out).2.1); rintro e w' ⟨rfl, ⟨nd, rfl⟩⟩) | ((with_reducible refine gate_dst (N := 89) rfl ?_); (try (refine gate_guard (by rfl) ?_; dsimp only)); refine Kd.R_lit (Kd.int .u64) _ 55 ?hg (N := 89) ?hd (xs := ([8] : List Int)) (inner := [.int .u64 8]) (ok := fun _ => True) (okp := fun _ => True) ?hr ?hp (fun _ hk => hk) trivial (Below.refl _ _) (Nat.le_refl _) (by simp) ?_; (case hd => rfl); (case hg => rfl); (case hr => first | (go_simp; done) | (go_simp; rfl)); (case hp => exact (Reps.one (show Kd.M (Kd.int .u64) _ _ _ 8 [.int .u64 8] from rfl) (Reps.none _ _))); intro v245 w69 ho70 hb hg_ hnew_; clear hg_ hnew_; (first | rw [← Ny244.out] at ho70 | (simp only [Int.reduceToNat] at ho70; rw [← Ny244.out] at ho70)); have n0_ := Aside0.mk (Kd.R_elder' (by (with_reducible repeat (first | apply Kd.R_alloc | apply Kd.R_drewN | apply Kd.R_drew)); exact HO_214001.out) (Kd.R_base ho70) hb); have n1_ := Aside0.mk (Kd.R_elder' (by (with_reducible repeat (first | apply Kd.R_alloc | apply Kd.R_drewN | apply Kd.R_drew)); exact HO_220001.out) (Kd.R_base ho70) hb); have n2_ := Aside0.mk (Kd.R_elder' (by (with_reducible repeat (first | apply Kd.R_alloc | apply Kd.R_drewN | apply Kd.R_drew)); exact HO_226001.out) (Kd.R_base ho70) hb); have n3_ := Aside0.mk (Kd.R_elder' (by (with_reducible repeat (first | apply Kd.R_alloc | apply Kd.R_drewN | apply Kd.R_drew)); exact HO_232001.out) (Kd.R_base ho70) hb); have n4_ := Aside0.mk (Kd.R_below (by (with_reducible repeat (first | apply Kd.R_alloc | apply Kd.R_drewN | apply Kd.R_drew)); exact HO234.out) hb); have n5_ := Aside0.mk (Kd.R_below (by (with_reducible repeat (first | apply Kd.R_alloc | apply Kd.R_drewN | apply Kd.R_drew)); exact HO242.out) hb); have n6_ := Aside0.mk (Kd.R_lower (Kd.R_new' (Kd.R_new' (Kd.R_new' (Kd.R_new' ho70 (Kd.R_lt (by (with_reducible repeat (first | apply Kd.R_alloc | apply Kd.R_drewN | apply Kd.R_drew)); exact HO_214001.out))) (Kd.R_lt (by (with_reducible repeat (first | apply Kd.R_alloc | apply Kd.R_drewN | apply Kd.R_drew)); exact HO_220001.out))) (Kd.R_lt (by (with_reducible repeat (first | apply Kd.R_alloc | apply Kd.R_drewN | apply Kd.R_drew)); exact HO_226001.out))) (Kd.R_lt (by (with_reducible repeat (first | apply Kd.R_alloc | apply Kd.R_drewN | apply Kd.R_drew)); exact HO_232001.out))) (below_size (by repeat (first | (with_reducible first | exact HB.out | apply below_alloc | apply pw_below_drewN | apply below_drew1 | refine below_set ?_ GE213.out | refine below_set ?_ GE219.out | refine below_set ?_ GE225.out | refine below_set ?_ GE231.out) | exact HB.out)))); have n7_ := Aside0.mk (blk_below (g := gb213) (o := .cells #[.int .i64 t208, .slice Ao9 t209.length co9] 24 (0, 0)) (by (with_reducible repeat (first | refine blk_drewN ?_ _ | refine blk_drew ?_ | refine blk_alloc ?_ _)); exact BK213.out) hb); have n8_ := Aside0.mk (blk_below (g := gb219) (o := .cells #[.int .i64 t214, .slice (some ad235) t215.length co14] 24 (0, 0)) (by (with_reducible repeat (first | refine blk_drewN ?_ _ | refine blk_drew ?_ | refine blk_alloc ?_ _)); exact BK219.out) hb); have n9_ := Aside0.mk (blk_below (g := gb225) (o := .cells #[.int .i64 t220, .slice Ao20 t221.length co20] 24 (0, 0)) (by (with_reducible repeat (first | refine blk_drewN ?_ _ | refine blk_drew ?_ | refine blk_alloc ?_ _)); exact BK225.out) hb); have n10_ := Aside0.mk (blk_below (g := gb231) (o := .cells #[.int .i64 t226, .slice Ao28 t227.length co28] 24 (0, 0)) (by (with_reducible repeat (first | refine blk_drewN ?_ _ | refine blk_drew ?_ | refine blk_alloc ?_ _)); exact BK231.out) hb); have n11_ := Aside0.mk (below_step (by repeat (first | (with_reducible first | exact HB.out | apply below_alloc | apply pw_below_drewN | apply below_drew1 | refine below_set ?_ GE213.out | refine below_set ?_ GE219.out | refine below_set ?_ GE225.out | refine below_set ?_ GE231.out) | exact HB.out)) hb); clear HO_214001; clear HO_220001; clear HO_226001; clear HO_232001; clear HO234; clear HO242; clear BK213; clear BK219; clear BK225; clear BK231; clear HB; have HO_214001 := n0_; have HO_220001 := n1_; have HO_226001 := n2_; have HO_232001 := n3_; have HO234 := n4_; have HO242 := n5_; have HO246 := n6_; have BK213 := n7_; have BK219 := n8_; have BK225 := n9_; have BK231 := n10_; have HB := n11_; clear n0_ n1_ n2_ n3_ n4_ n5_ n6_ n7_ n8_ n9_ n10_ n11_; clear hb ho70; obtain ⟨Ao71, co71, eo71⟩ := Kd.R_slice HO246.out; subst eo71) | (go_at_call 20; (with_reducible refine (bCheck.calls kj4 3 _ _ y244 t247 _ ?side1 ?side2 A51.out).mono ?_); (case side1 => repeat (first | exact (Kd.R_reads' HO246.out).2.2 | (with_reducible refine Kd.C_alloc ?_ _) | (with_reducible refine Kd.C_drewN ?_ _) | (with_reducible refine Kd.C_drew ?_))); (case side2 => exact (Kd.R_reads' HO246.out).2.1); rintro e w72 ⟨rfl, hb⟩; have n0_ := Aside0.mk (Kd.R_below (by (with_reducible repeat (first | apply Kd.R_alloc | apply Kd.R_drewN | apply Kd.R_drew)); exact HO_214001.out) hb); have n1_ := Aside0.mk (Kd.R_below (by (with_reducible repeat (first | apply Kd.R_alloc | apply Kd.R_drewN | apply Kd.R_drew)); exact HO_220001.out) hb); have n2_ := Aside0.mk (Kd.R_below (by (with_reducible repeat (first | apply Kd.R_alloc | apply Kd.R_drewN | apply Kd.R_drew)); exact HO_226001.out) hb); have n3_ := Aside0.mk (Kd.R_below (by (with_reducible repeat (first | apply Kd.R_alloc | apply Kd.R_drewN | apply Kd.R_drew)); exact HO_232001.out) hb); have n4_ := Aside0.mk (Kd.R_below (by (with_reducible repeat (first | apply Kd.R_alloc | apply Kd.R_drewN | apply Kd.R_drew)); exact HO234.out) hb); have n5_ := Aside0.mk (Kd.R_below (by (with_reducible repeat (first | apply Kd.R_alloc | apply Kd.R_drewN | apply Kd.R_drew)); exact HO242.out) hb); have n6_ := Aside0.mk (Kd.R_below (by (with_reducible repeat (first | apply Kd.R_alloc | apply Kd.R_drewN | apply Kd.R_drew)); exact HO246.out) hb); have n7_ := Aside0.mk (blk_below (g := gb213) (o := .cells #[.int .i64 t208, .slice Ao9 t209.length co9] 24 (0, 0)) (by (with_reducible repeat (first | refine blk_drewN ?_ _ | refine blk_drew ?_ | refine blk_alloc ?_ _)); exact BK213.out) hb); have n8_ := Aside0.mk (blk_below (g := gb219) (o := .cells #[.int .i64 t214, .slice (some ad235) t215.length co14] 24 (0, 0)) (by (with_reducible repeat (first | refine blk_drewN ?_ _ | refine blk_drew ?_ | refine blk_alloc ?_ _)); exact BK219.out) hb); have n9_ := Aside0.mk (blk_below (g := gb225) (o := .cells #[.int .i64 t220, .slice Ao20 t221.length co20] 24 (0, 0)) (by (with_reducible repeat (first | refine blk_drewN ?_ _ | refine blk_drew ?_ | refine blk_alloc ?_ _)); exact BK225.out) hb); have n10_ := Aside0.mk (blk_below (g := gb231) (o := .cells #[.int .i64 t226, .slice Ao28 t227.length co28] 24 (0, 0)) (by (with_reducible repeat (first | refine blk_drewN ?_ _ | refine blk_drew ?_ | refine blk_alloc ?_ _)); exact BK231.out) hb); have n11_ := Aside0.mk (below_step (by repeat (first | (with_reducible first | exact HB.out | apply below_alloc | apply pw_below_drewN | apply below_drew1 | refine below_set ?_ GE213.out | refine below_set ?_ GE219.out | refine below_set ?_ GE225.out | refine below_set ?_ GE231.out) | exact HB.out)) hb); clear HO_214001; clear HO_220001; clear HO_226001; clear HO_232001; clear HO234; clear HO242; clear HO246; clear BK213; clear BK219; clear BK225; clear BK231; clear HB; have HO_214001 := n0_; have HO_220001 := n1_; have HO_226001 := n2_; have HO_232001 := n3_; have HO234 := n4_; have HO242 := n5_; have HO246 := n6_; have BK213 := n7_; have BK219 := n8_; have BK225 := n9_; have BK231 := n10_; have HB := n11_; clear n0_ n1_ n2_ n3_ n4_ n5_ n6_ n7_ n8_ n9_ n10_ n11_; (try clear hb); (try clear hb2); (try clear hk); (try clear hi)))
                        go_ret
                        exact ⟨by first | rfl | (simp [errW_none, errW_some] <;> rfl) | (simp [*, errW_none, errW_some] <;> rfl), by repeat (first | (with_reducible first | exact HB.out | apply below_alloc | apply pw_below_drewN | apply below_drew1 | refine below_set ?_ GE213.out | refine below_set ?_ GE219.out | refine below_set ?_ GE225.out | refine below_set ?_ GE231.out) | exact HB.out)⟩
                      · replace c50 := Bool.eq_false_iff.mpr c50
                        subst c50
                        have H1 : (some false) = some r := by rw [if_neg (show ¬ (false = true) by decide)] at H; exact H
                        clear H
                        have H := H1
                        clear H1
                        obtain rfl := Option.some.inj H
                        have hnb73 := NB225_213.out
                        have hnc73 := NB213_225.out
                        have hnb74 := NB225_219.out
                        have hnc74 := NB219_225.out
                        have hnb75 := NB225_231.out
                        have hnc75 := NB231_225.out
                        have hcz76_0 : wc.cell? ⟨gb225, 0, none⟩ = some (.int .i64 t220) := (blk_cell BK225.out 0).trans rfl
                        have hcz76_1 : wc.cell? ⟨gb225, 1, none⟩ = some (.slice Ao20 t221.length co20) := (blk_cell BK225.out 1).trans rfl
                        have hfz76_0 := blk_frozen BK225.out 0
                        have hfz76_1 := blk_frozen BK225.out 1
                        go_wp2_with (first | ((with_reducible refine gate_callee (f := 31) rfl ?_); refine goesL_ (some 53) rfl rfl Tryd.func31 (by kernel_rfl) rfl #[.agg #[.int .i64 t220, .slice Ao20 t221.length co20]] rfl (by (try simp only [List.map_toArray, List.map_cons, List.map_nil]); first | done | rfl | (simp only [List.length_drop, List.length_take]; rfl)) ?_; (with_reducible refine (bExtents.calls t220 _ _ t221 t232 _ ?side3 ?side1 ?side2 A38.out).mono ?_); (case side1 => repeat (first | exact (Kd.R_reads' HO_226001.out).2.2 | (with_reducible refine Kd.C_alloc ?_ _) | (with_reducible refine Kd.C_drewN ?_ _) | (with_reducible refine Kd.C_drew ?_))); (case side2 => exact (Kd.R_reads' HO_226001.out).2.1); (case side3 => exact TabOK.below hG (by repeat (first | (with_reducible first | exact HB.out | apply below_alloc | apply pw_below_drewN | apply below_drew1 | refine below_set ?_ GE213.out | refine below_set ?_ GE219.out | refine below_set ?_ GE225.out | refine below_set ?_ GE231.out) | exact HB.out))); rintro e w77 ⟨v233, rfl, ho0, hb⟩; refine ⟨_, rfl, ?_⟩; have n0_ := Aside0.mk (Kd.R_below (by (with_reducible repeat (first | apply Kd.R_alloc | apply Kd.R_drewN | apply Kd.R_drew)); exact HO_214001.out) hb); have n1_ := Aside0.mk (Kd.R_below (by (with_reducible repeat (first | apply Kd.R_alloc | apply Kd.R_drewN | apply Kd.R_drew)); exact HO_220001.out) hb); have n2_ := Aside0.mk (Kd.R_below (by (with_reducible repeat (first | apply Kd.R_alloc | apply Kd.R_drewN | apply Kd.R_drew)); exact HO_226001.out) hb); have n3_ := Aside0.mk (Kd.R_below (by (with_reducible repeat (first | apply Kd.R_alloc | apply Kd.R_drewN | apply Kd.R_drew)); exact HO_232001.out) hb); have n4_ := Aside0.mk (Kd.R_lower ho0 (below_size (by repeat (first | (with_reducible first | exact HB.out | apply below_alloc | apply pw_below_drewN | apply below_drew1 | refine below_set ?_ GE213.out | refine below_set ?_ GE219.out | refine below_set ?_ GE225.out | refine below_set ?_ GE231.out) | exact HB.out)))); have n5_ := Aside0.mk (blk_below (g := gb213) (o := .cells #[.int .i64 t208, .slice Ao9 t209.length co9] 24 (0, 0)) (by (with_reducible repeat (first | refine blk_drewN ?_ _ | refine blk_drew ?_ | refine blk_alloc ?_ _)); exact BK213.out) hb); have n6_ := Aside0.mk (blk_below (g := gb219) (o := .cells #[.int .i64 t214, .slice Ao14 t215.length co14] 24 (0, 0)) (by (with_reducible repeat (first | refine blk_drewN ?_ _ | refine blk_drew ?_ | refine blk_alloc ?_ _)); exact BK219.out) hb); have n7_ := Aside0.mk (blk_below (g := gb225) (o := .cells #[.int .i64 t220, .slice Ao20 t221.length co20] 24 (0, 0)) (by (with_reducible repeat (first | refine blk_drewN ?_ _ | refine blk_drew ?_ | refine blk_alloc ?_ _)); exact BK225.out) hb); have n8_ := Aside0.mk (blk_below (g := gb231) (o := .cells #[.int .i64 t226, .slice Ao28 t227.length co28] 24 (0, 0)) (by (with_reducible repeat (first | refine blk_drewN ?_ _ | refine blk_drew ?_ | refine blk_alloc ?_ _)); exact BK231.out) hb); have n9_ := Aside0.mk (below_step (by repeat (first | (with_reducible first | exact HB.out | apply below_alloc | apply pw_below_drewN | apply below_drew1 | refine below_set ?_ GE213.out | refine below_set ?_ GE219.out | refine below_set ?_ GE225.out | refine below_set ?_ GE231.out) | exact HB.out)) hb); clear HO_214001; clear HO_220001; clear HO_226001; clear HO_232001; clear BK213; clear BK219; clear BK225; clear BK231; clear HB; have HO_214001 := n0_; have HO_220001 := n1_; have HO_226001 := n2_; have HO_232001 := n3_; have HO234 := n4_; have BK213 := n5_; have BK219 := n6_; have BK225 := n7_; have BK231 := n8_; have HB := n9_; clear n0_ n1_ n2_ n3_ n4_ n5_ n6_ n7_ n8_ n9_; (try clear hb); (try clear hb2); (try clear hk); (try clear hi); (try clear ho0); have hnb78 := NB219_213.out; have hnc78 := NB213_219.out; have hnb79 := NB219_231.out; have hnc79 := NB231_219.out; have hcz80_0 : w77.cell? ⟨gb219, 0, none⟩ = some (.int .i64 t214) := (blk_cell BK219.out 0).trans rfl; have hcz80_1 : w77.cell? ⟨gb219, 1, none⟩ = some (.slice Ao14 t215.length co14) := (blk_cell BK219.out 1).trans rfl; have hfz80_0 := blk_frozen BK219.out 0; have hfz80_1 := blk_frozen BK219.out 1; have p235 : 0 ≤ (0 : Int) := (by omega); have q235 : 0 < (t215.length : Int) := of_decide_eq_true (by first | (with_reducible assumption) | assumption); obtain ⟨ad235, e235, hx235_0⟩ := Kd.at_int (Kd.R_reads' HO_220001.out).2.2 0 p235 q235; cases e235; have qi235 : (0 < t215.length) = True := eq_true (by omega); (try rw [show ((0 : Int)).toNat = 0 from rfl] at hx235_0); (try rw [Addr.add_zero'] at hx235_0); replace p235 := eq_true p235; replace q235 := eq_true q235; have p236 : 0 ≤ (1 : Int) := (by omega); have q236 : 1 < (t215.length : Int) := of_decide_eq_true (by first | (with_reducible assumption) | assumption); obtain ⟨ad236, e236, hx236_0⟩ := Kd.at_int (Kd.R_reads' HO_220001.out).2.2 1 p236 q236; obtain rfl : ad235 = ad236 := (by injection e236); (try simp only [show (1 : Int).toNat = 1 from rfl, Nat.reduceMul, Nat.reduceEqDiff, Go.Addr.add, ↓reduceIte] at hx236_0); have qi236 : (1 < t215.length) = True := eq_true (by omega); (try rw [show ((1 : Int)).toNat = 1 from rfl] at hx236_0); replace p236 := eq_true p236; replace q236 := eq_true q236) | (go_at_call 26; (with_reducible refine (bNext.calls t214 _ _ t215 0 t237 _ ?side3 ?side1 ?side2 A43.out).mono ?_); (case side1 => repeat (first | exact (Kd.R_reads' HO_220001.out).2.2 | (with_reducible refine Kd.C_alloc ?_ _) | (with_reducible refine Kd.C_drewN ?_ _) | (with_reducible refine Kd.C_drew ?_))); (case side2 => exact (Kd.R_reads' HO_220001.out).2.1); (case side3 => exact TabOK.below hG (by repeat (first | (with_reducible first | exact HB.out | apply below_alloc | apply pw_below_drewN | apply below_drew1 | refine below_set ?_ GE213.out | refine below_set ?_ GE219.out | refine below_set ?_ GE225.out | refine below_set ?_ GE231.out) | exact HB.out))); rintro e w81 ⟨rfl, hb⟩; have n0_ := Aside0.mk (Kd.R_below (by (with_reducible repeat (first | apply Kd.R_alloc | apply Kd.R_drewN | apply Kd.R_drew)); exact HO_214001.out) hb); have n1_ := Aside0.mk (Kd.R_below (by (with_reducible repeat (first | apply Kd.R_alloc | apply Kd.R_drewN | apply Kd.R_drew)); exact HO_220001.out) hb); have n2_ := Aside0.mk (Kd.R_below (by (with_reducible repeat (first | apply Kd.R_alloc | apply Kd.R_drewN | apply Kd.R_drew)); exact HO_226001.out) hb); have n3_ := Aside0.mk (Kd.R_below (by (with_reducible repeat (first | apply Kd.R_alloc | apply Kd.R_drewN | apply Kd.R_drew)); exact HO_232001.out) hb); have n4_ := Aside0.mk (Kd.R_below (by (with_reducible repeat (first | apply Kd.R_alloc | apply Kd.R_drewN | apply Kd.R_drew)); exact HO234.out) hb); have n5_ := Aside0.mk (blk_below (g := gb213) (o := .cells #[.int .i64 t208, .slice Ao9 t209.length co9] 24 (0, 0)) (by (with_reducible repeat (first | refine blk_drewN ?_ _ | refine blk_drew ?_ | refine blk_alloc ?_ _)); exact BK213.out) hb); have n6_ := Aside0.mk (blk_below (g := gb219) (o := .cells #[.int .i64 t214, .slice (some ad235) t215.length co14] 24 (0, 0)) (by (with_reducible repeat (first | refine blk_drewN ?_ _ | refine blk_drew ?_ | refine blk_alloc ?_ _)); exact BK219.out) hb); have n7_ := Aside0.mk (blk_below (g := gb225) (o := .cells #[.int .i64 t220, .slice Ao20 t221.length co20] 24 (0, 0)) (by (with_reducible repeat (first | refine blk_drewN ?_ _ | refine blk_drew ?_ | refine blk_alloc ?_ _)); exact BK225.out) hb); have n8_ := Aside0.mk (blk_below (g := gb231) (o := .cells #[.int .i64 t226, .slice Ao28 t227.length co28] 24 (0, 0)) (by (with_reducible repeat (first | refine blk_drewN ?_ _ | refine blk_drew ?_ | refine blk_alloc ?_ _)); exact BK231.out) hb); have n9_ := Aside0.mk (below_step (by repeat (first | (with_reducible first | exact HB.out | apply below_alloc | apply pw_below_drewN | apply below_drew1 | refine below_set ?_ GE213.out | refine below_set ?_ GE219.out | refine below_set ?_ GE225.out | refine below_set ?_ GE231.out) | exact HB.out)) hb); clear HO_214001; clear HO_220001; clear HO_226001; clear HO_232001; clear HO234; clear BK213; clear BK219; clear BK225; clear BK231; clear HB; have HO_214001 := n0_; have HO_220001 := n1_; have HO_226001 := n2_; have HO_232001 := n3_; have HO234 := n4_; have BK213 := n5_; have BK219 := n6_; have BK225 := n7_; have BK231 := n8_; have HB := n9_; clear n0_ n1_ n2_ n3_ n4_ n5_ n6_ n7_ n8_ n9_; (try clear hb); (try clear hb2); (try clear hk); (try clear hi); have hcz82_0 : w81.cell? ⟨gb219, 0, none⟩ = some (.int .i64 t214) := (blk_cell BK219.out 0).trans rfl; have hcz82_1 : w81.cell? ⟨gb219, 1, none⟩ = some (.slice (some ad235) t215.length co14) := (blk_cell BK219.out 1).trans rfl; have hfz82_0 := blk_frozen BK219.out 0; have hfz82_1 := blk_frozen BK219.out 1) | (go_at_call 26; (with_reducible refine (bNext.calls t214 _ _ t215 68 t238 _ ?side3 ?side1 ?side2 A45.out).mono ?_); (case side1 => repeat (first | exact (Kd.R_reads' HO_220001.out).2.2 | (with_reducible refine Kd.C_alloc ?_ _) | (with_reducible refine Kd.C_drewN ?_ _) | (with_reducible refine Kd.C_drew ?_))); (case side2 => exact (Kd.R_reads' HO_220001.out).2.1); (case side3 => exact TabOK.below hG (by repeat (first | (with_reducible first | exact HB.out | apply below_alloc | apply pw_below_drewN | apply below_drew1 | refine below_set ?_ GE213.out | refine below_set ?_ GE219.out | refine below_set ?_ GE225.out | refine below_set ?_ GE231.out) | exact HB.out))); rintro e w83 ⟨rfl, hb⟩; have n0_ := Aside0.mk (Kd.R_below (by (with_reducible repeat (first | apply Kd.R_alloc | apply Kd.R_drewN | apply Kd.R_drew)); exact HO_214001.out) hb); have n1_ := Aside0.mk (Kd.R_below (by (with_reducible repeat (first | apply Kd.R_alloc | apply Kd.R_drewN | apply Kd.R_drew)); exact HO_220001.out) hb); have n2_ := Aside0.mk (Kd.R_below (by (with_reducible repeat (first | apply Kd.R_alloc | apply Kd.R_drewN | apply Kd.R_drew)); exact HO_226001.out) hb); have n3_ := Aside0.mk (Kd.R_below (by (with_reducible repeat (first | apply Kd.R_alloc | apply Kd.R_drewN | apply Kd.R_drew)); exact HO_232001.out) hb); have n4_ := Aside0.mk (Kd.R_below (by (with_reducible repeat (first | apply Kd.R_alloc | apply Kd.R_drewN | apply Kd.R_drew)); exact HO234.out) hb); have n5_ := Aside0.mk (blk_below (g := gb213) (o := .cells #[.int .i64 t208, .slice Ao9 t209.length co9] 24 (0, 0)) (by (with_reducible repeat (first | refine blk_drewN ?_ _ | refine blk_drew ?_ | refine blk_alloc ?_ _)); exact BK213.out) hb); have n6_ := Aside0.mk (blk_below (g := gb219) (o := .cells #[.int .i64 t214, .slice (some ad235) t215.length co14] 24 (0, 0)) (by (with_reducible repeat (first | refine blk_drewN ?_ _ | refine blk_drew ?_ | refine blk_alloc ?_ _)); exact BK219.out) hb); have n7_ := Aside0.mk (blk_below (g := gb225) (o := .cells #[.int .i64 t220, .slice Ao20 t221.length co20] 24 (0, 0)) (by (with_reducible repeat (first | refine blk_drewN ?_ _ | refine blk_drew ?_ | refine blk_alloc ?_ _)); exact BK225.out) hb); have n8_ := Aside0.mk (blk_below (g := gb231) (o := .cells #[.int .i64 t226, .slice Ao28 t227.length co28] 24 (0, 0)) (by (with_reducible repeat (first | refine blk_drewN ?_ _ | refine blk_drew ?_ | refine blk_alloc ?_ _)); exact BK231.out) hb); have n9_ := Aside0.mk (below_step (by repeat (first | (with_reducible first | exact HB.out | apply below_alloc | apply pw_below_drewN | apply below_drew1 | refine below_set ?_ GE213.out | refine below_set ?_ GE219.out | refine below_set ?_ GE225.out | refine below_set ?_ GE231.out) | exact HB.out)) hb); clear HO_214001; clear HO_220001; clear HO_226001; clear HO_232001; clear HO234; clear BK213; clear BK219; clear BK225; clear BK231; clear HB; have HO_214001 := n0_; have HO_220001 := n1_; have HO_226001 := n2_; have HO_232001 := n3_; have HO234 := n4_; have BK213 := n5_; have BK219 := n6_; have BK225 := n7_; have BK231 := n8_; have HB := n9_; clear n0_ n1_ n2_ n3_ n4_ n5_ n6_ n7_ n8_ n9_; (try clear hb); (try clear hb2); (try clear hk); (try clear hi); have hcz84_0 : w83.cell? ⟨gb219, 0, none⟩ = some (.int .i64 t214) := (blk_cell BK219.out 0).trans rfl; have hcz84_1 : w83.cell? ⟨gb219, 1, none⟩ = some (.slice (some ad235) t215.length co14) := (blk_cell BK219.out 1).trans rfl; have hfz84_0 := blk_frozen BK219.out 0; have hfz84_1 := blk_frozen BK219.out 1) | (go_at_call 24; (with_reducible refine (bCount.calls kj4 t214 _ _ t215 t239 _ ?side1 ?side2 A47.out).mono ?_); (case side1 => repeat (first | exact (Kd.R_reads' HO_220001.out).2.2 | (with_reducible refine Kd.C_alloc ?_ _) | (with_reducible refine Kd.C_drewN ?_ _) | (with_reducible refine Kd.C_drew ?_))); (case side2 => exact (Kd.R_reads' HO_220001.out).2.1); rintro e w85 ⟨rfl, hb⟩; have n0_ := Aside0.mk (Kd.R_below (by (with_reducible repeat (first | apply Kd.R_alloc | apply Kd.R_drewN | apply Kd.R_drew)); exact HO_214001.out) hb); have n1_ := Aside0.mk (Kd.R_below (by (with_reducible repeat (first | apply Kd.R_alloc | apply Kd.R_drewN | apply Kd.R_drew)); exact HO_220001.out) hb); have n2_ := Aside0.mk (Kd.R_below (by (with_reducible repeat (first | apply Kd.R_alloc | apply Kd.R_drewN | apply Kd.R_drew)); exact HO_226001.out) hb); have n3_ := Aside0.mk (Kd.R_below (by (with_reducible repeat (first | apply Kd.R_alloc | apply Kd.R_drewN | apply Kd.R_drew)); exact HO_232001.out) hb); have n4_ := Aside0.mk (Kd.R_below (by (with_reducible repeat (first | apply Kd.R_alloc | apply Kd.R_drewN | apply Kd.R_drew)); exact HO234.out) hb); have n5_ := Aside0.mk (blk_below (g := gb213) (o := .cells #[.int .i64 t208, .slice Ao9 t209.length co9] 24 (0, 0)) (by (with_reducible repeat (first | refine blk_drewN ?_ _ | refine blk_drew ?_ | refine blk_alloc ?_ _)); exact BK213.out) hb); have n6_ := Aside0.mk (blk_below (g := gb219) (o := .cells #[.int .i64 t214, .slice (some ad235) t215.length co14] 24 (0, 0)) (by (with_reducible repeat (first | refine blk_drewN ?_ _ | refine blk_drew ?_ | refine blk_alloc ?_ _)); exact BK219.out) hb); have n7_ := Aside0.mk (blk_below (g := gb225) (o := .cells #[.int .i64 t220, .slice Ao20 t221.length co20] 24 (0, 0)) (by (with_reducible repeat (first | refine blk_drewN ?_ _ | refine blk_drew ?_ | refine blk_alloc ?_ _)); exact BK225.out) hb); have n8_ := Aside0.mk (blk_below (g := gb231) (o := .cells #[.int .i64 t226, .slice Ao28 t227.length co28] 24 (0, 0)) (by (with_reducible repeat (first | refine blk_drewN ?_ _ | refine blk_drew ?_ | refine blk_alloc ?_ _)); exact BK231.out) hb); have n9_ := Aside0.mk (below_step (by repeat (first | (with_reducible first | exact HB.out | apply below_alloc | apply pw_below_drewN | apply below_drew1 | refine below_set ?_ GE213.out | refine below_set ?_ GE219.out | refine below_set ?_ GE225.out | refine below_set ?_ GE231.out) | exact HB.out)) hb); clear HO_214001; clear HO_220001; clear HO_226001; clear HO_232001; clear HO234; clear BK213; clear BK219; clear BK225; clear BK231; clear HB; have HO_214001 := n0_; have HO_220001 := n1_; have HO_226001 := n2_; have HO_232001 := n3_; have HO234 := n4_; have BK213 := n5_; have BK219 := n6_; have BK225 := n7_; have BK231 := n8_; have HB := n9_; clear n0_ n1_ n2_ n3_ n4_ n5_ n6_ n7_ n8_ n9_; (try clear hb); (try clear hb2); (try clear hk); (try clear hi)) | ((with_reducible refine gate_dst (N := 85) rfl ?_); (try (refine gate_guard (by rfl) ?_; dsimp only)); refine Kd.R_lit k26 _ 26 ?hg (N := 85) ?hd (xs := ([(⟨60, 2⟩ : S26), (⟨64, 4⟩ : S26)] : List (S26))) (inner := [.int .i64 60, .int .i64 2, .int .i64 64, .int .i64 4]) (ok := fun _ => True) (okp := fun _ => True) ?hr ?hp (fun _ hk => hk) trivial (Below.refl _ _) (Nat.le_refl _) (by simp) ?_; (case hd => rfl); (case hg => rfl); (case hr => first | (go_simp; done) | (go_simp; rfl)); (case hp => exact (Reps.c2 (show Kd.M k26 _ _ _ (⟨60, 2⟩ : S26) [.int .i64 60, .int .i64 2] from (k26_mkM _ _ _ (⟨60, 2⟩ : S26) )) (Reps.c2 (show Kd.M k26 _ _ _ (⟨64, 4⟩ : S26) [.int .i64 64, .int .i64 4] from (k26_mkM _ _ _ (⟨64, 4⟩ : S26) )) (Reps.none _ _)))); intro v241 w86 ho87 hb hg_ hnew_; clear hg_ hnew_; (first | rw [← Ny240.out] at ho87 | (simp only [Int.reduceToNat] at ho87; rw [← Ny240.out] at ho87)); have n0_ := Aside0.mk (Kd.R_below (by (with_reducible repeat (first | apply Kd.R_alloc | apply Kd.R_drewN | apply Kd.R_drew)); exact HO_214001.out) hb); have n1_ := Aside0.mk (Kd.R_below (by (with_reducible repeat (first | apply Kd.R_alloc | apply Kd.R_drewN | apply Kd.R_drew)); exact HO_220001.out) hb); have n2_ := Aside0.mk (Kd.R_below (by (with_reducible repeat (first | apply Kd.R_alloc | apply Kd.R_drewN | apply Kd.R_drew)); exact HO_226001.out) hb); have n3_ := Aside0.mk (Kd.R_below (by (with_reducible repeat (first | apply Kd.R_alloc | apply Kd.R_drewN | apply Kd.R_drew)); exact HO_232001.out) hb); have n4_ := Aside0.mk (Kd.R_elder' (by (with_reducible repeat (first | apply Kd.R_alloc | apply Kd.R_drewN | apply Kd.R_drew)); exact HO234.out) (Kd.R_base ho87) hb); have n5_ := Aside0.mk (Kd.R_lower (Kd.R_new' ho87 (Kd.R_lt (by (with_reducible repeat (first | apply Kd.R_alloc | apply Kd.R_drewN | apply Kd.R_drew)); exact HO234.out))) (below_size (by repeat (first | (with_reducible first | exact HB.out | apply below_alloc | apply pw_below_drewN | apply below_drew1 | refine below_set ?_ GE213.out | refine below_set ?_ GE219.out | refine below_set ?_ GE225.out | refine below_set ?_ GE231.out) | exact HB.out)))); have n6_ := Aside0.mk (blk_below (g := gb213) (o := .cells #[.int .i64 t208, .slice Ao9 t209.length co9] 24 (0, 0)) (by (with_reducible repeat (first | refine blk_drewN ?_ _ | refine blk_drew ?_ | refine blk_alloc ?_ _)); exact BK213.out) hb); have n7_ := Aside0.mk (blk_below (g := gb219) (o := .cells #[.int .i64 t214, .slice (some ad235) t215.length co14] 24 (0, 0)) (by (with_reducible repeat (first | refine blk_drewN ?_ _ | refine blk_drew ?_ | refine blk_alloc ?_ _)); exact BK219.out) hb); have n8_ := Aside0.mk (blk_below (g := gb225) (o := .cells #[.int .i64 t220, .slice Ao20 t221.length co20] 24 (0, 0)) (by (with_reducible repeat (first | refine blk_drewN ?_ _ | refine blk_drew ?_ | refine blk_alloc ?_ _)); exact BK225.out) hb); have n9_ := Aside0.mk (blk_below (g := gb231) (o := .cells #[.int .i64 t226, .slice Ao28 t227.length co28] 24 (0, 0)) (by (with_reducible repeat (first | refine blk_drewN ?_ _ | refine blk_drew ?_ | refine blk_alloc ?_ _)); exact BK231.out) hb); have n10_ := Aside0.mk (below_step (by repeat (first | (with_reducible first | exact HB.out | apply below_alloc | apply pw_below_drewN | apply below_drew1 | refine below_set ?_ GE213.out | refine below_set ?_ GE219.out | refine below_set ?_ GE225.out | refine below_set ?_ GE231.out) | exact HB.out)) hb); clear HO_214001; clear HO_220001; clear HO_226001; clear HO_232001; clear HO234; clear BK213; clear BK219; clear BK225; clear BK231; clear HB; have HO_214001 := n0_; have HO_220001 := n1_; have HO_226001 := n2_; have HO_232001 := n3_; have HO234 := n4_; have HO242 := n5_; have BK213 := n6_; have BK219 := n7_; have BK225 := n8_; have BK231 := n9_; have HB := n10_; clear n0_ n1_ n2_ n3_ n4_ n5_ n6_ n7_ n8_ n9_ n10_; clear hb ho87; obtain ⟨Ao88, co88, eo88⟩ := Kd.R_slice HO234.out; subst eo88; obtain ⟨Ao89, co89, eo89⟩ := Kd.R_slice HO242.out; subst eo89) | (go_at_call 30; (with_reducible refine (r02SameExtents.calls kj4 _ _ t232 _ _ y240 false _ ?side1 ?side2 ?side3 ?side4 A49.out).mono ?_); (case side1 => repeat (first | exact (Kd.R_reads' HO234.out).2.2 | (with_reducible refine Kd.C_alloc ?_ _) | (with_reducible refine Kd.C_drewN ?_ _) | (with_reducible refine Kd.C_drew ?_))); (case side2 => exact (Kd.R_reads' HO234.out).2.1); (case side3 => repeat (first | exact (Kd.R_reads' HO242.out).2.2 | (with_reducible refine Kd.C_alloc ?_ _) | (with_reducible refine Kd.C_drewN ?_ _) | (with_reducible refine Kd.C_drew ?_))); (case side4 => exact (Kd.R_reads' HO242.out).2.1); rintro e w' ⟨rfl, ⟨nd, rfl⟩⟩))
                        go_ret
                        exact ⟨by first | rfl | (simp [errW_none, errW_some] <;> rfl) | (simp [*, errW_none, errW_some] <;> rfl), by repeat (first | (with_reducible first | exact HB.out | apply below_alloc | apply pw_below_drewN | apply below_drew1 | refine below_set ?_ GE213.out | refine below_set ?_ GE219.out | refine below_set ?_ GE225.out | refine below_set ?_ GE231.out) | exact HB.out)⟩
                    · rw [if_neg c48] at H
                      have c48b0 : (t239 == 8) = false := beq_eq_false_iff_ne.mpr c48
                      have c48b1 : (t239 != 8) = true := bne_iff_ne.mpr c48
                      obtain rfl := Option.some.inj H
                      have hnb90 := NB225_213.out
                      have hnc90 := NB213_225.out
                      have hnb91 := NB225_219.out
                      have hnc91 := NB219_225.out
                      have hnb92 := NB225_231.out
                      have hnc92 := NB231_225.out
                      have hcz93_0 : wc.cell? ⟨gb225, 0, none⟩ = some (.int .i64 t220) := (blk_cell BK225.out 0).trans rfl
                      have hcz93_1 : wc.cell? ⟨gb225, 1, none⟩ = some (.slice Ao20 t221.length co20) := (blk_cell BK225.out 1).trans rfl
                      have hfz93_0 := blk_frozen BK225.out 0
                      have hfz93_1 := blk_frozen BK225.out 1
                      go_wp2_with (first | ((with_reducible refine gate_callee (f := 31) rfl ?_); refine goesL_ (some 53) rfl rfl Tryd.func31 (by kernel_rfl) rfl #[.agg #[.int .i64 t220, .slice Ao20 t221.length co20]] rfl (by (try simp only [List.map_toArray, List.map_cons, List.map_nil]); first | done | rfl | (simp only [List.length_drop, List.length_take]; rfl)) ?_; (with_reducible refine (bExtents.calls t220 _ _ t221 t232 _ ?side3 ?side1 ?side2 A38.out).mono ?_); (case side1 => repeat (first | exact (Kd.R_reads' HO_226001.out).2.2 | (with_reducible refine Kd.C_alloc ?_ _) | (with_reducible refine Kd.C_drewN ?_ _) | (with_reducible refine Kd.C_drew ?_))); (case side2 => exact (Kd.R_reads' HO_226001.out).2.1); (case side3 => exact TabOK.below hG (by repeat (first | (with_reducible first | exact HB.out | apply below_alloc | apply pw_below_drewN | apply below_drew1 | refine below_set ?_ GE213.out | refine below_set ?_ GE219.out | refine below_set ?_ GE225.out | refine below_set ?_ GE231.out) | exact HB.out))); rintro e w94 ⟨v233, rfl, ho0, hb⟩; refine ⟨_, rfl, ?_⟩; have n0_ := Aside0.mk (Kd.R_below (by (with_reducible repeat (first | apply Kd.R_alloc | apply Kd.R_drewN | apply Kd.R_drew)); exact HO_214001.out) hb); have n1_ := Aside0.mk (Kd.R_below (by (with_reducible repeat (first | apply Kd.R_alloc | apply Kd.R_drewN | apply Kd.R_drew)); exact HO_220001.out) hb); have n2_ := Aside0.mk (Kd.R_below (by (with_reducible repeat (first | apply Kd.R_alloc | apply Kd.R_drewN | apply Kd.R_drew)); exact HO_226001.out) hb); have n3_ := Aside0.mk (Kd.R_below (by (with_reducible repeat (first | apply Kd.R_alloc | apply Kd.R_drewN | apply Kd.R_drew)); exact HO_232001.out) hb); have n4_ := Aside0.mk (Kd.R_lower ho0 (below_size (by repeat (first | (with_reducible first | exact HB.out | apply below_alloc | apply pw_below_drewN | apply below_drew1 | refine below_set ?_ GE213.out | refine below_set ?_ GE219.out | refine below_set ?_ GE225.out | refine below_set ?_ GE231.out) | exact HB.out)))); have n5_ := Aside0.mk (blk_below (g := gb213) (o := .cells #[.int .i64 t208, .slice Ao9 t209.length co9] 24 (0, 0)) (by (with_reducible repeat (first | refine blk_drewN ?_ _ | refine blk_drew ?_ | refine blk_alloc ?_ _)); exact BK213.out) hb); have n6_ := Aside0.mk (blk_below (g := gb219) (o := .cells #[.int .i64 t214, .slice Ao14 t215.length co14] 24 (0, 0)) (by (with_reducible repeat (first | refine blk_drewN ?_ _ | refine blk_drew ?_ | refine blk_alloc ?_ _)); exact BK219.out) hb); have n7_ := Aside0.mk (blk_below (g := gb225) (o := .cells #[.int .i64 t220, .slice Ao20 t221.length co20] 24 (0, 0)) (by (with_reducible repeat (first | refine blk_drewN ?_ _ | refine blk_drew ?_ | refine blk_alloc ?_ _)); exact BK225.out) hb); have n8_ := Aside0.mk (blk_below (g := gb231) (o := .cells #[.int .i64 t226, .slice Ao28 t227.length co28] 24 (0, 0)) (by (with_reducible repeat (first | refine blk_drewN ?_ _ | refine blk_drew ?_ | refine blk_alloc ?_ _)); exact BK231.out) hb); have n9_ := Aside0.mk (below_step (by repeat (first | (with_reducible first | exact HB.out | apply below_alloc | apply pw_below_drewN | apply below_drew1 | refine below_set ?_ GE213.out | refine below_set ?_ GE219.out | refine below_set ?_ GE225.out | refine below_set ?_ GE231.out) | exact HB.out)) hb); clear HO_214001; clear HO_220001; clear HO_226001; clear HO_232001; clear BK213; clear BK219; clear BK225; clear BK231; clear HB; have HO_214001 := n0_; have HO_220001 := n1_; have HO_226001 := n2_; have HO_232001 := n3_; have HO234 := n4_; have BK213 := n5_; have BK219 := n6_; have BK225 := n7_; have BK231 := n8_; have HB := n9_; clear n0_ n1_ n2_ n3_ n4_ n5_ n6_ n7_ n8_ n9_; (try clear hb); (try clear hb2); (try clear hk); (try clear hi); (try clear ho0); have hnb95 := NB219_213.out; have hnc95 := NB213_219.out; have hnb96 := NB219_231.out; have hnc96 := NB231_219.out; have hcz97_0 : w94.cell? ⟨gb219, 0, none⟩ = some (.int .i64 t214) := (blk_cell BK219.out 0).trans rfl; have hcz97_1 : w94.cell? ⟨gb219, 1, none⟩ = some (.slice Ao14 t215.length co14) := (blk_cell BK219.out 1).trans rfl; have hfz97_0 := blk_frozen BK219.out 0; have hfz97_1 := blk_frozen BK219.out 1; have p235 : 0 ≤ (0 : Int) := (by omega); have q235 : 0 < (t215.length : Int) := of_decide_eq_true (by first | (with_reducible assumption) | assumption); obtain ⟨ad235, e235, hx235_0⟩ := Kd.at_int (Kd.R_reads' HO_220001.out).2.2 0 p235 q235; cases e235; have qi235 : (0 < t215.length) = True := eq_true (by omega); (try rw [show ((0 : Int)).toNat = 0 from rfl] at hx235_0); (try rw [Addr.add_zero'] at hx235_0); replace p235 := eq_true p235; replace q235 := eq_true q235; have p236 : 0 ≤ (1 : Int) := (by omega); have q236 : 1 < (t215.length : Int) := of_decide_eq_true (by first | (with_reducible assumption) | assumption); obtain ⟨ad236, e236, hx236_0⟩ := Kd.at_int (Kd.R_reads' HO_220001.out).2.2 1 p236 q236; obtain rfl : ad235 = ad236 := (by injection e236); (try simp only [show (1 : Int).toNat = 1 from rfl, Nat.reduceMul, Nat.reduceEqDiff, Go.Addr.add, ↓reduceIte] at hx236_0); have qi236 : (1 < t215.length) = True := eq_true (by omega); (try rw [show ((1 : Int)).toNat = 1 from rfl] at hx236_0); replace p236 := eq_true p236; replace q236 := eq_true q236) | (go_at_call 26; (with_reducible refine (bNext.calls t214 _ _ t215 0 t237 _ ?side3 ?side1 ?side2 A43.out).mono ?_); (case side1 => repeat (first | exact (Kd.R_reads' HO_220001.out).2.2 | (with_reducible refine Kd.C_alloc ?_ _) | (with_reducible refine Kd.C_drewN ?_ _) | (with_reducible refine Kd.C_drew ?_))); (case side2 => exact (Kd.R_reads' HO_220001.out).2.1); (case side3 => exact TabOK.below hG (by repeat (first | (with_reducible first | exact HB.out | apply below_alloc | apply pw_below_drewN | apply below_drew1 | refine below_set ?_ GE213.out | refine below_set ?_ GE219.out | refine below_set ?_ GE225.out | refine below_set ?_ GE231.out) | exact HB.out))); rintro e w98 ⟨rfl, hb⟩; have n0_ := Aside0.mk (Kd.R_below (by (with_reducible repeat (first | apply Kd.R_alloc | apply Kd.R_drewN | apply Kd.R_drew)); exact HO_214001.out) hb); have n1_ := Aside0.mk (Kd.R_below (by (with_reducible repeat (first | apply Kd.R_alloc | apply Kd.R_drewN | apply Kd.R_drew)); exact HO_220001.out) hb); have n2_ := Aside0.mk (Kd.R_below (by (with_reducible repeat (first | apply Kd.R_alloc | apply Kd.R_drewN | apply Kd.R_drew)); exact HO_226001.out) hb); have n3_ := Aside0.mk (Kd.R_below (by (with_reducible repeat (first | apply Kd.R_alloc | apply Kd.R_drewN | apply Kd.R_drew)); exact HO_232001.out) hb); have n4_ := Aside0.mk (Kd.R_below (by (with_reducible repeat (first | apply Kd.R_alloc | apply Kd.R_drewN | apply Kd.R_drew)); exact HO234.out) hb); have n5_ := Aside0.mk (blk_below (g := gb213) (o := .cells #[.int .i64 t208, .slice Ao9 t209.length co9] 24 (0, 0)) (by (with_reducible repeat (first | refine blk_drewN ?_ _ | refine blk_drew ?_ | refine blk_alloc ?_ _)); exact BK213.out) hb); have n6_ := Aside0.mk (blk_below (g := gb219) (o := .cells #[.int .i64 t214, .slice (some ad235) t215.length co14] 24 (0, 0)) (by (with_reducible repeat (first | refine blk_drewN ?_ _ | refine blk_drew ?_ | refine blk_alloc ?_ _)); exact BK219.out) hb); have n7_ := Aside0.mk (blk_below (g := gb225) (o := .cells #[.int .i64 t220, .slice Ao20 t221.length co20] 24 (0, 0)) (by (with_reducible repeat (first | refine blk_drewN ?_ _ | refine blk_drew ?_ | refine blk_alloc ?_ _)); exact BK225.out) hb); have n8_ := Aside0.mk (blk_below (g := gb231) (o := .cells #[.int .i64 t226, .slice Ao28 t227.length co28] 24 (0, 0)) (by (with_reducible repeat (first | refine blk_drewN ?_ _ | refine blk_drew ?_ | refine blk_alloc ?_ _)); exact BK231.out) hb); have n9_ := Aside0.mk (below_step (by repeat (first | (with_reducible first | exact HB.out | apply below_alloc | apply pw_below_drewN | apply below_drew1 | refine below_set ?_ GE213.out | refine below_set ?_ GE219.out | refine below_set ?_ GE225.out | refine below_set ?_ GE231.out) | exact HB.out)) hb); clear HO_214001; clear HO_220001; clear HO_226001; clear HO_232001; clear HO234; clear BK213; clear BK219; clear BK225; clear BK231; clear HB; have HO_214001 := n0_; have HO_220001 := n1_; have HO_226001 := n2_; have HO_232001 := n3_; have HO234 := n4_; have BK213 := n5_; have BK219 := n6_; have BK225 := n7_; have BK231 := n8_; have HB := n9_; clear n0_ n1_ n2_ n3_ n4_ n5_ n6_ n7_ n8_ n9_; (try clear hb); (try clear hb2); (try clear hk); (try clear hi); have hcz99_0 : w98.cell? ⟨gb219, 0, none⟩ = some (.int .i64 t214) := (blk_cell BK219.out 0).trans rfl; have hcz99_1 : w98.cell? ⟨gb219, 1, none⟩ = some (.slice (some ad235) t215.length co14) := (blk_cell BK219.out 1).trans rfl; have hfz99_0 := blk_frozen BK219.out 0; have hfz99_1 := blk_frozen BK219.out 1) | (go_at_call 26; (with_reducible refine (bNext.calls t214 _ _ t215 68 t238 _ ?side3 ?side1 ?side2 A45.out).mono ?_); (case side1 => repeat (first | exact (Kd.R_reads' HO_220001.out).2.2 | (with_reducible refine Kd.C_alloc ?_ _) | (with_reducible refine Kd.C_drewN ?_ _) | (with_reducible refine Kd.C_drew ?_))); (case side2 => exact (Kd.R_reads' HO_220001.out).2.1); (case side3 => exact TabOK.below hG (by repeat (first | (with_reducible first | exact HB.out | apply below_alloc | apply pw_below_drewN | apply below_drew1 | refine below_set ?_ GE213.out | refine below_set ?_ GE219.out | refine below_set ?_ GE225.out | refine below_set ?_ GE231.out) | exact HB.out))); rintro e w100 ⟨rfl, hb⟩; have n0_ := Aside0.mk (Kd.R_below (by (with_reducible repeat (first | apply Kd.R_alloc | apply Kd.R_drewN | apply Kd.R_drew)); exact HO_214001.out) hb); have n1_ := Aside0.mk (Kd.R_below (by (with_reducible repeat (first | apply Kd.R_alloc | apply Kd.R_drewN | apply Kd.R_drew)); exact HO_220001.out) hb); have n2_ := Aside0.mk (Kd.R_below (by (with_reducible repeat (first | apply Kd.R_alloc | apply Kd.R_drewN | apply Kd.R_drew)); exact HO_226001.out) hb); have n3_ := Aside0.mk (Kd.R_below (by (with_reducible repeat (first | apply Kd.R_alloc | apply Kd.R_drewN | apply Kd.R_drew)); exact HO_232001.out) hb); have n4_ := Aside0.mk (Kd.R_below (by (with_reducible repeat (first | apply Kd.R_alloc | apply Kd.R_drewN | apply Kd.R_drew)); exact HO234.out) hb); have n5_ := Aside0.mk (blk_below (g := gb213) (o := .cells #[.int .i64 t208, .slice Ao9 t209.length co9] 24 (0, 0)) (by (with_reducible repeat (first | refine blk_drewN ?_ _ | refine blk_drew ?_ | refine blk_alloc ?_ _)); exact BK213.out) hb); have n6_ := Aside0.mk (blk_below (g := gb219) (o := .cells #[.int .i64 t214, .slice (some ad235) t215.length co14] 24 (0, 0)) (by (with_reducible repeat (first | refine blk_drewN ?_ _ | refine blk_drew ?_ | refine blk_alloc ?_ _)); exact BK219.out) hb); have n7_ := Aside0.mk (blk_below (g := gb225) (o := .cells #[.int .i64 t220, .slice Ao20 t221.length co20] 24 (0, 0)) (by (with_reducible repeat (first | refine blk_drewN ?_ _ | refine blk_drew ?_ | refine blk_alloc ?_ _)); exact BK225.out) hb); have n8_ := Aside0.mk (blk_below (g := gb231) (o := .cells #[.int .i64 t226, .slice Ao28 t227.length co28] 24 (0, 0)) (by (with_reducible repeat (first | refine blk_drewN ?_ _ | refine blk_drew ?_ | refine blk_alloc ?_ _)); exact BK231.out) hb); have n9_ := Aside0.mk (below_step (by repeat (first | (with_reducible first | exact HB.out | apply below_alloc | apply pw_below_drewN | apply below_drew1 | refine below_set ?_ GE213.out | refine below_set ?_ GE219.out | refine below_set ?_ GE225.out | refine below_set ?_ GE231.out) | exact HB.out)) hb); clear HO_214001; clear HO_220001; clear HO_226001; clear HO_232001; clear HO234; clear BK213; clear BK219; clear BK225; clear BK231; clear HB; have HO_214001 := n0_; have HO_220001 := n1_; have HO_226001 := n2_; have HO_232001 := n3_; have HO234 := n4_; have BK213 := n5_; have BK219 := n6_; have BK225 := n7_; have BK231 := n8_; have HB := n9_; clear n0_ n1_ n2_ n3_ n4_ n5_ n6_ n7_ n8_ n9_; (try clear hb); (try clear hb2); (try clear hk); (try clear hi); have hcz101_0 : w100.cell? ⟨gb219, 0, none⟩ = some (.int .i64 t214) := (blk_cell BK219.out 0).trans rfl; have hcz101_1 : w100.cell? ⟨gb219, 1, none⟩ = some (.slice (some ad235) t215.length co14) := (blk_cell BK219.out 1).trans rfl; have hfz101_0 := blk_frozen BK219.out 0; have hfz101_1 := blk_frozen BK219.out 1) | (go_at_call 24; (with_reducible refine (bCount.calls kj4 t214 _ _ t215 t239 _ ?side1 ?side2 A47.out).mono ?_); (case side1 => repeat (first | exact (Kd.R_reads' HO_220001.out).2.2 | (with_reducible refine Kd.C_alloc ?_ _) | (with_reducible refine Kd.C_drewN ?_ _) | (with_reducible refine Kd.C_drew ?_))); (case side2 => exact (Kd.R_reads' HO_220001.out).2.1); rintro e w102 ⟨rfl, hb⟩; have n0_ := Aside0.mk (Kd.R_below (by (with_reducible repeat (first | apply Kd.R_alloc | apply Kd.R_drewN | apply Kd.R_drew)); exact HO_214001.out) hb); have n1_ := Aside0.mk (Kd.R_below (by (with_reducible repeat (first | apply Kd.R_alloc | apply Kd.R_drewN | apply Kd.R_drew)); exact HO_220001.out) hb); have n2_ := Aside0.mk (Kd.R_below (by (with_reducible repeat (first | apply Kd.R_alloc | apply Kd.R_drewN | apply Kd.R_drew)); exact HO_226001.out) hb); have n3_ := Aside0.mk (Kd.R_below (by (with_reducible repeat (first | apply Kd.R_alloc | apply Kd.R_drewN | apply Kd.R_drew)); exact HO_232001.out) hb); have n4_ := Aside0.mk (Kd.R_below (by (with_reducible repeat (first | apply Kd.R_alloc | apply Kd.R_drewN | apply Kd.R_drew)); exact HO234.out) hb); have n5_ := Aside0.mk (blk_below (g := gb213) (o := .cells #[.int .i64 t208, .slice Ao9 t209.length co9] 24 (0, 0)) (by (with_reducible repeat (first | refine blk_drewN ?_ _ | refine blk_drew ?_ | refine blk_alloc ?_ _)); exact BK213.out) hb); have n6_ := Aside0.mk (blk_below (g := gb219) (o := .cells #[.int .i64 t214, .slice (some ad235) t215.length co14] 24 (0, 0)) (by (with_reducible repeat (first | refine blk_drewN ?_ _ | refine blk_drew ?_ | refine blk_alloc ?_ _)); exact BK219.out) hb); have n7_ := Aside0.mk (blk_below (g := gb225) (o := .cells #[.int .i64 t220, .slice Ao20 t221.length co20] 24 (0, 0)) (by (with_reducible repeat (first | refine blk_drewN ?_ _ | refine blk_drew ?_ | refine blk_alloc ?_ _)); exact BK225.out) hb); have n8_ := Aside0.mk (blk_below (g := gb231) (o := .cells #[.int .i64 t226, .slice Ao28 t227.length co28] 24 (0, 0)) (by (with_reducible repeat (first | refine blk_drewN ?_ _ | refine blk_drew ?_ | refine blk_alloc ?_ _)); exact BK231.out) hb); have n9_ := Aside0.mk (below_step (by repeat (first | (with_reducible first | exact HB.out | apply below_alloc | apply pw_below_drewN | apply below_drew1 | refine below_set ?_ GE213.out | refine below_set ?_ GE219.out | refine below_set ?_ GE225.out | refine below_set ?_ GE231.out) | exact HB.out)) hb); clear HO_214001; clear HO_220001; clear HO_226001; clear HO_232001; clear HO234; clear BK213; clear BK219; clear BK225; clear BK231; clear HB; have HO_214001 := n0_; have HO_220001 := n1_; have HO_226001 := n2_; have HO_232001 := n3_; have HO234 := n4_; have BK213 := n5_; have BK219 := n6_; have BK225 := n7_; have BK231 := n8_; have HB := n9_; clear n0_ n1_ n2_ n3_ n4_ n5_ n6_ n7_ n8_ n9_; (try clear hb); (try clear hb2); (try clear hk); (try clear hi)))
                      go_ret
                      exact ⟨by first | rfl | (simp [errW_none, errW_some] <;> rfl) | (simp [*, errW_none, errW_some] <;> rfl), by repeat (first | (with_reducible first | exact HB.out | apply below_alloc | apply pw_below_drewN | apply below_drew1 | refine below_set ?_ GE213.out | refine below_set ?_ GE219.out | refine below_set ?_ GE225.out | refine below_set ?_ GE231.out) | exact HB.out)⟩
                  · rw [if_neg c46] at H
                    have c46b0 : (t238 == (-1)) = false := beq_eq_false_iff_ne.mpr c46
                    have c46b1 : (t238 != (-1)) = true := bne_iff_ne.mpr c46
                    obtain rfl := Option.some.inj H
                    have hnb103 := NB225_213.out
                    have hnc103 := NB213_225.out
                    have hnb104 := NB225_219.out
                    have hnc104 := NB219_225.out
                    have hnb105 := NB225_231.out
                    have hnc105 := NB231_225.out
                    have hcz106_0 : wc.cell? ⟨gb225, 0, none⟩ = some (.int .i64 t220) := (blk_cell BK225.out 0).trans rfl
                    have hcz106_1 : wc.cell? ⟨gb225, 1, none⟩ = some (.slice Ao20 t221.length co20) := (blk_cell BK225.out 1).trans rfl
                    have hfz106_0 := blk_frozen BK225.out 0
                    have hfz106_1 := blk_frozen BK225.out 1
                    go_wp2_with (first | ((with_reducible refine gate_callee (f := 31) rfl ?_); refine goesL_ (some 53) rfl rfl Tryd.func31 (by kernel_rfl) rfl #[.agg #[.int .i64 t220, .slice Ao20 t221.length co20]] rfl (by (try simp only [List.map_toArray, List.map_cons, List.map_nil]); first | done | rfl | (simp only [List.length_drop, List.length_take]; rfl)) ?_; (with_reducible refine (bExtents.calls t220 _ _ t221 t232 _ ?side3 ?side1 ?side2 A38.out).mono ?_); (case side1 => repeat (first | exact (Kd.R_reads' HO_226001.out).2.2 | (with_reducible refine Kd.C_alloc ?_ _) | (with_reducible refine Kd.C_drewN ?_ _) | (with_reducible refine Kd.C_drew ?_))); (case side2 => exact (Kd.R_reads' HO_226001.out).2.1); (case side3 => exact TabOK.below hG (by repeat (first | (with_reducible first | exact HB.out | apply below_alloc | apply pw_below_drewN | apply below_drew1 | refine below_set ?_ GE213.out | refine below_set ?_ GE219.out | refine below_set ?_ GE225.out | refine below_set ?_ GE231.out) | exact HB.out))); rintro e w107 ⟨v233, rfl, ho0, hb⟩; refine ⟨_, rfl, ?_⟩; have n0_ := Aside0.mk (Kd.R_below (by (with_reducible repeat (first | apply Kd.R_alloc | apply Kd.R_drewN | apply Kd.R_drew)); exact HO_214001.out) hb); have n1_ := Aside0.mk (Kd.R_below (by (with_reducible repeat (first | apply Kd.R_alloc | apply Kd.R_drewN | apply Kd.R_drew)); exact HO_220001.out) hb); have n2_ := Aside0.mk (Kd.R_below (by (with_reducible repeat (first | apply Kd.R_alloc | apply Kd.R_drewN | apply Kd.R_drew)); exact HO_226001.out) hb); have n3_ := Aside0.mk (Kd.R_below (by (with_reducible repeat (first | apply Kd.R_alloc | apply Kd.R_drewN | apply Kd.R_drew)); exact HO_232001.out) hb); have n4_ := Aside0.mk (Kd.R_lower ho0 (below_size (by repeat (first | (with_reducible first | exact HB.out | apply below_alloc | apply pw_below_drewN | apply below_drew1 | refine below_set ?_ GE213.out | refine below_set ?_ GE219.out | refine below_set ?_ GE225.out | refine below_set ?_ GE231.out) | exact HB.out)))); have n5_ := Aside0.mk (blk_below (g := gb213) (o := .cells #[.int .i64 t208, .slice Ao9 t209.length co9] 24 (0, 0)) (by (with_reducible repeat (first | refine blk_drewN ?_ _ | refine blk_drew ?_ | refine blk_alloc ?_ _)); exact BK213.out) hb); have n6_ := Aside0.mk (blk_below (g := gb219) (o := .cells #[.int .i64 t214, .slice Ao14 t215.length co14] 24 (0, 0)) (by (with_reducible repeat (first | refine blk_drewN ?_ _ | refine blk_drew ?_ | refine blk_alloc ?_ _)); exact BK219.out) hb); have n7_ := Aside0.mk (blk_below (g := gb225) (o := .cells #[.int .i64 t220, .slice Ao20 t221.length co20] 24 (0, 0)) (by (with_reducible repeat (first | refine blk_drewN ?_ _ | refine blk_drew ?_ | refine blk_alloc ?_ _)); exact BK225.out) hb); have n8_ := Aside0.mk (blk_below (g := gb231) (o := .cells #[.int .i64 t226, .slice Ao28 t227.length co28] 24 (0, 0)) (by (with_reducible repeat (first | refine blk_drewN ?_ _ | refine blk_drew ?_ | refine blk_alloc ?_ _)); exact BK231.out) hb); have n9_ := Aside0.mk (below_step (by repeat (first | (with_reducible first | exact HB.out | apply below_alloc | apply pw_below_drewN | apply below_drew1 | refine below_set ?_ GE213.out | refine below_set ?_ GE219.out | refine below_set ?_ GE225.out | refine below_set ?_ GE231.out) | exact HB.out)) hb); clear HO_214001; clear HO_220001; clear HO_226001; clear HO_232001; clear BK213; clear BK219; clear BK225; clear BK231; clear HB; have HO_214001 := n0_; have HO_220001 := n1_; have HO_226001 := n2_; have HO_232001 := n3_; have HO234 := n4_; have BK213 := n5_; have BK219 := n6_; have BK225 := n7_; have BK231 := n8_; have HB := n9_; clear n0_ n1_ n2_ n3_ n4_ n5_ n6_ n7_ n8_ n9_; (try clear hb); (try clear hb2); (try clear hk); (try clear hi); (try clear ho0); have hnb108 := NB219_213.out; have hnc108 := NB213_219.out; have hnb109 := NB219_231.out; have hnc109 := NB231_219.out; have hcz110_0 : w107.cell? ⟨gb219, 0, none⟩ = some (.int .i64 t214) := (blk_cell BK219.out 0).trans rfl; have hcz110_1 : w107.cell? ⟨gb219, 1, none⟩ = some (.slice Ao14 t215.length co14) := (blk_cell BK219.out 1).trans rfl; have hfz110_0 := blk_frozen BK219.out 0; have hfz110_1 := blk_frozen BK219.out 1; have p235 : 0 ≤ (0 : Int) := (by omega); have q235 : 0 < (t215.length : Int) := of_decide_eq_true (by first | (with_reducible assumption) | assumption); obtain ⟨ad235, e235, hx235_0⟩ := Kd.at_int (Kd.R_reads' HO_220001.out).2.2 0 p235 q235; cases e235; have qi235 : (0 < t215.length) = True := eq_true (by omega); (try rw [show ((0 : Int)).toNat = 0 from rfl] at hx235_0); (try rw [Addr.add_zero'] at hx235_0); replace p235 := eq_true p235; replace q235 := eq_true q235; have p236 : 0 ≤ (1 : Int) := (by omega); have q236 : 1 < (t215.length : Int) := of_decide_eq_true (by first | (with_reducible assumption) | assumption); obtain ⟨ad236, e236, hx236_0⟩ := Kd.at_int (Kd.R_reads' HO_220001.out).2.2 1 p236 q236; obtain rfl : ad235 = ad236 := (by injection e236); (try simp only [show (1 : Int).toNat = 1 from rfl, Nat.reduceMul, Nat.reduceEqDiff, Go.Addr.add, ↓reduceIte] at hx236_0); have qi236 : (1 < t215.length) = True := eq_true (by omega); (try rw [show ((1 : Int)).toNat = 1 from rfl] at hx236_0); replace p236 := eq_true p236; replace q236 := eq_true q236) | (go_at_call 26; (with_reducible refine (bNext.calls t214 _ _ t215 0 t237 _ ?side3 ?side1 ?side2 A43.out).mono ?_); (case side1 => repeat (first | exact (Kd.R_reads' HO_220001.out).2.2 | (with_reducible refine Kd.C_alloc ?_ _) | (with_reducible refine Kd.C_drewN ?_ _) | (with_reducible refine Kd.C_drew ?_))); (case side2 => exact (Kd.R_reads' HO_220001.out).2.1); (case side3 => exact TabOK.below hG (by repeat (first | (with_reducible first | exact HB.out | apply below_alloc | apply pw_below_drewN | apply below_drew1 | refine below_set ?_ GE213.out | refine below_set ?_ GE219.out | refine below_set ?_ GE225.out | refine below_set ?_ GE231.out) | exact HB.out))); rintro e w111 ⟨rfl, hb⟩; have n0_ := Aside0.mk (Kd.R_below (by (with_reducible repeat (first | apply Kd.R_alloc | apply Kd.R_drewN | apply Kd.R_drew)); exact HO_214001.out) hb); have n1_ := Aside0.mk (Kd.R_below (by (with_reducible repeat (first | apply Kd.R_alloc | apply Kd.R_drewN | apply Kd.R_drew)); exact HO_220001.out) hb); have n2_ := Aside0.mk (Kd.R_below (by (with_reducible repeat (first | apply Kd.R_alloc | apply Kd.R_drewN | apply Kd.R_drew)); exact HO_226001.out) hb); have n3_ := Aside0.mk (Kd.R_below (by (with_reducible repeat (first | apply Kd.R_alloc | apply Kd.R_drewN | apply Kd.R_drew)); exact HO_232001.out) hb); have n4_ := Aside0.mk (Kd.R_below (by (with_reducible repeat (first | apply Kd.R_alloc | apply Kd.R_drewN | apply Kd.R_drew)); exact HO234.out) hb); have n5_ := Aside0.mk (blk_below (g := gb213) (o := .cells #[.int .i64 t208, .slice Ao9 t209.length co9] 24 (0, 0)) (by (with_reducible repeat (first | refine blk_drewN ?_ _ | refine blk_drew ?_ | refine blk_alloc ?_ _)); exact BK213.out) hb); have n6_ := Aside0.mk (blk_below (g := gb219) (o := .cells #[.int .i64 t214, .slice (some ad235) t215.length co14] 24 (0, 0)) (by (with_reducible repeat (first | refine blk_drewN ?_ _ | refine blk_drew ?_ | refine blk_alloc ?_ _)); exact BK219.out) hb); have n7_ := Aside0.mk (blk_below (g := gb225) (o := .cells #[.int .i64 t220, .slice Ao20 t221.length co20] 24 (0, 0)) (by (with_reducible repeat (first | refine blk_drewN ?_ _ | refine blk_drew ?_ | refine blk_alloc ?_ _)); exact BK225.out) hb); have n8_ := Aside0.mk (blk_below (g := gb231) (o := .cells #[.int .i64 t226, .slice Ao28 t227.length co28] 24 (0, 0)) (by (with_reducible repeat (first | refine blk_drewN ?_ _ | refine blk_drew ?_ | refine blk_alloc ?_ _)); exact BK231.out) hb); have n9_ := Aside0.mk (below_step (by repeat (first | (with_reducible first | exact HB.out | apply below_alloc | apply pw_below_drewN | apply below_drew1 | refine below_set ?_ GE213.out | refine below_set ?_ GE219.out | refine below_set ?_ GE225.out | refine below_set ?_ GE231.out) | exact HB.out)) hb); clear HO_214001; clear HO_220001; clear HO_226001; clear HO_232001; clear HO234; clear BK213; clear BK219; clear BK225; clear BK231; clear HB; have HO_214001 := n0_; have HO_220001 := n1_; have HO_226001 := n2_; have HO_232001 := n3_; have HO234 := n4_; have BK213 := n5_; have BK219 := n6_; have BK225 := n7_; have BK231 := n8_; have HB := n9_; clear n0_ n1_ n2_ n3_ n4_ n5_ n6_ n7_ n8_ n9_; (try clear hb); (try clear hb2); (try clear hk); (try clear hi); have hcz112_0 : w111.cell? ⟨gb219, 0, none⟩ = some (.int .i64 t214) := (blk_cell BK219.out 0).trans rfl; have hcz112_1 : w111.cell? ⟨gb219, 1, none⟩ = some (.slice (some ad235) t215.length co14) := (blk_cell BK219.out 1).trans rfl; have hfz112_0 := blk_frozen BK219.out 0; have hfz112_1 := blk_frozen BK219.out 1) | (go_at_call 26; (with_reducible refine (bNext.calls t214 _ _ t215 68 t238 _ ?side3 ?side1 ?side2 A45.out).mono ?_); (case side1 => repeat (first | exact (Kd.R_reads' HO_220001.out).2.2 | (with_reducible refine Kd.C_alloc ?_ _) | (with_reducible refine Kd.C_drewN ?_ _) | (with_reducible refine Kd.C_drew ?_))); (case side2 => exact (Kd.R_reads' HO_220001.out).2.1); (case side3 => exact TabOK.below hG (by repeat (first | (with_reducible first | exact HB.out | apply below_alloc | apply pw_below_drewN | apply below_drew1 | refine below_set ?_ GE213.out | refine below_set ?_ GE219.out | refine below_set ?_ GE225.out | refine below_set ?_ GE231.out) | exact HB.out))); rintro e w113 ⟨rfl, hb⟩; have n0_ := Aside0.mk (Kd.R_below (by (with_reducible repeat (first | apply Kd.R_alloc | apply Kd.R_drewN | apply Kd.R_drew)); exact HO_214001.out) hb); have n1_ := Aside0.mk (Kd.R_below (by (with_reducible repeat (first | apply Kd.R_alloc | apply Kd.R_drewN | apply Kd.R_drew)); exact HO_220001.out) hb); have n2_ := Aside0.mk (Kd.R_below (by (with_reducible repeat (first | apply Kd.R_alloc | apply Kd.R_drewN | apply Kd.R_drew)); exact HO_226001.out) hb); have n3_ := Aside0.mk (Kd.R_below (by (with_reducible repeat (first | apply Kd.R_alloc | apply Kd.R_drewN | apply Kd.R_drew)); exact HO_232001.out) hb); have n4_ := Aside0.mk (Kd.R_below (by (with_reducible repeat (first | apply Kd.R_alloc | apply Kd.R_drewN | apply Kd.R_drew)); exact HO234.out) hb); have n5_ := Aside0.mk (blk_below (g := gb213) (o := .cells #[.int .i64 t208, .slice Ao9 t209.length co9] 24 (0, 0)) (by (with_reducible repeat (first | refine blk_drewN ?_ _ | refine blk_drew ?_ | refine blk_alloc ?_ _)); exact BK213.out) hb); have n6_ := Aside0.mk (blk_below (g := gb219) (o := .cells #[.int .i64 t214, .slice (some ad235) t215.length co14] 24 (0, 0)) (by (with_reducible repeat (first | refine blk_drewN ?_ _ | refine blk_drew ?_ | refine blk_alloc ?_ _)); exact BK219.out) hb); have n7_ := Aside0.mk (blk_below (g := gb225) (o := .cells #[.int .i64 t220, .slice Ao20 t221.length co20] 24 (0, 0)) (by (with_reducible repeat (first | refine blk_drewN ?_ _ | refine blk_drew ?_ | refine blk_alloc ?_ _)); exact BK225.out) hb); have n8_ := Aside0.mk (blk_below (g := gb231) (o := .cells #[.int .i64 t226, .slice Ao28 t227.length co28] 24 (0, 0)) (by (with_reducible repeat (first | refine blk_drewN ?_ _ | refine blk_drew ?_ | refine blk_alloc ?_ _)); exact BK231.out) hb); have n9_ := Aside0.mk (below_step (by repeat (first | (with_reducible first | exact HB.out | apply below_alloc | apply pw_below_drewN | apply below_drew1 | refine below_set ?_ GE213.out | refine below_set ?_ GE219.out | refine below_set ?_ GE225.out | refine below_set ?_ GE231.out) | exact HB.out)) hb); clear HO_214001; clear HO_220001; clear HO_226001; clear HO_232001; clear HO234; clear BK213; clear BK219; clear BK225; clear BK231; clear HB; have HO_214001 := n0_; have HO_220001 := n1_; have HO_226001 := n2_; have HO_232001 := n3_; have HO234 := n4_; have BK213 := n5_; have BK219 := n6_; have BK225 := n7_; have BK231 := n8_; have HB := n9_; clear n0_ n1_ n2_ n3_ n4_ n5_ n6_ n7_ n8_ n9_; (try clear hb); (try clear hb2); (try clear hk); (try clear hi)))
                    go_ret
                    exact ⟨by first | rfl | (simp [errW_none, errW_some] <;> rfl) | (simp [*, errW_none, errW_some] <;> rfl), by repeat (first | (with_reducible first | exact HB.out | apply below_alloc | apply pw_below_drewN | apply below_drew1 | refine below_set ?_ GE213.out | refine below_set ?_ GE219.out | refine below_set ?_ GE225.out | refine below_set ?_ GE231.out) | exact HB.out)⟩
                · rw [if_neg c44] at H
                  have c44b0 : (t237 == 60) = false := beq_eq_false_iff_ne.mpr c44
                  have c44b1 : (t237 != 60) = true := bne_iff_ne.mpr c44
                  obtain rfl := Option.some.inj H
                  have hnb114 := NB225_213.out
                  have hnc114 := NB213_225.out
                  have hnb115 := NB225_219.out
                  have hnc115 := NB219_225.out
                  have hnb116 := NB225_231.out
                  have hnc116 := NB231_225.out
                  have hcz117_0 : wc.cell? ⟨gb225, 0, none⟩ = some (.int .i64 t220) := (blk_cell BK225.out 0).trans rfl
                  have hcz117_1 : wc.cell? ⟨gb225, 1, none⟩ = some (.slice Ao20 t221.length co20) := (blk_cell BK225.out 1).trans rfl
                  have hfz117_0 := blk_frozen BK225.out 0
                  have hfz117_1 := blk_frozen BK225.out 1
                  go_wp2_with (first | ((with_reducible refine gate_callee (f := 31) rfl ?_); refine goesL_ (some 53) rfl rfl Tryd.func31 (by kernel_rfl) rfl #[.agg #[.int .i64 t220, .slice Ao20 t221.length co20]] rfl (by (try simp only [List.map_toArray, List.map_cons, List.map_nil]); first | done | rfl | (simp only [List.length_drop, List.length_take]; rfl)) ?_; (with_reducible refine (bExtents.calls t220 _ _ t221 t232 _ ?side3 ?side1 ?side2 A38.out).mono ?_); (case side1 => repeat (first | exact (Kd.R_reads' HO_226001.out).2.2 | (with_reducible refine Kd.C_alloc ?_ _) | (with_reducible refine Kd.C_drewN ?_ _) | (with_reducible refine Kd.C_drew ?_))); (case side2 => exact (Kd.R_reads' HO_226001.out).2.1); (case side3 => exact TabOK.below hG (by repeat (first | (with_reducible first | exact HB.out | apply below_alloc | apply pw_below_drewN | apply below_drew1 | refine below_set ?_ GE213.out | refine below_set ?_ GE219.out | refine below_set ?_ GE225.out | refine below_set ?_ GE231.out) | exact HB.out))); rintro e w118 ⟨v233, rfl, ho0, hb⟩; refine ⟨_, rfl, ?_⟩; have n0_ := Aside0.mk (Kd.R_below (by (with_reducible repeat (first | apply Kd.R_alloc | apply Kd.R_drewN | apply Kd.R_drew)); exact HO_214001.out) hb); have n1_ := Aside0.mk (Kd.R_below (by (with_reducible repeat (first | apply Kd.R_alloc | apply Kd.R_drewN | apply Kd.R_drew)); exact HO_220001.out) hb); have n2_ := Aside0.mk (Kd.R_below (by (with_reducible repeat (first | apply Kd.R_alloc | apply Kd.R_drewN | apply Kd.R_drew)); exact HO_226001.out) hb); have n3_ := Aside0.mk (Kd.R_below (by (with_reducible repeat (first | apply Kd.R_alloc | apply Kd.R_drewN | apply Kd.R_drew)); exact HO_232001.out) hb); have n4_ := Aside0.mk (Kd.R_lower ho0 (below_size (by repeat (first | (with_reducible first | exact HB.out | apply below_alloc | apply pw_below_drewN | apply below_drew1 | refine below_set ?_ GE213.out | refine below_set ?_ GE219.out | refine below_set ?_ GE225.out | refine below_set ?_ GE231.out) | exact HB.out)))); have n5_ := Aside0.mk (blk_below (g := gb213) (o := .cells #[.int .i64 t208, .slice Ao9 t209.length co9] 24 (0, 0)) (by (with_reducible repeat (first | refine blk_drewN ?_ _ | refine blk_drew ?_ | refine blk_alloc ?_ _)); exact BK213.out) hb); have n6_ := Aside0.mk (blk_below (g := gb219) (o := .cells #[.int .i64 t214, .slice Ao14 t215.length co14] 24 (0, 0)) (by (with_reducible repeat (first | refine blk_drewN ?_ _ | refine blk_drew ?_ | refine blk_alloc ?_ _)); exact BK219.out) hb); have n7_ := Aside0.mk (blk_below (g := gb225) (o := .cells #[.int .i64 t220, .slice Ao20 t221.length co20] 24 (0, 0)) (by (with_reducible repeat (first | refine blk_drewN ?_ _ | refine blk_drew ?_ | refine blk_alloc ?_ _)); exact BK225.out) hb); have n8_ := Aside0.mk (blk_below (g := gb231) (o := .cells #[.int .i64 t226, .slice Ao28 t227.length co28] 24 (0, 0)) (by (with_reducible repeat (first | refine blk_drewN ?_ _ | refine blk_drew ?_ | refine blk_alloc ?_ _)); exact BK231.out) hb); have n9_ := Aside0.mk (below_step (by repeat (first | (with_reducible first | exact HB.out | apply below_alloc | apply pw_below_drewN | apply below_drew1 | refine below_set ?_ GE213.out | refine below_set ?_ GE219.out | refine below_set ?_ GE225.out | refine below_set ?_ GE231.out) | exact HB.out)) hb); clear HO_214001; clear HO_220001; clear HO_226001; clear HO_232001; clear BK213; clear BK219; clear BK225; clear BK231; clear HB; have HO_214001 := n0_; have HO_220001 := n1_; have HO_226001 := n2_; have HO_232001 := n3_; have HO234 := n4_; have BK213 := n5_; have BK219 := n6_; have BK225 := n7_; have BK231 := n8_; have HB := n9_; clear n0_ n1_ n2_ n3_ n4_ n5_ n6_ n7_ n8_ n9_; (try clear hb); (try clear hb2); (try clear hk); (try clear hi); (try clear ho0); have hnb119 := NB219_213.out; have hnc119 := NB213_219.out; have hnb120 := NB219_231.out; have hnc120 := NB231_219.out; have hcz121_0 : w118.cell? ⟨gb219, 0, none⟩ = some (.int .i64 t214) := (blk_cell BK219.out 0).trans rfl; have hcz121_1 : w118.cell? ⟨gb219, 1, none⟩ = some (.slice Ao14 t215.length co14) := (blk_cell BK219.out 1).trans rfl; have hfz121_0 := blk_frozen BK219.out 0; have hfz121_1 := blk_frozen BK219.out 1; have p235 : 0 ≤ (0 : Int) := (by omega); have q235 : 0 < (t215.length : Int) := of_decide_eq_true (by first | (with_reducible assumption) | assumption); obtain ⟨ad235, e235, hx235_0⟩ := Kd.at_int (Kd.R_reads' HO_220001.out).2.2 0 p235 q235; cases e235; have qi235 : (0 < t215.length) = True := eq_true (by omega); (try rw [show ((0 : Int)).toNat = 0 from rfl] at hx235_0); (try rw [Addr.add_zero'] at hx235_0); replace p235 := eq_true p235; replace q235 := eq_true q235; have p236 : 0 ≤ (1 : Int) := (by omega); have q236 : 1 < (t215.length : Int) := of_decide_eq_true (by first | (with_reducible assumption) | assumption); obtain ⟨ad236, e236, hx236_0⟩ := Kd.at_int (Kd.R_reads' HO_220001.out).2.2 1 p236 q236; obtain rfl : ad235 = ad236 := (by injection e236); (try simp only [show (1 : Int).toNat = 1 from rfl, Nat.reduceMul, Nat.reduceEqDiff, Go.Addr.add, ↓reduceIte] at hx236_0); have qi236 : (1 < t215.length) = True := eq_true (by omega); (try rw [show ((1 : Int)).toNat = 1 from rfl] at hx236_0); replace p236 := eq_true p236; replace q236 := eq_true q236) | (go_at_call 26; (with_reducible refine (bNext.calls t214 _ _ t215 0 t237 _ ?side3 ?side1 ?side2 A43.out).mono ?_); (case side1 => repeat (first | exact (Kd.R_reads' HO_220001.out).2.2 | (with_reducible refine Kd.C_alloc ?_ _) | (with_reducible refine Kd.C_drewN ?_ _) | (with_reducible refine Kd.C_drew ?_))); (case side2 => exact (Kd.R_reads' HO_220001.out).2.1); (case side3 => exact TabOK.below hG (by repeat (first | (with_reducible first | exact HB.out | apply below_alloc | apply pw_below_drewN | apply below_drew1 | refine below_set ?_ GE213.out | refine below_set ?_ GE219.out | refine below_set ?_ GE225.out | refine below_set ?_ GE231.out) | exact HB.out))); rintro e w122 ⟨rfl, hb⟩; have n0_ := Aside0.mk (Kd.R_below (by (with_reducible repeat (first | apply Kd.R_alloc | apply Kd.R_drewN | apply Kd.R_drew)); exact HO_214001.out) hb); have n1_ := Aside0.mk (Kd.R_below (by (with_reducible repeat (first | apply Kd.R_alloc | apply Kd.R_drewN | apply Kd.R_drew)); exact HO_220001.out) hb); have n2_ := Aside0.mk (Kd.R_below (by (with_reducible repeat (first | apply Kd.R_alloc | apply Kd.R_drewN | apply Kd.R_drew)); exact HO_226001.out) hb); have n3_ := Aside0.mk (Kd.R_below (by (with_reducible repeat (first | apply Kd.R_alloc | apply Kd.R_drewN | apply Kd.R_drew)); exact HO_232001.out) hb); have n4_ := Aside0.mk (Kd.R_below (by (with_reducible repeat (first | apply Kd.R_alloc | apply Kd.R_drewN | apply Kd.R_drew)); exact HO234.out) hb); have n5_ := Aside0.mk (blk_below (g := gb213) (o := .cells #[.int .i64 t208, .slice Ao9 t209.length co9] 24 (0, 0)) (by (with_reducible repeat (first | refine blk_drewN ?_ _ | refine blk_drew ?_ | refine blk_alloc ?_ _)); exact BK213.out) hb); have n6_ := Aside0.mk (blk_below (g := gb219) (o := .cells #[.int .i64 t214, .slice (some ad235) t215.length co14] 24 (0, 0)) (by (with_reducible repeat (first | refine blk_drewN ?_ _ | refine blk_drew ?_ | refine blk_alloc ?_ _)); exact BK219.out) hb); have n7_ := Aside0.mk (blk_below (g := gb225) (o := .cells #[.int .i64 t220, .slice Ao20 t221.length co20] 24 (0, 0)) (by (with_reducible repeat (first | refine blk_drewN ?_ _ | refine blk_drew ?_ | refine blk_alloc ?_ _)); exact BK225.out) hb); have n8_ := Aside0.mk (blk_below (g := gb231) (o := .cells #[.int .i64 t226, .slice Ao28 t227.length co28] 24 (0, 0)) (by (with_reducible repeat (first | refine blk_drewN ?_ _ | refine blk_drew ?_ | refine blk_alloc ?_ _)); exact BK231.out) hb); have n9_ := Aside0.mk (below_step (by repeat (first | (with_reducible first | exact HB.out | apply below_alloc | apply pw_below_drewN | apply below_drew1 | refine below_set ?_ GE213.out | refine below_set ?_ GE219.out | refine below_set ?_ GE225.out | refine below_set ?_ GE231.out) | exact HB.out)) hb); clear HO_214001; clear HO_220001; clear HO_226001; clear HO_232001; clear HO234; clear BK213; clear BK219; clear BK225; clear BK231; clear HB; have HO_214001 := n0_; have HO_220001 := n1_; have HO_226001 := n2_; have HO_232001 := n3_; have HO234 := n4_; have BK213 := n5_; have BK219 := n6_; have BK225 := n7_; have BK231 := n8_; have HB := n9_; clear n0_ n1_ n2_ n3_ n4_ n5_ n6_ n7_ n8_ n9_; (try clear hb); (try clear hb2); (try clear hk); (try clear hi)))
                  go_ret
                  exact ⟨by first | rfl | (simp [errW_none, errW_some] <;> rfl) | (simp [*, errW_none, errW_some] <;> rfl), by repeat (first | (with_reducible first | exact HB.out | apply below_alloc | apply pw_below_drewN | apply below_drew1 | refine below_set ?_ GE213.out | refine below_set ?_ GE219.out | refine below_set ?_ GE225.out | refine below_set ?_ GE231.out) | exact HB.out)⟩
              · rw [if_neg c42] at H
                have c42b0 : ((rd t215 1) == 15) = false := beq_eq_false_iff_ne.mpr c42
                have c42b1 : ((rd t215 1) != 15) = true := bne_iff_ne.mpr c42
                obtain rfl := Option.some.inj H
                have hnb123 := NB225_213.out
                have hnc123 := NB213_225.out
                have hnb124 := NB225_219.out
                have hnc124 := NB219_225.out
                have hnb125 := NB225_231.out
                have hnc125 := NB231_225.out
                have hcz126_0 : wc.cell? ⟨gb225, 0, none⟩ = some (.int .i64 t220) := (blk_cell BK225.out 0).trans rfl
                have hcz126_1 : wc.cell? ⟨gb225, 1, none⟩ = some (.slice Ao20 t221.length co20) := (blk_cell BK225.out 1).trans rfl
                have hfz126_0 := blk_frozen BK225.out 0
                have hfz126_1 := blk_frozen BK225.out 1
                go_wp2_with (first | ((with_reducible refine gate_callee (f := 31) rfl ?_); refine goesL_ (some 53) rfl rfl Tryd.func31 (by kernel_rfl) rfl #[.agg #[.int .i64 t220, .slice Ao20 t221.length co20]] rfl (by (try simp only [List.map_toArray, List.map_cons, List.map_nil]); first | done | rfl | (simp only [List.length_drop, List.length_take]; rfl)) ?_; (with_reducible refine (bExtents.calls t220 _ _ t221 t232 _ ?side3 ?side1 ?side2 A38.out).mono ?_); (case side1 => repeat (first | exact (Kd.R_reads' HO_226001.out).2.2 | (with_reducible refine Kd.C_alloc ?_ _) | (with_reducible refine Kd.C_drewN ?_ _) | (with_reducible refine Kd.C_drew ?_))); (case side2 => exact (Kd.R_reads' HO_226001.out).2.1); (case side3 => exact TabOK.below hG (by repeat (first | (with_reducible first | exact HB.out | apply below_alloc | apply pw_below_drewN | apply below_drew1 | refine below_set ?_ GE213.out | refine below_set ?_ GE219.out | refine below_set ?_ GE225.out | refine below_set ?_ GE231.out) | exact HB.out))); rintro e w127 ⟨v233, rfl, ho0, hb⟩; refine ⟨_, rfl, ?_⟩; have n0_ := Aside0.mk (Kd.R_below (by (with_reducible repeat (first | apply Kd.R_alloc | apply Kd.R_drewN | apply Kd.R_drew)); exact HO_214001.out) hb); have n1_ := Aside0.mk (Kd.R_below (by (with_reducible repeat (first | apply Kd.R_alloc | apply Kd.R_drewN | apply Kd.R_drew)); exact HO_220001.out) hb); have n2_ := Aside0.mk (Kd.R_below (by (with_reducible repeat (first | apply Kd.R_alloc | apply Kd.R_drewN | apply Kd.R_drew)); exact HO_226001.out) hb); have n3_ := Aside0.mk (Kd.R_below (by (with_reducible repeat (first | apply Kd.R_alloc | apply Kd.R_drewN | apply Kd.R_drew)); exact HO_232001.out) hb); have n4_ := Aside0.mk (Kd.R_lower ho0 (below_size (by repeat (first | (with_reducible first | exact HB.out | apply below_alloc | apply pw_below_drewN | apply below_drew1 | refine below_set ?_ GE213.out | refine below_set ?_ GE219.out | refine below_set ?_ GE225.out | refine below_set ?_ GE231.out) | exact HB.out)))); have n5_ := Aside0.mk (blk_below (g := gb213) (o := .cells #[.int .i64 t208, .slice Ao9 t209.length co9] 24 (0, 0)) (by (with_reducible repeat (first | refine blk_drewN ?_ _ | refine blk_drew ?_ | refine blk_alloc ?_ _)); exact BK213.out) hb); have n6_ := Aside0.mk (blk_below (g := gb219) (o := .cells #[.int .i64 t214, .slice Ao14 t215.length co14] 24 (0, 0)) (by (with_reducible repeat (first | refine blk_drewN ?_ _ | refine blk_drew ?_ | refine blk_alloc ?_ _)); exact BK219.out) hb); have n7_ := Aside0.mk (blk_below (g := gb225) (o := .cells #[.int .i64 t220, .slice Ao20 t221.length co20] 24 (0, 0)) (by (with_reducible repeat (first | refine blk_drewN ?_ _ | refine blk_drew ?_ | refine blk_alloc ?_ _)); exact BK225.out) hb); have n8_ := Aside0.mk (blk_below (g := gb231) (o := .cells #[.int .i64 t226, .slice Ao28 t227.length co28] 24 (0, 0)) (by (with_reducible repeat (first | refine blk_drewN ?_ _ | refine blk_drew ?_ | refine blk_alloc ?_ _)); exact BK231.out) hb); have n9_ := Aside0.mk (below_step (by repeat (first | (with_reducible first | exact HB.out | apply below_alloc | apply pw_below_drewN | apply below_drew1 | refine below_set ?_ GE213.out | refine below_set ?_ GE219.out | refine below_set ?_ GE225.out | refine below_set ?_ GE231.out) | exact HB.out)) hb); clear HO_214001; clear HO_220001; clear HO_226001; clear HO_232001; clear BK213; clear BK219; clear BK225; clear BK231; clear HB; have HO_214001 := n0_; have HO_220001 := n1_; have HO_226001 := n2_; have HO_232001 := n3_; have HO234 := n4_; have BK213 := n5_; have BK219 := n6_; have BK225 := n7_; have BK231 := n8_; have HB := n9_; clear n0_ n1_ n2_ n3_ n4_ n5_ n6_ n7_ n8_ n9_; (try clear hb); (try clear hb2); (try clear hk); (try clear hi); (try clear ho0); have hnb128 := NB219_213.out; have hnc128 := NB213_219.out; have hnb129 := NB219_231.out; have hnc129 := NB231_219.out; have hcz130_0 : w127.cell? ⟨gb219, 0, none⟩ = some (.int .i64 t214) := (blk_cell BK219.out 0).trans rfl; have hcz130_1 : w127.cell? ⟨gb219, 1, none⟩ = some (.slice Ao14 t215.length co14) := (blk_cell BK219.out 1).trans rfl; have hfz130_0 := blk_frozen BK219.out 0; have hfz130_1 := blk_frozen BK219.out 1; have p235 : 0 ≤ (0 : Int) := (by omega); have q235 : 0 < (t215.length : Int) := of_decide_eq_true (by first | (with_reducible assumption) | assumption); obtain ⟨ad235, e235, hx235_0⟩ := Kd.at_int (Kd.R_reads' HO_220001.out).2.2 0 p235 q235; cases e235; have qi235 : (0 < t215.length) = True := eq_true (by omega); (try rw [show ((0 : Int)).toNat = 0 from rfl] at hx235_0); (try rw [Addr.add_zero'] at hx235_0); replace p235 := eq_true p235; replace q235 := eq_true q235; have p236 : 0 ≤ (1 : Int) := (by omega); have q236 : 1 < (t215.length : Int) := of_decide_eq_true (by first | (with_reducible assumption) | assumption); obtain ⟨ad236, e236, hx236_0⟩ := Kd.at_int (Kd.R_reads' HO_220001.out).2.2 1 p236 q236; obtain rfl : ad235 = ad236 := (by injection e236); (try simp only [show (1 : Int).toNat = 1 from rfl, Nat.reduceMul, Nat.reduceEqDiff, Go.Addr.add, ↓reduceIte] at hx236_0); have qi236 : (1 < t215.length) = True := eq_true (by omega); (try rw [show ((1 : Int)).toNat = 1 from rfl] at hx236_0); replace p236 := eq_true p236; replace q236 := eq_true q236))
                go_ret
                exact ⟨by first | rfl | (simp [errW_none, errW_some] <;> rfl) | (simp [*, errW_none, errW_some] <;> rfl), by repeat (first | (with_reducible first | exact HB.out | apply below_alloc | apply pw_below_drewN | apply below_drew1 | refine below_set ?_ GE213.out | refine below_set ?_ GE219.out | refine below_set ?_ GE225.out | refine below_set ?_ GE231.out) | exact HB.out)⟩
            · rw [if_neg c41] at H
              exact absurd H (by simp)
          · rw [if_neg c40] at H
            have c40b0 : ((rd t215 0) == 17293822569102704640) = false := beq_eq_false_iff_ne.mpr c40
            have c40b1 : ((rd t215 0) != 17293822569102704640) = true := bne_iff_ne.mpr c40
            obtain rfl := Option.some.inj H
            have hnb131 := NB225_213.out
            have hnc131 := NB213_225.out
            have hnb132 := NB225_219.out
            have hnc132 := NB219_225.out
            have hnb133 := NB225_231.out
            have hnc133 := NB231_225.out
            have hcz134_0 : wc.cell? ⟨gb225, 0, none⟩ = some (.int .i64 t220) := (blk_cell BK225.out 0).trans rfl
            have hcz134_1 : wc.cell? ⟨gb225, 1, none⟩ = some (.slice Ao20 t221.length co20) := (blk_cell BK225.out 1).trans rfl
            have hfz134_0 := blk_frozen BK225.out 0
            have hfz134_1 := blk_frozen BK225.out 1
            go_wp2_with (first | ((with_reducible refine gate_callee (f := 31) rfl ?_); refine goesL_ (some 53) rfl rfl Tryd.func31 (by kernel_rfl) rfl #[.agg #[.int .i64 t220, .slice Ao20 t221.length co20]] rfl (by (try simp only [List.map_toArray, List.map_cons, List.map_nil]); first | done | rfl | (simp only [List.length_drop, List.length_take]; rfl)) ?_; (with_reducible refine (bExtents.calls t220 _ _ t221 t232 _ ?side3 ?side1 ?side2 A38.out).mono ?_); (case side1 => repeat (first | exact (Kd.R_reads' HO_226001.out).2.2 | (with_reducible refine Kd.C_alloc ?_ _) | (with_reducible refine Kd.C_drewN ?_ _) | (with_reducible refine Kd.C_drew ?_))); (case side2 => exact (Kd.R_reads' HO_226001.out).2.1); (case side3 => exact TabOK.below hG (by repeat (first | (with_reducible first | exact HB.out | apply below_alloc | apply pw_below_drewN | apply below_drew1 | refine below_set ?_ GE213.out | refine below_set ?_ GE219.out | refine below_set ?_ GE225.out | refine below_set ?_ GE231.out) | exact HB.out))); rintro e w135 ⟨v233, rfl, ho0, hb⟩; refine ⟨_, rfl, ?_⟩; have n0_ := Aside0.mk (Kd.R_below (by (with_reducible repeat (first | apply Kd.R_alloc | apply Kd.R_drewN | apply Kd.R_drew)); exact HO_214001.out) hb); have n1_ := Aside0.mk (Kd.R_below (by (with_reducible repeat (first | apply Kd.R_alloc | apply Kd.R_drewN | apply Kd.R_drew)); exact HO_220001.out) hb); have n2_ := Aside0.mk (Kd.R_below (by (with_reducible repeat (first | apply Kd.R_alloc | apply Kd.R_drewN | apply Kd.R_drew)); exact HO_226001.out) hb); have n3_ := Aside0.mk (Kd.R_below (by (with_reducible repeat (first | apply Kd.R_alloc | apply Kd.R_drewN | apply Kd.R_drew)); exact HO_232001.out) hb); have n4_ := Aside0.mk (Kd.R_lower ho0 (below_size (by repeat (first | (with_reducible first | exact HB.out | apply below_alloc | apply pw_below_drewN | apply below_drew1 | refine below_set ?_ GE213.out | refine below_set ?_ GE219.out | refine below_set ?_ GE225.out | refine below_set ?_ GE231.out) | exact HB.out)))); have n5_ := Aside0.mk (blk_below (g := gb213) (o := .cells #[.int .i64 t208, .slice Ao9 t209.length co9] 24 (0, 0)) (by (with_reducible repeat (first | refine blk_drewN ?_ _ | refine blk_drew ?_ | refine blk_alloc ?_ _)); exact BK213.out) hb); have n6_ := Aside0.mk (blk_below (g := gb219) (o := .cells #[.int .i64 t214, .slice Ao14 t215.length co14] 24 (0, 0)) (by (with_reducible repeat (first | refine blk_drewN ?_ _ | refine blk_drew ?_ | refine blk_alloc ?_ _)); exact BK219.out) hb); have n7_ := Aside0.mk (blk_below (g := gb225) (o := .cells #[.int .i64 t220, .slice Ao20 t221.length co20] 24 (0, 0)) (by (with_reducible repeat (first | refine blk_drewN ?_ _ | refine blk_drew ?_ | refine blk_alloc ?_ _)); exact BK225.out) hb); have n8_ := Aside0.mk (blk_below (g := gb231) (o := .cells #[.int .i64 t226, .slice Ao28 t227.length co28] 24 (0, 0)) (by (with_reducible repeat (first | refine blk_drewN ?_ _ | refine blk_drew ?_ | refine blk_alloc ?_ _)); exact BK231.out) hb); have n9_ := Aside0.mk (below_step (by repeat (first | (with_reducible first | exact HB.out | apply below_alloc | apply pw_below_drewN | apply below_drew1 | refine below_set ?_ GE213.out | refine below_set ?_ GE219.out | refine below_set ?_ GE225.out | refine below_set ?_ GE231.out) | exact HB.out)) hb); clear HO_214001; clear HO_220001; clear HO_226001; clear HO_232001; clear BK213; clear BK219; clear BK225; clear BK231; clear HB; have HO_214001 := n0_; have HO_220001 := n1_; have HO_226001 := n2_; have HO_232001 := n3_; have HO234 := n4_; have BK213 := n5_; have BK219 := n6_; have BK225 := n7_; have BK231 := n8_; have HB := n9_; clear n0_ n1_ n2_ n3_ n4_ n5_ n6_ n7_ n8_ n9_; (try clear hb); (try clear hb2); (try clear hk); (try clear hi); (try clear ho0); have hnb136 := NB219_213.out; have hnc136 := NB213_219.out; have hnb137 := NB219_231.out; have hnc137 := NB231_219.out; have hcz138_0 : w135.cell? ⟨gb219, 0, none⟩ = some (.int .i64 t214) := (blk_cell BK219.out 0).trans rfl; have hcz138_1 : w135.cell? ⟨gb219, 1, none⟩ = some (.slice Ao14 t215.length co14) := (blk_cell BK219.out 1).trans rfl; have hfz138_0 := blk_frozen BK219.out 0; have hfz138_1 := blk_frozen BK219.out 1; have p235 : 0 ≤ (0 : Int) := (by omega); have q235 : 0 < (t215.length : Int) := of_decide_eq_true (by first | (with_reducible assumption) | assumption); obtain ⟨ad235, e235, hx235_0⟩ := Kd.at_int (Kd.R_reads' HO_220001.out).2.2 0 p235 q235; cases e235; have qi235 : (0 < t215.length) = True := eq_true (by omega); (try rw [show ((0 : Int)).toNat = 0 from rfl] at hx235_0); (try rw [Addr.add_zero'] at hx235_0); replace p235 := eq_true p235; replace q235 := eq_true q235))
            go_ret
            exact ⟨by first | rfl | (simp [errW_none, errW_some] <;> rfl) | (simp [*, errW_none, errW_some] <;> rfl), by repeat (first | (with_reducible first | exact HB.out | apply below_alloc | apply pw_below_drewN | apply below_drew1 | refine below_set ?_ GE213.out | refine below_set ?_ GE219.out | refine below_set ?_ GE225.out | refine below_set ?_ GE231.out) | exact HB.out)⟩
        · rw [if_neg c39] at H
          exact absurd H (by simp)
mutual
def r02Same.j0 : Nat → Bool → Int → List Int → Int → List Int → Option (Bool)
  | 0, _, _, _, _, _ => none
  | k + 1, x19, x249000, x249001, x250000, x250001 => if x19 = true then (some false) else (r02Same.l0 k 0 x249000 x249001 x250000 x250001)
def r02Same.l0 : Nat → Int → Int → List Int → Int → List Int → Option (Bool)
  | 0, _, _, _, _, _ => none
  | k + 1, x5, x249000, x249001, x250000, x250001 => if x5 < (x249001.length : Int) then (if 0 ≤ x5 then (if x5 < (x250001.length : Int) then (if (rd x249001 x5) = (rd x250001 x5) then (r02Same.l0 k (wrap64 (x5 + 1)) x249000 x249001 x250000 x250001) else (some false)) else (none)) else (none)) else (some true)
end
def r02Same.f (k : Nat) (a0_0 : Int) (l0_1 : List Int) (a1_0 : Int) (l1_1 : List Int) : Option (Bool) := if a0_0 = a1_0 then (r02Same.j0 k ((l0_1.length : Int) != (l1_1.length : Int)) a0_0 l0_1 a1_0 l1_1) else (r02Same.j0 k true a0_0 l0_1 a1_0 l1_1)
set_option maxHeartbeats 8000000 in
set_option maxRecDepth 100000 in
theorem r02Same.calls (k : Nat) (a0_0 : Int) (A0_1 : Option Addr) (c0_1 : Nat) (l0_1 : List Int) (a1_0 : Int) (A1_1 : Option Addr) (c1_1 : Nat) (l1_1 : List Int) (r : Bool) (w : World) (hr0_1 : Kd.C (Kd.int .u64) w A0_1 l0_1.length l0_1) (hc0_1 : l0_1.length ≤ c0_1) (hr1_1 : Kd.C (Kd.int .u64) w A1_1 l1_1.length l1_1) (hc1_1 : l1_1.length ≤ c1_1) (h : r02Same.f k a0_0 l0_1 a1_0 l1_1 = some r) :
    Calls Tryd.prog 17 #[.agg #[.int .i64 a0_0, .slice A0_1 l0_1.length c0_1], .agg #[.int .i64 a1_0, .slice A1_1 l1_1.length c1_1]] w fun e w' => e = .returned (.bool r) ∧ Below w.heap.size w w' := by
  have hu24 := Tryd.underlying24
  have HR0_1 := Aside0.mk hr0_1
  have HC0_1 := Aside0.mk hc0_1
  clear hr0_1 hc0_1
  have HR1_1 := Aside0.mk hr1_1
  have HC1_1 := Aside0.mk hc1_1
  clear hr1_1 hc1_1
  have HB := Aside0.mk (Below.refl w.heap.size w)
  have H : (if a0_0 = a1_0 then (r02Same.j0 k ((l0_1.length : Int) != (l1_1.length : Int)) a0_0 l0_1 a1_0 l1_1) else (r02Same.j0 k true a0_0 l0_1 a1_0 l1_1)) = some r := h
  clear h
  have HC3 := Aside0.mk H
  clear H
  go_enter Tryd.func17, Tryd.ntmps17
  go_upto_region 1 with (first | ((with_reducible refine gate_dst (N := 2) rfl ?_); (try (refine gate_guard (by rfl) ?_; dsimp only)); refine box_event ?hg (N := 2) ?hd (cs := #[.int .i64 a0_0, .slice A0_1 l0_1.length c0_1]) (t := 24) ?hr ?_; (case hd => rfl); (case hg => rfl); (case hr => first | (go_simp; done) | (go_simp; rfl)); intro gb248 hg w4 hbox hb; have n0_ := Aside0.mk (below_step (by repeat (first | (with_reducible first | exact HB.out | apply below_alloc | apply pw_below_drewN | apply below_drew1) | exact HB.out)) hb); have n1_ := Aside0.mk (hbox); have n2_ := Aside0.mk ((by rw [hg]; exact (below_size (by repeat (first | (with_reducible first | exact HB.out | apply below_alloc | apply pw_below_drewN | apply below_drew1) | exact HB.out))) : w.heap.size ≤ gb248)); have n3_ := Aside0.mk ((by rw [hg]; exact (below_size (by repeat (first | (with_reducible first | exact HB.out | apply below_alloc | apply pw_below_drewN | apply below_drew1) | exact HB.out))) : w.heap.size ≤ gb248)); clear HB; have HB := n0_; have BK248 := n1_; have GW248 := n2_; have GE248 := n3_; clear n0_ n1_ n2_ n3_; clear hb hbox hg) | ((with_reducible refine gate_dst (N := 3) rfl ?_); (try (refine gate_guard (by rfl) ?_; dsimp only)); refine box_event ?hg (N := 3) ?hd (cs := #[.int .i64 a1_0, .slice A1_1 l1_1.length c1_1]) (t := 24) ?hr ?_; (case hd => rfl); (case hg => rfl); (case hr => first | (go_simp; done) | (go_simp; rfl)); intro gb249 hg w5 hbox hb; have n0_ := Aside0.mk (blk_below (g := gb248) (o := .cells #[.int .i64 a0_0, .slice A0_1 l0_1.length c0_1] 24 (0, 0)) (by (with_reducible repeat (first | refine blk_drewN ?_ _ | refine blk_drew ?_ | refine blk_alloc ?_ _)); exact BK248.out) hb); have n1_ := Aside0.mk (below_step (by repeat (first | (with_reducible first | exact HB.out | apply below_alloc | apply pw_below_drewN | apply below_drew1 | refine below_set ?_ GE248.out) | exact HB.out)) hb); have n2_ := Aside0.mk (hbox); have n3_ := Aside0.mk ((by rw [hg]; exact (below_size (by repeat (first | (with_reducible first | exact HB.out | apply below_alloc | apply pw_below_drewN | apply below_drew1 | refine below_set ?_ GE248.out) | exact HB.out))) : w.heap.size ≤ gb249)); have n4_ := Aside0.mk ((by rw [hg]; exact (below_size (by repeat (first | (with_reducible first | exact HB.out | apply below_alloc | apply pw_below_drewN | apply below_drew1 | refine below_set ?_ GE248.out) | exact HB.out))) : w.heap.size ≤ gb249)); have n5_ := Aside0.mk ((by rw [hg]; exact Nat.ne_of_lt (blk_lt (g := gb248) (o := .cells #[.int .i64 a0_0, .slice A0_1 l0_1.length c0_1] 24 (0, 0)) (by (with_reducible repeat (first | refine blk_drewN ?_ _ | refine blk_drew ?_ | refine blk_alloc ?_ _)); exact BK248.out)) : gb248 ≠ gb249)); have n6_ := Aside0.mk ((by rw [hg]; exact Nat.ne_of_gt (blk_lt (g := gb248) (o := .cells #[.int .i64 a0_0, .slice A0_1 l0_1.length c0_1] 24 (0, 0)) (by (with_reducible repeat (first | refine blk_drewN ?_ _ | refine blk_drew ?_ | refine blk_alloc ?_ _)); exact BK248.out)) : gb249 ≠ gb248)); clear BK248; clear HB; have BK248 := n0_; have HB := n1_; have BK249 := n2_; have GW249 := n3_; have GE249 := n4_; have NB248_249 := n5_; have NB249_248 := n6_; clear n0_ n1_ n2_ n3_ n4_ n5_ n6_; clear hb hbox hg))
  repeat (go_quiet (first | ((with_reducible refine gate_dst (N := 2) rfl ?_); (try (refine gate_guard (by rfl) ?_; dsimp only)); refine box_event ?hg (N := 2) ?hd (cs := #[.int .i64 a0_0, .slice A0_1 l0_1.length c0_1]) (t := 24) ?hr ?_; (case hd => rfl); (case hg => rfl); (case hr => first | (go_simp; done) | (go_simp; rfl)); intro gb248 hg w4 hbox hb; have n0_ := Aside0.mk (below_step (by repeat (first | (with_reducible first | exact HB.out | apply below_alloc | apply pw_below_drewN | apply below_drew1) | exact HB.out)) hb); have n1_ := Aside0.mk (hbox); have n2_ := Aside0.mk ((by rw [hg]; exact (below_size (by repeat (first | (with_reducible first | exact HB.out | apply below_alloc | apply pw_below_drewN | apply below_drew1) | exact HB.out))) : w.heap.size ≤ gb248)); have n3_ := Aside0.mk ((by rw [hg]; exact (below_size (by repeat (first | (with_reducible first | exact HB.out | apply below_alloc | apply pw_below_drewN | apply below_drew1) | exact HB.out))) : w.heap.size ≤ gb248)); clear HB; have HB := n0_; have BK248 := n1_; have GW248 := n2_; have GE248 := n3_; clear n0_ n1_ n2_ n3_; clear hb hbox hg) | ((with_reducible refine gate_dst (N := 3) rfl ?_); (try (refine gate_guard (by rfl) ?_; dsimp only)); refine box_event ?hg (N := 3) ?hd (cs := #[.int .i64 a1_0, .slice A1_1 l1_1.length c1_1]) (t := 24) ?hr ?_; (case hd => rfl); (case hg => rfl); (case hr => first | (go_simp; done) | (go_simp; rfl)); intro gb249 hg w5 hbox hb; have n0_ := Aside0.mk (blk_below (g := gb248) (o := .cells #[.int .i64 a0_0, .slice A0_1 l0_1.length c0_1] 24 (0, 0)) (by (with_reducible repeat (first | refine blk_drewN ?_ _ | refine blk_drew ?_ | refine blk_alloc ?_ _)); exact BK248.out) hb); have n1_ := Aside0.mk (below_step (by repeat (first | (with_reducible first | exact HB.out | apply below_alloc | apply pw_below_drewN | apply below_drew1 | refine below_set ?_ GE248.out) | exact HB.out)) hb); have n2_ := Aside0.mk (hbox); have n3_ := Aside0.mk ((by rw [hg]; exact (below_size (by repeat (first | (with_reducible first | exact HB.out | apply below_alloc | apply pw_below_drewN | apply below_drew1 | refine below_set ?_ GE248.out) | exact HB.out))) : w.heap.size ≤ gb249)); have n4_ := Aside0.mk ((by rw [hg]; exact (below_size (by repeat (first | (with_reducible first | exact HB.out | apply below_alloc | apply pw_below_drewN | apply below_drew1 | refine below_set ?_ GE248.out) | exact HB.out))) : w.heap.size ≤ gb249)); have n5_ := Aside0.mk ((by rw [hg]; exact Nat.ne_of_lt (blk_lt (g := gb248) (o := .cells #[.int .i64 a0_0, .slice A0_1 l0_1.length c0_1] 24 (0, 0)) (by (with_reducible repeat (first | refine blk_drewN ?_ _ | refine blk_drew ?_ | refine blk_alloc ?_ _)); exact BK248.out)) : gb248 ≠ gb249)); have n6_ := Aside0.mk ((by rw [hg]; exact Nat.ne_of_gt (blk_lt (g := gb248) (o := .cells #[.int .i64 a0_0, .slice A0_1 l0_1.length c0_1] 24 (0, 0)) (by (with_reducible repeat (first | refine blk_drewN ?_ _ | refine blk_drew ?_ | refine blk_alloc ?_ _)); exact BK248.out)) : gb249 ≠ gb248)); clear BK248; clear HB; have BK248 := n0_; have HB := n1_; have BK249 := n2_; have GW249 := n3_; have GE249 := n4_; have NB248_249 := n5_; have NB249_248 := n6_; clear n0_ n1_ n2_ n3_ n4_ n5_ n6_; clear hb hbox hg)); go_upto_region 1 with (first | ((with_reducible refine gate_dst (N := 2) rfl ?_); (try (refine gate_guard (by rfl) ?_; dsimp only)); refine box_event ?hg (N := 2) ?hd (cs := #[.int .i64 a0_0, .slice A0_1 l0_1.length c0_1]) (t := 24) ?hr ?_; (case hd => rfl); (case hg => rfl); (case hr => first | (go_simp; done) | (go_simp; rfl)); intro gb248 hg w4 hbox hb; have n0_ := Aside0.mk (below_step (by repeat (first | (with_reducible first | exact HB.out | apply below_alloc | apply pw_below_drewN | apply below_drew1) | exact HB.out)) hb); have n1_ := Aside0.mk (hbox); have n2_ := Aside0.mk ((by rw [hg]; exact (below_size (by repeat (first | (with_reducible first | exact HB.out | apply below_alloc | apply pw_below_drewN | apply below_drew1) | exact HB.out))) : w.heap.size ≤ gb248)); have n3_ := Aside0.mk ((by rw [hg]; exact (below_size (by repeat (first | (with_reducible first | exact HB.out | apply below_alloc | apply pw_below_drewN | apply below_drew1) | exact HB.out))) : w.heap.size ≤ gb248)); clear HB; have HB := n0_; have BK248 := n1_; have GW248 := n2_; have GE248 := n3_; clear n0_ n1_ n2_ n3_; clear hb hbox hg) | ((with_reducible refine gate_dst (N := 3) rfl ?_); (try (refine gate_guard (by rfl) ?_; dsimp only)); refine box_event ?hg (N := 3) ?hd (cs := #[.int .i64 a1_0, .slice A1_1 l1_1.length c1_1]) (t := 24) ?hr ?_; (case hd => rfl); (case hg => rfl); (case hr => first | (go_simp; done) | (go_simp; rfl)); intro gb249 hg w5 hbox hb; have n0_ := Aside0.mk (blk_below (g := gb248) (o := .cells #[.int .i64 a0_0, .slice A0_1 l0_1.length c0_1] 24 (0, 0)) (by (with_reducible repeat (first | refine blk_drewN ?_ _ | refine blk_drew ?_ | refine blk_alloc ?_ _)); exact BK248.out) hb); have n1_ := Aside0.mk (below_step (by repeat (first | (with_reducible first | exact HB.out | apply below_alloc | apply pw_below_drewN | apply below_drew1 | refine below_set ?_ GE248.out) | exact HB.out)) hb); have n2_ := Aside0.mk (hbox); have n3_ := Aside0.mk ((by rw [hg]; exact (below_size (by repeat (first | (with_reducible first | exact HB.out | apply below_alloc | apply pw_below_drewN | apply below_drew1 | refine below_set ?_ GE248.out) | exact HB.out))) : w.heap.size ≤ gb249)); have n4_ := Aside0.mk ((by rw [hg]; exact (below_size (by repeat (first | (with_reducible first | exact HB.out | apply below_alloc | apply pw_below_drewN | apply below_drew1 | refine below_set ?_ GE248.out) | exact HB.out))) : w.heap.size ≤ gb249)); have n5_ := Aside0.mk ((by rw [hg]; exact Nat.ne_of_lt (blk_lt (g := gb248) (o := .cells #[.int .i64 a0_0, .slice A0_1 l0_1.length c0_1] 24 (0, 0)) (by (with_reducible repeat (first | refine blk_drewN ?_ _ | refine blk_drew ?_ | refine blk_alloc ?_ _)); exact BK248.out)) : gb248 ≠ gb249)); have n6_ := Aside0.mk ((by rw [hg]; exact Nat.ne_of_gt (blk_lt (g := gb248) (o := .cells #[.int .i64 a0_0, .slice A0_1 l0_1.length c0_1] 24 (0, 0)) (by (with_reducible repeat (first | refine blk_drewN ?_ _ | refine blk_drew ?_ | refine blk_alloc ?_ _)); exact BK248.out)) : gb249 ≠ gb248)); clear BK248; clear HB; have BK248 := n0_; have HB := n1_; have BK249 := n2_; have GW249 := n3_; have GE249 := n4_; have NB248_249 := n5_; have NB249_248 := n6_; clear n0_ n1_ n2_ n3_ n4_ n5_ n6_; clear hb hbox hg)))
  (try simp only [Act.put, List.setIfInBounds_toArray, List.set_cons_zero, List.set_cons_succ])
  go_cut [19] (fun v19 wc => ∃ (kq : Nat) (x19_2 : Bool), v19 = .bool x19_2 ∧ Aside0 (r02Same.j0 kq x19_2 a0_0 l0_1 a1_0 l1_1 = some r) ∧ Aside0 (kq ≤ k) ∧ Aside0 (wc.heap[gb248]? = some (.cells #[.int .i64 a0_0, (.slice A0_1 l0_1.length c0_1)] 24 (0, 0))) ∧ Aside0 (wc.heap[gb249]? = some (.cells #[.int .i64 a1_0, (.slice A1_1 l1_1.length c1_1)] 24 (0, 0))) ∧ Aside0 (Below w.heap.size w wc))
  case first =>
    have H := HC3.out
    clear HC3
    by_cases c6 : a0_0 = a1_0
    · rw [if_pos c6] at H
      have c6b0 : (a0_0 == a1_0) = true := beq_iff_eq.mpr c6
      have c6b1 : (a0_0 != a1_0) = false := bne_eq_false_iff_eq.mpr c6
      clear c6
      (first | rw [c6b0] | (simp only [i64_w, i32_w]; rw [c6b0]) | skip)
      have H' := Aside0.mk H
      clear H
      have hnb7 := NB248_249.out
      have hnc7 := NB249_248.out
      have hcz8_0 : w5.cell? ⟨gb248, 0, none⟩ = some (.int .i64 a0_0) := (blk_cell BK248.out 0).trans rfl
      have hcz8_1 : w5.cell? ⟨gb248, 1, none⟩ = some (.slice A0_1 l0_1.length c0_1) := (blk_cell BK248.out 1).trans rfl
      have hfz8_0 := blk_frozen BK248.out 0
      have hfz8_1 := blk_frozen BK248.out 1
      have hcz9_0 : w5.cell? ⟨gb249, 0, none⟩ = some (.int .i64 a1_0) := (blk_cell BK249.out 0).trans rfl
      have hcz9_1 : w5.cell? ⟨gb249, 1, none⟩ = some (.slice A1_1 l1_1.length c1_1) := (blk_cell BK249.out 1).trans rfl
      have hfz9_0 := blk_frozen BK249.out 0
      have hfz9_1 := blk_frozen BK249.out 1
      go_wp2
      repeat (go_quiet (fail); try go_wp2)
      go_meet
      case rel => exact ⟨_, (((l0_1.length : Int) != (l1_1.length : Int))), (by first | rfl | (simp; done) | (simp [*]; done)), H', ⟨by first | omega | exact Nat.le_refl _⟩, ⟨by (with_reducible repeat (first | refine blk_drewN ?_ _ | refine blk_drew ?_ | refine blk_alloc ?_ _)); exact BK248.out⟩, ⟨by (with_reducible repeat (first | refine blk_drewN ?_ _ | refine blk_drew ?_ | refine blk_alloc ?_ _)); exact BK249.out⟩, ⟨by repeat (first | (with_reducible first | exact HB.out | apply below_alloc | apply pw_below_drewN | apply below_drew1 | refine below_set ?_ GE248.out | refine below_set ?_ GE249.out) | exact HB.out)⟩⟩
    · rw [if_neg c6] at H
      have c6b0 : (a0_0 == a1_0) = false := beq_eq_false_iff_ne.mpr c6
      have c6b1 : (a0_0 != a1_0) = true := bne_iff_ne.mpr c6
      (first | rw [c6b0] | (simp only [i64_w, i32_w]; rw [c6b0]) | skip)
      have H' := Aside0.mk H
      clear H
      have hnb10 := NB248_249.out
      have hnc10 := NB249_248.out
      have hcz11_0 : w5.cell? ⟨gb248, 0, none⟩ = some (.int .i64 a0_0) := (blk_cell BK248.out 0).trans rfl
      have hcz11_1 : w5.cell? ⟨gb248, 1, none⟩ = some (.slice A0_1 l0_1.length c0_1) := (blk_cell BK248.out 1).trans rfl
      have hfz11_0 := blk_frozen BK248.out 0
      have hfz11_1 := blk_frozen BK248.out 1
      have hcz12_0 : w5.cell? ⟨gb249, 0, none⟩ = some (.int .i64 a1_0) := (blk_cell BK249.out 0).trans rfl
      have hcz12_1 : w5.cell? ⟨gb249, 1, none⟩ = some (.slice A1_1 l1_1.length c1_1) := (blk_cell BK249.out 1).trans rfl
      have hfz12_0 := blk_frozen BK249.out 0
      have hfz12_1 := blk_frozen BK249.out 1
      go_wp2
      repeat (go_quiet (fail); try go_wp2)
      go_meet
      case rel => exact ⟨_, (true), (by first | rfl | (simp; done) | (simp [*]; done)), H', ⟨by first | omega | exact Nat.le_refl _⟩, ⟨by (with_reducible repeat (first | refine blk_drewN ?_ _ | refine blk_drew ?_ | refine blk_alloc ?_ _)); exact BK248.out⟩, ⟨by (with_reducible repeat (first | refine blk_drewN ?_ _ | refine blk_drew ?_ | refine blk_alloc ?_ _)); exact BK249.out⟩, ⟨by repeat (first | (with_reducible first | exact HB.out | apply below_alloc | apply pw_below_drewN | apply below_drew1 | refine below_set ?_ GE248.out | refine below_set ?_ GE249.out) | exact HB.out)⟩⟩
  case rest =>
    clear HC3
    try clear c1
    try clear p2
    try clear c6
    try clear c6b0
    try clear c6b1
    try clear c7
    try clear c10
    try clear hcz11_0
    try clear hcz11_1
    try clear hcz12_0
    try clear hcz12_1
    try clear hcz8_0
    try clear hcz8_1
    try clear hcz9_0
    try clear hcz9_1
    try clear hfz11_0
    try clear hfz11_1
    try clear hfz12_0
    try clear hfz12_1
    try clear hfz8_0
    try clear hfz8_1
    try clear hfz9_0
    try clear hfz9_1
    obtain ⟨kq, x19_2, rfl, HA, HJ2, BK248, BK249, HB⟩ := hcut
    cases kq with
    | zero => exact absurd HA.out (by simp [r02Same.j0])
    | succ kj2 =>
      have H := HA.out
      clear HA
      simp only [r02Same.j0] at H
      by_cases c13 : x19_2 = true
      · subst c13
        have H1 : (some false) = some r := by rw [if_pos rfl] at H; exact H
        clear H
        have H := H1
        clear H1
        obtain rfl := Option.some.inj H
        go_wp2
        repeat (go_quiet (fail); try go_wp2)
        go_ret
        exact ⟨by first | rfl | (simp [errW_none, errW_some] <;> rfl) | (simp [*, errW_none, errW_some] <;> rfl), by repeat (first | (with_reducible first | exact HB.out | apply below_alloc | apply pw_below_drewN | apply below_drew1 | refine below_set ?_ GE248.out | refine below_set ?_ GE249.out) | exact HB.out)⟩
      · replace c13 := Bool.eq_false_iff.mpr c13
        subst c13
        have H1 : (r02Same.l0 kj2 0 a0_0 l0_1 a1_0 l1_1) = some r := by rw [if_neg (show ¬ (false = true) by decide)] at H; exact H
        clear H
        have H := H1
        clear H1
        have H' := Aside0.mk H
        clear H
        go_wp2
        repeat (go_quiet (fail); try go_wp2)
        go_loopg [5] kj2 (fun kq v5 w' => ∃ (x5_2 : Int), v5 = .int .i64 x5_2 ∧ Aside0 (r02Same.l0 kq x5_2 a0_0 l0_1 a1_0 l1_1 = some r) ∧ Aside0 (kq ≤ kj2) ∧ Aside0 (w'.heap[gb248]? = some (.cells #[.int .i64 a0_0, (.slice A0_1 l0_1.length c0_1)] 24 (0, 0))) ∧ Aside0 (w'.heap[gb249]? = some (.cells #[.int .i64 a1_0, (.slice A1_1 l1_1.length c1_1)] 24 (0, 0))) ∧ Aside0 (Below w.heap.size w w'))
        case atStart => exact ⟨(0), (by first | rfl | (simp; done) | (simp [*]; done)), H', ⟨Nat.le_refl _⟩, ⟨by (with_reducible repeat (first | refine blk_drewN ?_ _ | refine blk_drew ?_ | refine blk_alloc ?_ _)); exact BK248.out⟩, ⟨by (with_reducible repeat (first | refine blk_drewN ?_ _ | refine blk_drew ?_ | refine blk_alloc ?_ _)); exact BK249.out⟩, ⟨by repeat (first | (with_reducible first | exact HB.out | apply below_alloc | apply pw_below_drewN | apply below_drew1 | refine below_set ?_ GE248.out | refine below_set ?_ GE249.out) | exact HB.out)⟩⟩
        case round =>
          clear H'
          try clear c1
          try clear p2
          try clear c6
          try clear c6b0
          try clear c6b1
          try clear c7
          try clear c10
          try clear c13
          try clear hcz11_0
          try clear hcz11_1
          try clear hcz12_0
          try clear hcz12_1
          try clear hcz8_0
          try clear hcz8_1
          try clear hcz9_0
          try clear hcz9_1
          try clear hfz11_0
          try clear hfz11_1
          try clear hfz12_0
          try clear hfz12_1
          try clear hfz8_0
          try clear hfz8_1
          try clear hfz9_0
          try clear hfz9_1
          try clear p2
          obtain ⟨x5_2, rfl, HA, HK2, BK248, BK249, HB⟩ := hrel
          cases gk with
          | zero => exact absurd HA.out (by simp [r02Same.l0])
          | succ k2 =>
            have H := HA.out
            clear HA
            simp only [r02Same.l0] at H
            by_cases c14 : x5_2 < (l0_1.length : Int)
            · rw [if_pos c14] at H
              have c14b0 : decide (x5_2 < (l0_1.length : Int)) = true := decide_eq_true c14
              clear c14
              by_cases c15 : 0 ≤ x5_2
              · rw [if_pos c15] at H
                have c15b0 : decide (0 ≤ x5_2) = true := decide_eq_true c15
                clear c15
                by_cases c16 : x5_2 < (l1_1.length : Int)
                · rw [if_pos c16] at H
                  have c16b0 : decide (x5_2 < (l1_1.length : Int)) = true := decide_eq_true c16
                  clear c16
                  by_cases c17 : (rd l0_1 x5_2) = (rd l1_1 x5_2)
                  · rw [if_pos c17] at H
                    have c17b0 : ((rd l0_1 x5_2) == (rd l1_1 x5_2)) = true := beq_iff_eq.mpr c17
                    have c17b1 : ((rd l0_1 x5_2) != (rd l1_1 x5_2)) = false := bne_eq_false_iff_eq.mpr c17
                    clear c17
                    have H' := Aside0.mk H
                    clear H
                    have hnb18 := NB248_249.out
                    have hnc18 := NB249_248.out
                    have hcz19_0 : wr.cell? ⟨gb248, 0, none⟩ = some (.int .i64 a0_0) := (blk_cell BK248.out 0).trans rfl
                    have hcz19_1 : wr.cell? ⟨gb248, 1, none⟩ = some (.slice A0_1 l0_1.length c0_1) := (blk_cell BK248.out 1).trans rfl
                    have hfz19_0 := blk_frozen BK248.out 0
                    have hfz19_1 := blk_frozen BK248.out 1
                    have p250 : 0 ≤ (x5_2 : Int) := of_decide_eq_true (by first | (with_reducible assumption) | assumption)
                    have q250 : x5_2 < (l0_1.length : Int) := of_decide_eq_true (by first | (with_reducible assumption) | assumption)
                    obtain ⟨ad250, e250, hx250_0⟩ := Kd.at_int HR0_1.out x5_2 p250 q250
                    cases e250
                    replace hx250_0 := (HB.out.cell (World.block_lt_of_cell? w _ hx250_0)).trans hx250_0
                    replace p250 := eq_true p250
                    replace q250 := eq_true q250
                    have hcz20_0 : wr.cell? ⟨gb249, 0, none⟩ = some (.int .i64 a1_0) := (blk_cell BK249.out 0).trans rfl
                    have hcz20_1 : wr.cell? ⟨gb249, 1, none⟩ = some (.slice A1_1 l1_1.length c1_1) := (blk_cell BK249.out 1).trans rfl
                    have hfz20_0 := blk_frozen BK249.out 0
                    have hfz20_1 := blk_frozen BK249.out 1
                    have p251 : 0 ≤ (x5_2 : Int) := of_decide_eq_true (by first | (with_reducible assumption) | assumption)
                    have q251 : x5_2 < (l1_1.length : Int) := of_decide_eq_true (by first | (with_reducible assumption) | assumption)
                    obtain ⟨ad251, e251, hx251_0⟩ := Kd.at_int HR1_1.out x5_2 p251 q251
                    cases e251
                    replace hx251_0 := (HB.out.cell (World.block_lt_of_cell? w _ hx251_0)).trans hx251_0
                    replace p251 := eq_true p251
                    replace q251 := eq_true q251
                    go_wp2
                    repeat (go_quiet (fail); try go_wp2)
                    go_roundg k2
                    case measure => have := HJ2.out; have := HK2.out; omega
                    case rel => exact ⟨(wrap64 (x5_2 + 1)), (by first | rfl | (simp; done) | (simp [*]; done)), H', ⟨by have := HJ2.out; have := HK2.out; omega⟩, ⟨by (with_reducible repeat (first | refine blk_drewN ?_ _ | refine blk_drew ?_ | refine blk_alloc ?_ _)); exact BK248.out⟩, ⟨by (with_reducible repeat (first | refine blk_drewN ?_ _ | refine blk_drew ?_ | refine blk_alloc ?_ _)); exact BK249.out⟩, ⟨by repeat (first | (with_reducible first | exact HB.out | apply below_alloc | apply pw_below_drewN | apply below_drew1 | refine below_set ?_ GE248.out | refine below_set ?_ GE249.out) | exact HB.out)⟩⟩
                  · rw [if_neg c17] at H
                    have c17b0 : ((rd l0_1 x5_2) == (rd l1_1 x5_2)) = false := beq_eq_false_iff_ne.mpr c17
                    have c17b1 : ((rd l0_1 x5_2) != (rd l1_1 x5_2)) = true := bne_iff_ne.mpr c17
                    obtain rfl := Option.some.inj H
                    have hnb21 := NB248_249.out
                    have hnc21 := NB249_248.out
                    have hcz22_0 : wr.cell? ⟨gb248, 0, none⟩ = some (.int .i64 a0_0) := (blk_cell BK248.out 0).trans rfl
                    have hcz22_1 : wr.cell? ⟨gb248, 1, none⟩ = some (.slice A0_1 l0_1.length c0_1) := (blk_cell BK248.out 1).trans rfl
                    have hfz22_0 := blk_frozen BK248.out 0
                    have hfz22_1 := blk_frozen BK248.out 1
                    have p250 : 0 ≤ (x5_2 : Int) := of_decide_eq_true (by first | (with_reducible assumption) | assumption)
                    have q250 : x5_2 < (l0_1.length : Int) := of_decide_eq_true (by first | (with_reducible assumption) | assumption)
                    obtain ⟨ad250, e250, hx250_0⟩ := Kd.at_int HR0_1.out x5_2 p250 q250
                    cases e250
                    replace hx250_0 := (HB.out.cell (World.block_lt_of_cell? w _ hx250_0)).trans hx250_0
                    replace p250 := eq_true p250
                    replace q250 := eq_true q250
                    have hcz23_0 : wr.cell? ⟨gb249, 0, none⟩ = some (.int .i64 a1_0) := (blk_cell BK249.out 0).trans rfl
                    have hcz23_1 : wr.cell? ⟨gb249, 1, none⟩ = some (.slice A1_1 l1_1.length c1_1) := (blk_cell BK249.out 1).trans rfl
                    have hfz23_0 := blk_frozen BK249.out 0
                    have hfz23_1 := blk_frozen BK249.out 1
                    have p251 : 0 ≤ (x5_2 : Int) := of_decide_eq_true (by first | (with_reducible assumption) | assumption)
                    have q251 : x5_2 < (l1_1.length : Int) := of_decide_eq_true (by first | (with_reducible assumption) | assumption)
                    obtain ⟨ad251, e251, hx251_0⟩ := Kd.at_int HR1_1.out x5_2 p251 q251
                    cases e251
                    replace hx251_0 := (HB.out.cell (World.block_lt_of_cell? w _ hx251_0)).trans hx251_0
                    replace p251 := eq_true p251
                    replace q251 := eq_true q251
                    go_wp2
                    repeat (go_quiet (fail); try go_wp2)
                    go_ret
                    exact ⟨by first | rfl | (simp [errW_none, errW_some] <;> rfl) | (simp [*, errW_none, errW_some] <;> rfl), by repeat (first | (with_reducible first | exact HB.out | apply below_alloc | apply pw_below_drewN | apply below_drew1 | refine below_set ?_ GE248.out | refine below_set ?_ GE249.out) | exact HB.out)⟩
                · rw [if_neg c16] at H
                  exact absurd H (by simp)
              · rw [if_neg c15] at H
                exact absurd H (by simp)
            · rw [if_neg c14] at H
              have c14b0 : decide (x5_2 < (l0_1.length : Int)) = false := decide_eq_false c14
              clear c14
              obtain rfl := Option.some.inj H
              have hnb24 := NB248_249.out
              have hnc24 := NB249_248.out
              have hcz25_0 : wr.cell? ⟨gb248, 0, none⟩ = some (.int .i64 a0_0) := (blk_cell BK248.out 0).trans rfl
              have hcz25_1 : wr.cell? ⟨gb248, 1, none⟩ = some (.slice A0_1 l0_1.length c0_1) := (blk_cell BK248.out 1).trans rfl
              have hfz25_0 := blk_frozen BK248.out 0
              have hfz25_1 := blk_frozen BK248.out 1
              go_wp2
              repeat (go_quiet (fail); try go_wp2)
              go_ret
              exact ⟨by first | rfl | (simp [errW_none, errW_some] <;> rfl) | (simp [*, errW_none, errW_some] <;> rfl), by repeat (first | (with_reducible first | exact HB.out | apply below_alloc | apply pw_below_drewN | apply below_drew1 | refine below_set ?_ GE248.out | refine below_set ?_ GE249.out) | exact HB.out)⟩
end Go.Proofs.YthpldfjjdmjcoaaDoor.P

namespace Go.Proofs.YthpldfjjdmjcoaaDoor.P
open Go.RowKit Go.Proofs.YthpldfjjdmjcoaaDoorW.PrintWords Go.Proofs.YthpldfjjdmjcoaaDoorW.PrintLast Go.Proofs.YthpldfjjdmjcoaaDoorW.PrintMore
theorem and_nat (a b : Nat) (ha : a < 18446744073709551616) (hb : b < 18446744073709551616) : Go.bits .and .u64 (a : Int) (b : Int) = ((a &&& b : Nat) : Int) := by
  show IntKind.u64.wrap ((BitVec.ofInt 64 (a : Int) &&& BitVec.ofInt 64 (b : Int)).toNat : Int) = _
  rw [wrap_bv, BitVec.toNat_and, ofInt_toNat ⟨by omega, by omega⟩, ofInt_toNat ⟨by omega, by omega⟩]
  rfl
theorem wrap_nat (a : Nat) (h : a < 18446744073709551616) : IntKind.u64.wrap (a : Int) = a := by rw [IntKind.wrap_u64]; omega
theorem ones_eq (a : Nat) (ha : a < 18446744073709551616) : bits_OnesCount64.f a = some (Pop.pop 64 a : Int) := by
  unfold bits_OnesCount64.f
  have m1 : (6148914691236517205 : Int) = ((6148914691236517205 : Nat) : Int) := rfl
  have m2 : (3689348814741910323 : Int) = ((3689348814741910323 : Nat) : Int) := rfl
  have m3 : (1085102592571150095 : Int) = ((1085102592571150095 : Nat) : Int) := rfl
  have d1 : (a : Int) / 2 = ((a / 2 : Nat) : Int) := by omega
  have l1 : a / 2 &&& 6148914691236517205 ≤ 6148914691236517205 := Nat.and_le_right
  have l2 : a &&& 6148914691236517205 ≤ 6148914691236517205 := Nat.and_le_right
  rw [m1, d1, and_nat _ _ (by omega) (by decide), and_nat _ _ ha (by decide)]
  obtain ⟨y, hy⟩ : ∃ y, y = (a / 2 &&& 6148914691236517205) + (a &&& 6148914691236517205) := ⟨_, rfl⟩
  have e3 : IntKind.u64.wrap (((a / 2 &&& 6148914691236517205 : Nat) : Int) + ((a &&& 6148914691236517205 : Nat) : Int)) = (y : Int) := by
    rw [← Int.natCast_add, ← hy, wrap_nat _ (by omega)]
  rw [e3]
  have hyl : y < 18446744073709551616 := by omega
  have d2 : (y : Int) / 4 = ((y / 4 : Nat) : Int) := by omega
  have l3 : y / 4 &&& 3689348814741910323 ≤ 3689348814741910323 := Nat.and_le_right
  have l4 : y &&& 3689348814741910323 ≤ 3689348814741910323 := Nat.and_le_right
  rw [m2, d2, and_nat _ _ (by omega) (by decide), and_nat _ _ hyl (by decide)]
  obtain ⟨z, hz⟩ : ∃ z, z = (y / 4 &&& 3689348814741910323) + (y &&& 3689348814741910323) := ⟨_, rfl⟩
  have e4 : IntKind.u64.wrap (((y / 4 &&& 3689348814741910323 : Nat) : Int) + ((y &&& 3689348814741910323 : Nat) : Int)) = (z : Int) := by
    rw [← Int.natCast_add, ← hz, wrap_nat _ (by omega)]
  rw [e4]
  have d3 : (z : Int) / 16 = ((z / 16 : Nat) : Int) := by omega
  have e5 : IntKind.u64.wrap ((z : Int) / 16 + z) = ((z / 16 + z : Nat) : Int) := by
    rw [d3, ← Int.natCast_add, wrap_nat _ (by omega)]
  rw [e5, m3, and_nat _ _ (by omega) (by decide)]
  obtain ⟨s, hs⟩ : ∃ s, s = (z / 16 + z) &&& 1085102592571150095 := ⟨_, rfl⟩
  rw [← hs]
  obtain ⟨t, ht, u, hu, v, hv, hp, b1, b2, b3⟩ := Pop.swar a y z s ha hy hz hs
  have e6 : IntKind.u64.wrap ((s : Int) + (s : Int) / 256) = (t : Int) := by
    rw [show (s : Int) + (s : Int) / 256 = ((s + s / 256 : Nat) : Int) by omega, ht, wrap_nat _ b1]
  rw [e6]
  have e7 : IntKind.u64.wrap ((t : Int) + (t : Int) / 65536) = (u : Int) := by
    rw [show (t : Int) + (t : Int) / 65536 = ((t + t / 65536 : Nat) : Int) by omega, hu, wrap_nat _ b2]
  rw [e7]
  have e8 : IntKind.u64.wrap ((u : Int) + (u : Int) / 4294967296) = (v : Int) := by
    rw [show (u : Int) + (u : Int) / 4294967296 = ((u + u / 4294967296 : Nat) : Int) by omega, hv, wrap_nat _ b3]
  rw [e8]
  congr 1
  rw [← hp]
  have hw : (BitVec.ofInt 64 (wrap64 (v : Int))).toNat = v := by
    have h64 : ((2 ^ 64 : Nat) : Int) = 18446744073709551616 := by decide
    rw [BitVec.toNat_ofInt, h64]
    clear hp ht hu hv hy hz hs e3 e4 e5 e6 e7 e8 l1 l2 l3 l4 d1 d2 d3 b1 b2
    unfold wrap64
    omega
  show IntKind.i64.wrap ((BitVec.ofInt 64 (wrap64 (v : Int)) &&& BitVec.ofInt 64 127).toNat : Int) = _
  rw [BitVec.toNat_and, hw]
  have h127 : (BitVec.ofInt 64 127).toNat = 2 ^ 7 - 1 := by decide
  rw [h127, Nat.and_two_pow_sub_one_eq_mod]
  rw [i64_w, w64 _ (by omega) (by omega)]
/-- How many of the first n bits are set. -/
def cntR (ws : List Int) : Nat → Nat
  | 0 => 0
  | n + 1 => cntR ws n + (if tb ws n then 1 else 0)
theorem cntR_le (ws : List Int) : ∀ n, cntR ws n ≤ n
  | 0 => Nat.le_refl _
  | n + 1 => by have := cntR_le ws n; rw [cntR]; split <;> omega
theorem cntR_word (ws : List Int) (i : Nat) : ∀ m, m ≤ 64 → cntR ws (64 * i + m) = cntR ws (64 * i) + Pop.pop m (ws.getD i 0).toNat
  | 0, _ => rfl
  | m + 1, h => by
    rw [← Nat.add_assoc, cntR, cntR_word ws i m (by omega), Pop.pop, Nat.add_assoc]
    congr 2
    unfold tb wbit
    rw [show (64 * i + m) / 64 = i by omega, show (64 * i + m) % 64 = m by omega]
theorem cntR_clear {ws : List Int} {a : Nat} : ∀ n, (∀ i, a ≤ i → tb ws i = false) → cntR ws (a + n) = cntR ws a
  | 0, _ => rfl
  | n + 1, h => by rw [← Nat.add_assoc, cntR, cntR_clear n h, h _ (by omega)]; rfl
theorem bcount_loop {ws : List Int} (hU : U ws) (hl : ws.length ≤ 64) : ∀ (n k i : Nat), i + n = ws.length → n < k → bCount.l0 k (cntR ws (64 * i) : Nat) ws ws.length i = some ((cntR ws (64 * ws.length) : Nat) : Int) := by
  intro n
  induction n with
  | zero =>
    intro k i hi hk
    obtain ⟨k, rfl⟩ : ∃ m, k = m + 1 := ⟨k - 1, by omega⟩
    rw [bCount.l0, if_neg (by omega), show i = ws.length by omega]
  | succ n ih =>
    intro k i hi hk
    obtain ⟨k, rfl⟩ : ∃ m, k = m + 1 := ⟨k - 1, by omega⟩
    have hu := getD_U hU i
    have hx : ws.getD i 0 = (((ws.getD i 0).toNat : Nat) : Int) := by have := hu.1; omega
    have hw := cntR_word ws i 64 (Nat.le_refl _)
    have hle := cntR_le ws (64 * i + 64)
    rw [bCount.l0, if_pos (by omega), if_pos (by omega), if_pos (by omega), rd_nat, hx, ones_eq _ (by have := hu.2; have := hu.1; omega), Option.bind_some, wsucc i (by omega)]
    have e : wrap64 ((cntR ws (64 * i) : Int) + (Pop.pop 64 (ws.getD i 0).toNat : Int)) = ((cntR ws (64 * (i + 1)) : Nat) : Int) := by
      rw [w64 _ (by omega) (by omega), show 64 * (i + 1) = 64 * i + 64 by omega]
      omega
    rw [e, ih k (i + 1) (by omega) (by omega)]
/-- How many elements. -/
def countS (size : Int) (ws : List Int) : Int := if good size ws then (cntR ws size.toNat : Int) else 0
theorem cntR_good {size : Int} {ws : List Int} (hU : U ws) (g : Good size ws) : cntR ws (64 * ws.length) = cntR ws size.toNat := by
  have := g.le
  have h0 := g.lo
  have := cntR_clear (ws := ws) (a := size.toNat) (64 * ws.length - size.toNat) (fun i hi => g.clear hU hi)
  rw [← this]; congr 1; omega
theorem bcount_eq {size : Int} {ws : List Int} (hU : U ws) {k : Nat} (hk : 5000 ≤ k) : bCount.f k size ws = some (countS size ws) := by
  unfold bCount.f countS
  rw [show k = (k - 1) + 1 by omega, bcheck_eq, Option.bind_some]
  by_cases hg : good size ws = true
  · have g := (good_iff _ _).1 hg
    rw [if_pos hg, if_pos rfl, if_pos hg, ← cntR_good hU g]
    exact bcount_loop hU g.len_le ws.length _ 0 (by omega) (by have := g.len_le; omega)
  · rw [if_neg hg, if_neg (by decide), if_neg hg]
theorem same_loop (a b : Int) (l : List Int) (hl : l.length ≤ 100000) : ∀ (n k i : Nat), i + n = l.length → n < k → r02Same.l0 k i a l b l = some true := by
  intro n
  induction n with
  | zero =>
    intro k i hi hk
    obtain ⟨k, rfl⟩ : ∃ m, k = m + 1 := ⟨k - 1, by omega⟩
    rw [r02Same.l0, if_neg (by omega)]
  | succ n ih =>
    intro k i hi hk
    obtain ⟨k, rfl⟩ : ∃ m, k = m + 1 := ⟨k - 1, by omega⟩
    rw [r02Same.l0, if_pos (by omega), if_pos (by omega), if_pos (by omega), if_pos rfl, wsucc i (by omega), ih k (i + 1) (by omega) (by omega)]
theorem same_eq (a : Int) (l : List Int) {k : Nat} (hl : l.length ≤ 4000) (hk : 5000 ≤ k) : r02Same.f k a l a l = some true := by
  obtain ⟨k, rfl⟩ : ∃ m, k = m + 1 := ⟨k - 1, by omega⟩
  unfold r02Same.f
  rw [if_pos rfl, show ((l.length : Int) != (l.length : Int)) = false by simp, r02Same.j0, if_neg (by decide)]
  exact same_loop a a l (by omega) l.length k 0 (by omega) (by omega)
theorem few_two (x y : S24) {k : Nat} (hk : 5000 ≤ k) : l02few.f k [x, y] = some (decide (x.f1.length ≤ 20 ∧ y.f1.length ≤ 20)) := by
  obtain ⟨k, rfl⟩ : ∃ m, k = m + 3 := ⟨k - 3, by omega⟩
  unfold l02few.f
  rw [l02few.l0, if_pos (by simp), if_pos (by decide), show rd_T24 [x, y] 0 = x from rfl]
  by_cases h : (x.f1.length : Int) > 20
  · rw [if_pos h, decide_eq_false (by omega)]
  · rw [if_neg h, show wrap64 (0 + 1) = 1 from w64 _ (by decide) (by decide), l02few.l0, if_pos (by simp), if_pos (by decide), show rd_T24 [x, y] 1 = y from rfl]
    by_cases h2 : (y.f1.length : Int) > 20
    · rw [if_pos h2, decide_eq_false (by omega)]
    · rw [if_neg h2, decide_eq_true (by omega), show wrap64 (1 + 1) = 2 from w64 _ (by decide) (by decide), l02few.l0, if_neg (by simp)]
end Go.Proofs.YthpldfjjdmjcoaaDoor.P

namespace Go.Proofs.YthpldfjjdmjcoaaDoor.P
open Go.RowKit Go.Proofs.YthpldfjjdmjcoaaDoorW.PrintWords Go.Proofs.YthpldfjjdmjcoaaDoorW.PrintLast Go.Proofs.YthpldfjjdmjcoaaDoorW.PrintMore
theorem awake100 : l02awake.f 100 = some true := by kernel_rfl
theorem awake_eq {k : Nat} (hk : 5000 ≤ k) : l02awake.f k = some true := by
  obtain ⟨n, rfl⟩ : ∃ n, k = 100 + n := ⟨k - 100, by omega⟩
  clear hk
  induction n with
  | zero => exact awake100
  | succ n ih => exact l02awake.mono _ _ ih
end Go.Proofs.YthpldfjjdmjcoaaDoor.P

namespace Go.Proofs.YthpldfjjdmjcoaaDoor.P
open Go.RowKit Go.Proofs.YthpldfjjdmjcoaaDoorW.PrintWords Go.Proofs.YthpldfjjdmjcoaaDoorW.PrintLast Go.Proofs.YthpldfjjdmjcoaaDoorW.PrintMore
set_option maxHeartbeats 2000000 in
set_option maxRecDepth 100000 in
theorem both_bad1 (n : Int) (A : Option Addr) (c : Nat) (xs : List Int) (m : Int) (B : Option Addr) (d : Nat) (ys : List Int) (w : World) (hr : Kd.C (Kd.int .u64) w A xs.length xs) (hc : xs.length ≤ c) (he : bCheck.f 1 n xs = some 3) (v : Value) :
    Calls Tryd.prog 47 #[.agg #[.int .i64 n, .slice A xs.length c], .agg #[.int .i64 m, .slice B ys.length d], v] w fun e w' => e = .returned (.tuple #[.agg #[.int .i64 0, .slice none 0 0], .int .i64 3]) ∧ Below w.heap.size w w' := by
  have HR := Aside0.mk hr
  have HC := Aside0.mk hc
  have HE := Aside0.mk he
  clear hr hc he
  go_enter Tryd.func47, Tryd.ntmps47
  go_wp2_with fail
  obtain ⟨W, hW, hB, -, h0, h1, h2⟩ := new3 w (Obj.cells #[Value.int IntKind.i64 n, Value.slice A xs.length c] 24) (Obj.cells #[Value.int IntKind.i64 m, Value.slice B ys.length d] 24) (Obj.cells #[Value.int IntKind.i64 0, Value.slice none 0 0] 24)
  rw [hW]
  have HB := Aside0.mk hB
  have B2 := Aside0.mk h2
  clear hW hB h0 h1 h2
  refine (bCheck.calls 1 n _ c xs 3 W (Kd.C_below HR.out HB.out) HC.out HE.out).mono ?_
  rintro e w1 ⟨rfl, hb1⟩
  obtain ⟨c30, c31, f30, f31⟩ := cells2 (blk_of_below B2.out hb1)
  have HB1 := Aside0.mk (below_step HB.out hb1)
  clear hb1
  go_wp2_with fail
  refine bodyPost_ret (v := .tuple #[.agg #[.int .i64 0, .slice none 0 0], .int .i64 3]) ?_ rfl ⟨rfl, ?_⟩
  · simp [results, Tryd.results47, go_sem, *]
  · exact (HB1.out.setCell (p := ⟨w.heap.size + 1 + 1, 0, none⟩) (show w.heap.size ≤ w.heap.size + 1 + 1 by omega) _).setCell (p := ⟨w.heap.size + 1 + 1, 1, none⟩) (show w.heap.size ≤ w.heap.size + 1 + 1 by omega) _
set_option maxHeartbeats 2000000 in
set_option maxRecDepth 100000 in
theorem both_bad2 (n : Int) (A : Option Addr) (c : Nat) (xs : List Int) (m : Int) (B : Option Addr) (d : Nat) (ys : List Int) (w : World) (hr : Kd.C (Kd.int .u64) w A xs.length xs) (hc : xs.length ≤ c) (hr2 : Kd.C (Kd.int .u64) w B ys.length ys) (hc2 : ys.length ≤ d) (he : bCheck.f 1 n xs = some 0) (he2 : bCheck.f 1 m ys = some 3) (v : Value) :
    Calls Tryd.prog 47 #[.agg #[.int .i64 n, .slice A xs.length c], .agg #[.int .i64 m, .slice B ys.length d], v] w fun e w' => e = .returned (.tuple #[.agg #[.int .i64 0, .slice none 0 0], .int .i64 3]) ∧ Below w.heap.size w w' := by
  have HR := Aside0.mk hr
  have HC := Aside0.mk hc
  have HE := Aside0.mk he
  have HR2 := Aside0.mk hr2
  have HC2 := Aside0.mk hc2
  have HE2 := Aside0.mk he2
  clear hr hc he hr2 hc2 he2
  go_enter Tryd.func47, Tryd.ntmps47
  go_wp2_with fail
  obtain ⟨W, hW, hB, -, h0, h1, h2⟩ := new3 w (Obj.cells #[Value.int IntKind.i64 n, Value.slice A xs.length c] 24) (Obj.cells #[Value.int IntKind.i64 m, Value.slice B ys.length d] 24) (Obj.cells #[Value.int IntKind.i64 0, Value.slice none 0 0] 24)
  rw [hW]
  have HB := Aside0.mk hB
  have B1 := Aside0.mk h1
  have B2 := Aside0.mk h2
  clear hW hB h0 h1 h2
  refine (bCheck.calls 1 n _ c xs 0 W (Kd.C_below HR.out HB.out) HC.out HE.out).mono ?_
  rintro e w1 ⟨rfl, hb1⟩
  have B2' := Aside0.mk (blk_of_below B2.out hb1)
  obtain ⟨c10, c11, -, -⟩ := cells2 (blk_of_below B1.out hb1)
  have HB1 := Aside0.mk (below_step HB.out hb1)
  clear hb1
  go_wp2_with fail
  refine (bCheck.calls 1 m _ d ys 3 w1 (Kd.C_below HR2.out HB1.out) HC2.out HE2.out).mono ?_
  rintro e w2 ⟨rfl, hb1⟩
  obtain ⟨c30, c31, f30, f31⟩ := cells2 (blk_of_below B2'.out hb1)
  have HB2 := Aside0.mk (below_step HB1.out hb1)
  clear hb1 c10 c11
  go_wp2_with fail
  refine bodyPost_ret (v := .tuple #[.agg #[.int .i64 0, .slice none 0 0], .int .i64 3]) ?_ rfl ⟨rfl, ?_⟩
  · simp [results, Tryd.results47, go_sem, *]
  · exact (HB2.out.setCell (p := ⟨w.heap.size + 1 + 1, 0, none⟩) (show w.heap.size ≤ w.heap.size + 1 + 1 by omega) _).setCell (p := ⟨w.heap.size + 1 + 1, 1, none⟩) (show w.heap.size ≤ w.heap.size + 1 + 1 by omega) _
set_option maxHeartbeats 4000000 in
set_option maxRecDepth 100000 in
theorem both_good (n : Int) (A : Option Addr) (c : Nat) (xs : List Int) (m : Int) (B : Option Addr) (d : Nat) (ys : List Int) (w : World) (hr : Kd.C (Kd.int .u64) w A xs.length xs) (hc : xs.length ≤ c) (hr2 : Kd.C (Kd.int .u64) w B ys.length ys) (hc2 : ys.length ≤ d) (he : bCheck.f 1 n xs = some 0) (he2 : bCheck.f 1 m ys = some 0) (hne : ¬ n = m) (v : Value) :
    Calls Tryd.prog 47 #[.agg #[.int .i64 n, .slice A xs.length c], .agg #[.int .i64 m, .slice B ys.length d], v] w fun e w' => e = .returned (.tuple #[.agg #[.int .i64 0, .slice none 0 0], .int .i64 22]) ∧ Below w.heap.size w w' := by
  have hq1 : (n != m) = true := by simpa using hne
  have hq2 : (n == m) = false := by simpa using hne
  have HR := Aside0.mk hr
  have HC := Aside0.mk hc
  have HE := Aside0.mk he
  have HR2 := Aside0.mk hr2
  have HC2 := Aside0.mk hc2
  have HE2 := Aside0.mk he2
  clear hr hc he hr2 hc2 he2 hne
  go_enter Tryd.func47, Tryd.ntmps47
  go_wp2_with fail
  obtain ⟨W, hW, hB, -, h0, h1, h2⟩ := new3 w (Obj.cells #[Value.int IntKind.i64 n, Value.slice A xs.length c] 24) (Obj.cells #[Value.int IntKind.i64 m, Value.slice B ys.length d] 24) (Obj.cells #[Value.int IntKind.i64 0, Value.slice none 0 0] 24)
  rw [hW]
  have HB := Aside0.mk hB
  have B0 := Aside0.mk h0
  have B1 := Aside0.mk h1
  have B2 := Aside0.mk h2
  clear hW hB h0 h1 h2
  refine (bCheck.calls 1 n _ c xs 0 W (Kd.C_below HR.out HB.out) HC.out HE.out).mono ?_
  rintro e w1 ⟨rfl, hb1⟩
  have B0' := Aside0.mk (blk_of_below B0.out hb1)
  have B1' := Aside0.mk (blk_of_below B1.out hb1)
  have B2' := Aside0.mk (blk_of_below B2.out hb1)
  obtain ⟨c10, c11, -, -⟩ := cells2 (blk_of_below B1.out hb1)
  have HB1 := Aside0.mk (below_step HB.out hb1)
  clear hb1 B0 B1 B2
  go_wp2_with fail
  refine (bCheck.calls 1 m _ d ys 0 w1 (Kd.C_below HR2.out HB1.out) HC2.out HE2.out).mono ?_
  rintro e w2 ⟨rfl, hb1⟩
  obtain ⟨c00, c01, -, -⟩ := cells2 (blk_of_below B0'.out hb1)
  obtain ⟨c10', c11', -, -⟩ := cells2 (blk_of_below B1'.out hb1)
  obtain ⟨c30, c31, f30, f31⟩ := cells2 (blk_of_below B2'.out hb1)
  have HB2 := Aside0.mk (below_step HB1.out hb1)
  clear hb1 c10 c11
  go_wp2_with fail
  refine bodyPost_ret (v := .tuple #[.agg #[.int .i64 0, .slice none 0 0], .int .i64 22]) ?_ rfl ⟨rfl, ?_⟩
  · simp [results, Tryd.results47, go_sem, *]
  · exact (HB2.out.setCell (p := ⟨w.heap.size + 1 + 1, 0, none⟩) (show w.heap.size ≤ w.heap.size + 1 + 1 by omega) _).setCell (p := ⟨w.heap.size + 1 + 1, 1, none⟩) (show w.heap.size ≤ w.heap.size + 1 + 1 by omega) _
/-- After k words, of a new row. -/
def fill (zs : List Int) (k : Nat) : List Int := zs.take k ++ List.replicate (zs.length - k) 0
theorem fill_zero (zs : List Int) : fill zs 0 = List.replicate zs.length 0 := by simp [fill]
theorem fill_all (zs : List Int) : fill zs zs.length = zs := by simp [fill]
theorem fill_length (zs : List Int) (k : Nat) (hk : k ≤ zs.length) : (fill zs k).length = zs.length := by simp [fill]; omega
theorem fill_succ (zs : List Int) (k : Nat) (hk : k < zs.length) : (fill zs k).set k (zs.getD k 0) = fill zs (k + 1) := by
  apply List.ext_getElem?
  intro i
  rw [List.getElem?_set]
  have hl := fill_length zs k (by omega)
  by_cases hi : k = i
  · subst hi
    rw [if_pos rfl, if_pos (by omega)]
    unfold fill
    rw [List.getElem?_append_left (by simp; omega), List.getElem?_take_of_lt (by omega)]
    simp [hk]
  · rw [if_neg hi]
    unfold fill
    by_cases hik : i < k
    · rw [List.getElem?_append_left (by simp; omega), List.getElem?_append_left (by simp; omega), List.getElem?_take_of_lt hik, List.getElem?_take_of_lt (by omega)]
    · rw [List.getElem?_append_right (by simp; omega), List.getElem?_append_right (by simp; omega)]
      simp only [List.length_take, Nat.min_eq_left (Nat.le_of_lt hk), Nat.min_eq_left (show k + 1 ≤ zs.length by omega), List.getElem?_replicate]
      by_cases h : i < zs.length
      · rw [if_pos (by omega), if_pos (by omega)]
      · rw [if_neg (by omega), if_neg (by omega)]
/-- A number of a row that is read. -/
theorem read_at {w : World} {A : Option Addr} {xs : List Int} (h : Kd.C (Kd.int .u64) w A xs.length xs) {k : Nat} (hk : k < xs.length) : ∃ ad, A = some ad ∧ w.cell? (ad.add k) = some (.int .u64 (xs.getD k 0)) := by
  obtain ⟨ad, e, h⟩ := h.2.2 (by omega)
  obtain ⟨cs, hl, hk', hcell⟩ := h k _ (List.getElem?_eq_getElem hk)
  have hcs : cs = [Value.int .u64 xs[k]] := hk'
  subst hcs
  have := hcell 0 _ rfl
  refine ⟨ad, e, ?_⟩
  simpa [List.getD, hk, show (Kd.int .u64).sz = 1 from rfl] using this
theorem or_op (a b : Int) (w : World) : Calls Tryd.prog 48 #[.int .u64 a, .int .u64 b] w fun e w' => e = .returned (.int .u64 (Go.bits .or .u64 a b)) ∧ w' = w := by
  go_enter Tryd.func48, Tryd.ntmps48
  go_wp2
  go_ret
  exact ⟨rfl, rfl⟩
set_option maxHeartbeats 4000000 in
set_option maxRecDepth 100000 in
theorem or_ok (n : Int) (A : Option Addr) (c : Nat) (xs : List Int) (B : Option Addr) (d : Nat) (ys : List Int) (w : World) (hr : Kd.C (Kd.int .u64) w A xs.length xs) (hc : xs.length ≤ c) (hr2 : Kd.C (Kd.int .u64) w B ys.length ys) (hc2 : ys.length ≤ d) (he : bCheck.f 1 n xs = some 0) (he2 : bCheck.f 1 n ys = some 0)
    (hlen : xs.length ≤ 100) (hxy : xs.length = ys.length) :
    Calls Tryd.prog 47 #[.agg #[.int .i64 n, .slice A xs.length c], .agg #[.int .i64 n, .slice B ys.length d], .func (.func 48) #[] #[]] w fun e w' => ∃ v1_ : Value, e = .returned (.tuple #[.agg #[.int .i64 n, v1_], .int .i64 0]) ∧ Kd.R (Kd.int .u64) 55 w' w.heap.size (fun _ => True) v1_ (List.zipWith (Go.bits .or .u64) xs ys) ∧ Below w.heap.size w w' := by
  have HR := Aside0.mk hr
  have HC := Aside0.mk hc
  have HE := Aside0.mk he
  have HR2 := Aside0.mk hr2
  have HC2 := Aside0.mk hc2
  have HE2 := Aside0.mk he2
  have HXY := Aside0.mk hxy
  have hmk := print_make (P := Tryd.prog) 22 55 .u64 8 Tryd.underlying22 infoU64 (by decide) xs.length (by omega)
  obtain ⟨zs, hz⟩ : ∃ zs, zs = List.zipWith (Go.bits .or .u64) xs ys := ⟨_, rfl⟩
  have hzl : zs.length = xs.length := by rw [hz]; simp; omega
  have HZ := Aside0.mk hz
  have HZL := Aside0.mk hzl
  rw [← hz]
  clear hr hc he hr2 hc2 he2 hxy hz hzl
  go_enter Tryd.func47, Tryd.ntmps47
  go_wp2_with fail
  obtain ⟨W, hW, hB, -, h0, h1, h2⟩ := new3 w (Obj.cells #[Value.int IntKind.i64 n, Value.slice A xs.length c] 24) (Obj.cells #[Value.int IntKind.i64 n, Value.slice B ys.length d] 24) (Obj.cells #[Value.int IntKind.i64 0, Value.slice none 0 0] 24)
  rw [hW]
  have HB := Aside0.mk hB
  have B0 := Aside0.mk h0
  have B1 := Aside0.mk h1
  have B2 := Aside0.mk h2
  clear hW hB h0 h1 h2
  refine (bCheck.calls 1 n _ c xs 0 W (Kd.C_below HR.out HB.out) HC.out HE.out).mono ?_
  rintro e w1 ⟨rfl, hb1⟩
  have B0' := Aside0.mk (blk_of_below B0.out hb1)
  have B1' := Aside0.mk (blk_of_below B1.out hb1)
  have B2' := Aside0.mk (blk_of_below B2.out hb1)
  obtain ⟨c10, c11, -, -⟩ := cells2 (blk_of_below B1.out hb1)
  have HB1 := Aside0.mk (below_step HB.out hb1)
  clear hb1 B0 B1 B2
  go_wp2_with fail
  refine (bCheck.calls 1 n _ d ys 0 w1 (Kd.C_below HR2.out HB1.out) HC2.out HE2.out).mono ?_
  rintro e w2 ⟨rfl, hb1⟩
  have B0 := Aside0.mk (blk_of_below B0'.out hb1)
  have B1 := Aside0.mk (blk_of_below B1'.out hb1)
  have B2 := Aside0.mk (blk_of_below B2'.out hb1)
  have HB2 := Aside0.mk (below_step HB1.out hb1)
  have HL : Aside0 (w.heap.size + 1 + 1 < w2.heap.size) := ⟨(Array.getElem?_eq_some_iff.1 B2.out).1⟩
  clear hb1 c10 c11 B0' B1' B2'
  obtain ⟨c00, c01, -, -⟩ := cells2 B0.out
  obtain ⟨c10, c11, -, -⟩ := cells2 B1.out
  go_wp2_with fail
  have ho3 := own_made w2 w2.heap.size 55 .u64 xs.length (Nat.le_refl _) (by omega)
  have hb3 := below_alloc (Below.refl w2.heap.size w2) (.cells (madeCells #[.int .u64 0] xs.length) 55)
  generalize w2.alloc (.cells (madeCells #[.int .u64 0] xs.length) 55) = w3 at ho3 hb3 ⊢
  have HO3 := Aside0.mk ho3
  have HB3 := Aside0.mk hb3
  clear ho3 hb3 c00 c01 c10 c11
  go_loopw [36] (fun i wr => ∃ k : Nat, k ≤ xs.length ∧ i = .int .i64 k ∧ wr.ownsRow w2.heap.size 55 1 (.slice (some ⟨w2.heap.size, 0, none⟩) xs.length xs.length) xs.length (nums .u64 (fill zs k)) ∧ Below w2.heap.size w2 wr)
    (fun i _ => xs.length - (intOf i).toNat)
  case atStart => exact ⟨0, Nat.zero_le _, rfl, by rw [fill_zero, HZL.out]; exact HO3.out, HB3.out⟩
  case round =>
    obtain ⟨k, hk, rfl, ho, hb⟩ := hrel
    have HO := Aside0.mk ho
    have HBr := Aside0.mk hb
    clear ho hb
    by_cases hlt : k < xs.length
    · obtain ⟨c00, c01, -, -⟩ := cells2 ((HBr.out.block _ (by have := HL.out; omega)).trans B0.out)
      obtain ⟨c10, c11, -, -⟩ := cells2 ((HBr.out.block _ (by have := HL.out; omega)).trans B1.out)
      obtain ⟨ad, hA, hxk⟩ := read_at (Kd.C_below (Kd.C_below HR.out HB2.out) HBr.out) hlt
      obtain ⟨bd, hB, hyk⟩ := read_at (Kd.C_below (Kd.C_below HR2.out HB2.out) HBr.out) (show k < ys.length by have := HXY.out; omega)
      subst hA
      subst hB
      have hlt2 : k < ys.length := by have := HXY.out; omega
      obtain ⟨x, hx⟩ : ∃ x, x = xs.getD k 0 := ⟨_, rfl⟩
      obtain ⟨y, hy⟩ : ∃ y, y = ys.getD k 0 := ⟨_, rfl⟩
      rw [← hx] at hxk
      rw [← hy] at hyk
      have HZK : Aside0 (Go.bits .or .u64 x y = zs.getD k 0) := ⟨by rw [HZ.out, hx, hy]; simp [List.getD, List.getElem?_zipWith, hlt, hlt2]⟩
      clear hx hy
      go_wp2_with fail
      go_still_tail 15, (by kernel_rfl)
      refine wpStill_step (fun K hK => ?_)
      go_simp
      refine ⟨_, or_op _ _ _, hK _ ?_⟩
      clear hK K
      repeat still_step
      refine wpStill_nil ?_
      change wpList _ _ _ _ _ wr.drew
      have hst := (HO.out.drew).stored k (.int .u64 (Go.bits .or .u64 x y))
      obtain ⟨hst1, hst2⟩ := hst
      have HO2 : Aside0 ((wr.drew.setCell ⟨w2.heap.size, k, none⟩ (.int .u64 (Go.bits .or .u64 x y))).ownsRow w2.heap.size 55 1 (.slice (some ⟨w2.heap.size, 0, none⟩) xs.length xs.length) xs.length (nums .u64 (fill zs (k + 1)))) := ⟨by
        have e : (nums .u64 (fill zs k)).set k (.int .u64 (Go.bits .or .u64 x y)) = nums .u64 (fill zs (k + 1)) := by
          rw [← fill_succ zs k (by rw [HZL.out]; exact hlt), HZK.out]
          simp [nums, List.map_set]
        rw [← e]; exact hst1⟩
      have HB2' : Aside0 (Below w2.heap.size w2 (wr.drew.setCell ⟨w2.heap.size, k, none⟩ (.int .u64 (Go.bits .or .u64 x y)))) := ⟨(below_drew1 HBr.out).setCell (p := ⟨w2.heap.size, k, none⟩) (Nat.le_refl _) _⟩
      have hd1 : ∃ v, wr.drew.cell? ⟨w2.heap.size, k, none⟩ = some v := by
        refine ⟨.int .u64 ((fill zs k).getD k 0), ?_⟩
        have e1 := HO.out.cellAt k (by omega)
        have e2 : (fill zs k).length = xs.length := by rw [fill_length _ _ (by rw [HZL.out]; omega), HZL.out]
        refine (show wr.drew.cell? ⟨w2.heap.size, k, none⟩ = wr.cell? ⟨w2.heap.size, k, none⟩ from rfl).trans (e1.trans ?_)
        simp [nums, List.getD, e2, hlt]
      obtain ⟨v0, hd1⟩ := hd1
      have hd2 : wr.drew.frozen? ⟨w2.heap.size, k, none⟩ = false := HO.out.frozenAt k
      clear hst1 hst2 hxk hyk
      go_wp2
      go_roundw
      case rel => exact ⟨k + 1, by omega, by go_num, HO2.out, HB2'.out⟩
      case measure => simp [intOf]; omega
    · obtain rfl : k = xs.length := by omega
      obtain ⟨c00, c01, -, -⟩ := cells2 ((HBr.out.block _ (by have := HL.out; omega)).trans B0.out)
      obtain ⟨c30, c31, f30, f31⟩ := cells2 ((HBr.out.block _ (by have := HL.out; omega)).trans B2.out)
      go_wp2
      refine bodyPost_ret (v := .tuple #[.agg #[.int .i64 n, .slice (some ⟨w2.heap.size, 0, none⟩) xs.length xs.length], .int .i64 0]) ?_ rfl ⟨_, rfl, ?_, ?_⟩
      · simp [results, Tryd.results47, go_sem, *]
      · have hrow : wr.ownsRow w.heap.size 55 1 (.slice (some ⟨w2.heap.size, 0, none⟩) xs.length xs.length) zs.length (encs (Value.int .u64) zs) := by
          have := own_weaken HO.out HB2.out.size
          rw [← HZL.out, fill_all, HZL.out] at this
          rw [HZL.out]
          exact this
        exact Kd.R_mono (Kd.R_far (p := ⟨w.heap.size + 1 + 1, 1, none⟩) (Kd.R_far (p := ⟨w.heap.size + 1 + 1, 0, none⟩) (Kd.R_types (Kd.R_of_own (ok := fun _ => True) hrow (fun _ _ => trivial)) ((HBr.out.block _ (by have := HL.out; omega)).trans B2.out) (by decide)) (fun k hk => hk.2) _) (fun k hk => hk.2) _) (fun _ _ => trivial)
      · exact ((HB2.out.trans (HBr.out.mono HB2.out.size)).setCell (p := ⟨w.heap.size + 1 + 1, 0, none⟩) (show w.heap.size ≤ w.heap.size + 1 + 1 by omega) _).setCell (p := ⟨w.heap.size + 1 + 1, 1, none⟩) (show w.heap.size ≤ w.heap.size + 1 + 1 by omega) _
theorem or_both (n : Int) (A : Option Addr) (c : Nat) (xs : List Int) (m : Int) (B : Option Addr) (d : Nat) (ys : List Int) (w : World) (hr : Kd.C (Kd.int .u64) w A xs.length xs) (hc : xs.length ≤ c) (hr2 : Kd.C (Kd.int .u64) w B ys.length ys) (hc2 : ys.length ≤ d) :
    Calls Tryd.prog 47 #[.agg #[.int .i64 n, .slice A xs.length c], .agg #[.int .i64 m, .slice B ys.length d], .func (.func 48) #[] #[]] w fun e w' => ∃ v1_ : Value, e = .returned (.tuple #[.agg #[.int .i64 (bBoth .or n xs m ys).1, v1_], .int .i64 (bBoth .or n xs m ys).2.2]) ∧ Kd.R (Kd.int .u64) 55 w' w.heap.size (fun _ => True) v1_ (bBoth .or n xs m ys).2.1 ∧ Below w.heap.size w w' := by
  by_cases hg : Good n xs
  · by_cases hh : Good m ys
    · by_cases hnm : n = m
      · subst hnm
        have e : bBoth .or n xs n ys = (n, List.zipWith (Go.bits .or .u64) xs ys, 0) := by
          unfold bBoth
          rw [if_pos ((good_iff _ _).2 hg), if_pos ((good_iff _ _).2 hh), if_pos rfl]
        rw [e]
        have := hg.len_le; have := hg.len; have := hh.len
        exact or_ok n A c xs B d ys w hr hc hr2 hc2 (good_yes hg 0) (good_yes hh 0) (by omega) (by omega)
      · have e : bBoth .or n xs m ys = (0, [], 22) := by
          unfold bBoth
          rw [if_pos ((good_iff _ _).2 hg), if_pos ((good_iff _ _).2 hh), if_neg hnm]
        rw [e]
        exact (both_good n A c xs m B d ys w hr hc hr2 hc2 (good_yes hg 0) (good_yes hh 0) hnm _).mono fun e w' ⟨he, hb⟩ => ⟨_, he, Kd.R_nil _ _ _ _ _, hb⟩
    · have e : bBoth .or n xs m ys = (0, [], 3) := by
        unfold bBoth
        rw [if_pos ((good_iff _ _).2 hg), if_neg (fun h => hh ((good_iff _ _).1 h))]
      rw [e]
      exact (both_bad2 n A c xs m B d ys w hr hc hr2 hc2 (good_yes hg 0) (good_no hh 0) _).mono fun e w' ⟨he, hb⟩ => ⟨_, he, Kd.R_nil _ _ _ _ _, hb⟩
  · have e : bBoth .or n xs m ys = (0, [], 3) := by
      unfold bBoth
      rw [if_neg (fun h => hg ((good_iff _ _).1 h))]
    rw [e]
    exact (both_bad1 n A c xs m B d ys w hr hc (good_no hg 0) _).mono fun e w' ⟨he, hb⟩ => ⟨_, he, Kd.R_nil _ _ _ _ _, hb⟩
set_option maxHeartbeats 2000000 in
set_option maxRecDepth 100000 in
theorem bOr.calls (a0_0 : Int) (A0_1 : Option Addr) (c0_1 : Nat) (l0_1 : List Int) (a1_0 : Int) (A1_1 : Option Addr) (c1_1 : Nat) (l1_1 : List Int) (r1 : Int) (r2 : List Int) (r3 : Int) (w : World) (hr0_1 : Kd.C (Kd.int .u64) w A0_1 l0_1.length l0_1) (hc0_1 : l0_1.length ≤ c0_1) (hr1_1 : Kd.C (Kd.int .u64) w A1_1 l1_1.length l1_1) (hc1_1 : l1_1.length ≤ c1_1) (h : bOr.f a0_0 l0_1 a1_0 l1_1 = some (r1, r2, r3)) :
    Calls Tryd.prog 33 #[.agg #[.int .i64 a0_0, .slice A0_1 l0_1.length c0_1], .agg #[.int .i64 a1_0, .slice A1_1 l1_1.length c1_1]] w fun e w' => ∃ v1_ : Value, e = .returned (.tuple #[.agg #[.int .i64 r1, v1_], .int .i64 r3]) ∧ Kd.R (Kd.int .u64) 55 w' w.heap.size (fun _ => True) v1_ r2 ∧ Below w.heap.size w w' := by
  obtain ⟨rfl, rfl, rfl⟩ : (bBoth .or a0_0 l0_1 a1_0 l1_1).1 = r1 ∧ (bBoth .or a0_0 l0_1 a1_0 l1_1).2.1 = r2 ∧ (bBoth .or a0_0 l0_1 a1_0 l1_1).2.2 = r3 := by
    have := Option.some.inj h
    rw [this]; exact ⟨rfl, rfl, rfl⟩
  have HR := Aside0.mk hr0_1
  have HC := Aside0.mk hc0_1
  have HR2 := Aside0.mk hr1_1
  have HC2 := Aside0.mk hc1_1
  have HA := fun (W : World) (hb : Below w.heap.size w W) => or_both a0_0 A0_1 c0_1 l0_1 a1_0 A1_1 c1_1 l1_1 W (Kd.C_below HR.out hb) HC.out (Kd.C_below HR2.out hb) HC2.out
  generalize bBoth .or a0_0 l0_1 a1_0 l1_1 = q at HA ⊢
  have HQ := Aside0.mk HA
  clear hr0_1 hc0_1 hr1_1 hc1_1 h HA
  go_enter Tryd.func33, Tryd.ntmps33
  go_wp2_with fail
  obtain ⟨W, hW, hB, -, -, -, h2⟩ := new3 w (Obj.cells #[Value.int IntKind.i64 a0_0, Value.slice A0_1 l0_1.length c0_1] 24) (Obj.cells #[Value.int IntKind.i64 a1_0, Value.slice A1_1 l1_1.length c1_1] 24) (Obj.cells #[Value.int IntKind.i64 0, Value.slice none 0 0] 24)
  rw [hW]
  have HB := Aside0.mk hB
  have B2 := Aside0.mk h2
  clear hW hB h2
  refine (HQ.out W HB.out).mono ?_
  rintro e w1 ⟨v1, rfl, hR, hb1⟩
  obtain ⟨A2, c2, rfl⟩ : ∃ A2 c2, v1 = .slice A2 q.2.1.length c2 := by
    obtain ⟨inner, ho, -⟩ := hR.2
    exact own_slice ho
  obtain ⟨c30, c31, f30, f31⟩ := cells2 (blk_of_below B2.out hb1)
  have HB1 := Aside0.mk (below_step HB.out hb1)
  have HRR := Aside0.mk (Kd.R_types (Kd.R_lower hR HB.out.size) (blk_of_below B2.out hb1) (by decide))
  clear hb1 hR
  go_wp2_with fail
  refine bodyPost_ret (v := .tuple #[.agg #[.int .i64 q.1, .slice A2 q.2.1.length c2], .int .i64 q.2.2]) ?_ rfl ⟨_, rfl, ?_, ?_⟩
  · simp [results, Tryd.results33, go_sem, *]
  · exact Kd.R_mono (Kd.R_far (p := ⟨w.heap.size + 1 + 1, 1, none⟩) (Kd.R_far (p := ⟨w.heap.size + 1 + 1, 0, none⟩) HRR.out (fun k hk => hk.2) _) (fun k hk => hk.2) _) (fun _ _ => trivial)
  · exact (HB1.out.setCell (p := ⟨w.heap.size + 1 + 1, 0, none⟩) (show w.heap.size ≤ w.heap.size + 1 + 1 by omega) _).setCell (p := ⟨w.heap.size + 1 + 1, 1, none⟩) (show w.heap.size ≤ w.heap.size + 1 + 1 by omega) _
theorem and_op (a b : Int) (w : World) : Calls Tryd.prog 51 #[.int .u64 a, .int .u64 b] w fun e w' => e = .returned (.int .u64 (Go.bits .and .u64 a b)) ∧ w' = w := by
  go_enter Tryd.func51, Tryd.ntmps51
  go_wp2
  go_ret
  exact ⟨rfl, rfl⟩
set_option maxHeartbeats 4000000 in
set_option maxRecDepth 100000 in
theorem and_ok (n : Int) (A : Option Addr) (c : Nat) (xs : List Int) (B : Option Addr) (d : Nat) (ys : List Int) (w : World) (hr : Kd.C (Kd.int .u64) w A xs.length xs) (hc : xs.length ≤ c) (hr2 : Kd.C (Kd.int .u64) w B ys.length ys) (hc2 : ys.length ≤ d) (he : bCheck.f 1 n xs = some 0) (he2 : bCheck.f 1 n ys = some 0)
    (hlen : xs.length ≤ 100) (hxy : xs.length = ys.length) :
    Calls Tryd.prog 47 #[.agg #[.int .i64 n, .slice A xs.length c], .agg #[.int .i64 n, .slice B ys.length d], .func (.func 51) #[] #[]] w fun e w' => ∃ v1_ : Value, e = .returned (.tuple #[.agg #[.int .i64 n, v1_], .int .i64 0]) ∧ Kd.R (Kd.int .u64) 55 w' w.heap.size (fun _ => True) v1_ (List.zipWith (Go.bits .and .u64) xs ys) ∧ Below w.heap.size w w' := by
  have HR := Aside0.mk hr
  have HC := Aside0.mk hc
  have HE := Aside0.mk he
  have HR2 := Aside0.mk hr2
  have HC2 := Aside0.mk hc2
  have HE2 := Aside0.mk he2
  have HXY := Aside0.mk hxy
  have hmk := print_make (P := Tryd.prog) 22 55 .u64 8 Tryd.underlying22 infoU64 (by decide) xs.length (by omega)
  obtain ⟨zs, hz⟩ : ∃ zs, zs = List.zipWith (Go.bits .and .u64) xs ys := ⟨_, rfl⟩
  have hzl : zs.length = xs.length := by rw [hz]; simp; omega
  have HZ := Aside0.mk hz
  have HZL := Aside0.mk hzl
  rw [← hz]
  clear hr hc he hr2 hc2 he2 hxy hz hzl
  go_enter Tryd.func47, Tryd.ntmps47
  go_wp2_with fail
  obtain ⟨W, hW, hB, -, h0, h1, h2⟩ := new3 w (Obj.cells #[Value.int IntKind.i64 n, Value.slice A xs.length c] 24) (Obj.cells #[Value.int IntKind.i64 n, Value.slice B ys.length d] 24) (Obj.cells #[Value.int IntKind.i64 0, Value.slice none 0 0] 24)
  rw [hW]
  have HB := Aside0.mk hB
  have B0 := Aside0.mk h0
  have B1 := Aside0.mk h1
  have B2 := Aside0.mk h2
  clear hW hB h0 h1 h2
  refine (bCheck.calls 1 n _ c xs 0 W (Kd.C_below HR.out HB.out) HC.out HE.out).mono ?_
  rintro e w1 ⟨rfl, hb1⟩
  have B0' := Aside0.mk (blk_of_below B0.out hb1)
  have B1' := Aside0.mk (blk_of_below B1.out hb1)
  have B2' := Aside0.mk (blk_of_below B2.out hb1)
  obtain ⟨c10, c11, -, -⟩ := cells2 (blk_of_below B1.out hb1)
  have HB1 := Aside0.mk (below_step HB.out hb1)
  clear hb1 B0 B1 B2
  go_wp2_with fail
  refine (bCheck.calls 1 n _ d ys 0 w1 (Kd.C_below HR2.out HB1.out) HC2.out HE2.out).mono ?_
  rintro e w2 ⟨rfl, hb1⟩
  have B0 := Aside0.mk (blk_of_below B0'.out hb1)
  have B1 := Aside0.mk (blk_of_below B1'.out hb1)
  have B2 := Aside0.mk (blk_of_below B2'.out hb1)
  have HB2 := Aside0.mk (below_step HB1.out hb1)
  have HL : Aside0 (w.heap.size + 1 + 1 < w2.heap.size) := ⟨(Array.getElem?_eq_some_iff.1 B2.out).1⟩
  clear hb1 c10 c11 B0' B1' B2'
  obtain ⟨c00, c01, -, -⟩ := cells2 B0.out
  obtain ⟨c10, c11, -, -⟩ := cells2 B1.out
  go_wp2_with fail
  have ho3 := own_made w2 w2.heap.size 55 .u64 xs.length (Nat.le_refl _) (by omega)
  have hb3 := below_alloc (Below.refl w2.heap.size w2) (.cells (madeCells #[.int .u64 0] xs.length) 55)
  generalize w2.alloc (.cells (madeCells #[.int .u64 0] xs.length) 55) = w3 at ho3 hb3 ⊢
  have HO3 := Aside0.mk ho3
  have HB3 := Aside0.mk hb3
  clear ho3 hb3 c00 c01 c10 c11
  go_loopw [36] (fun i wr => ∃ k : Nat, k ≤ xs.length ∧ i = .int .i64 k ∧ wr.ownsRow w2.heap.size 55 1 (.slice (some ⟨w2.heap.size, 0, none⟩) xs.length xs.length) xs.length (nums .u64 (fill zs k)) ∧ Below w2.heap.size w2 wr)
    (fun i _ => xs.length - (intOf i).toNat)
  case atStart => exact ⟨0, Nat.zero_le _, rfl, by rw [fill_zero, HZL.out]; exact HO3.out, HB3.out⟩
  case round =>
    obtain ⟨k, hk, rfl, ho, hb⟩ := hrel
    have HO := Aside0.mk ho
    have HBr := Aside0.mk hb
    clear ho hb
    by_cases hlt : k < xs.length
    · obtain ⟨c00, c01, -, -⟩ := cells2 ((HBr.out.block _ (by have := HL.out; omega)).trans B0.out)
      obtain ⟨c10, c11, -, -⟩ := cells2 ((HBr.out.block _ (by have := HL.out; omega)).trans B1.out)
      obtain ⟨ad, hA, hxk⟩ := read_at (Kd.C_below (Kd.C_below HR.out HB2.out) HBr.out) hlt
      obtain ⟨bd, hB, hyk⟩ := read_at (Kd.C_below (Kd.C_below HR2.out HB2.out) HBr.out) (show k < ys.length by have := HXY.out; omega)
      subst hA
      subst hB
      have hlt2 : k < ys.length := by have := HXY.out; omega
      obtain ⟨x, hx⟩ : ∃ x, x = xs.getD k 0 := ⟨_, rfl⟩
      obtain ⟨y, hy⟩ : ∃ y, y = ys.getD k 0 := ⟨_, rfl⟩
      rw [← hx] at hxk
      rw [← hy] at hyk
      have HZK : Aside0 (Go.bits .and .u64 x y = zs.getD k 0) := ⟨by rw [HZ.out, hx, hy]; simp [List.getD, List.getElem?_zipWith, hlt, hlt2]⟩
      clear hx hy
      go_wp2_with fail
      go_still_tail 15, (by kernel_rfl)
      refine wpStill_step (fun K hK => ?_)
      go_simp
      refine ⟨_, and_op _ _ _, hK _ ?_⟩
      clear hK K
      repeat still_step
      refine wpStill_nil ?_
      change wpList _ _ _ _ _ wr.drew
      have hst := (HO.out.drew).stored k (.int .u64 (Go.bits .and .u64 x y))
      obtain ⟨hst1, hst2⟩ := hst
      have HO2 : Aside0 ((wr.drew.setCell ⟨w2.heap.size, k, none⟩ (.int .u64 (Go.bits .and .u64 x y))).ownsRow w2.heap.size 55 1 (.slice (some ⟨w2.heap.size, 0, none⟩) xs.length xs.length) xs.length (nums .u64 (fill zs (k + 1)))) := ⟨by
        have e : (nums .u64 (fill zs k)).set k (.int .u64 (Go.bits .and .u64 x y)) = nums .u64 (fill zs (k + 1)) := by
          rw [← fill_succ zs k (by rw [HZL.out]; exact hlt), HZK.out]
          simp [nums, List.map_set]
        rw [← e]; exact hst1⟩
      have HB2' : Aside0 (Below w2.heap.size w2 (wr.drew.setCell ⟨w2.heap.size, k, none⟩ (.int .u64 (Go.bits .and .u64 x y)))) := ⟨(below_drew1 HBr.out).setCell (p := ⟨w2.heap.size, k, none⟩) (Nat.le_refl _) _⟩
      have hd1 : ∃ v, wr.drew.cell? ⟨w2.heap.size, k, none⟩ = some v := by
        refine ⟨.int .u64 ((fill zs k).getD k 0), ?_⟩
        have e1 := HO.out.cellAt k (by omega)
        have e2 : (fill zs k).length = xs.length := by rw [fill_length _ _ (by rw [HZL.out]; omega), HZL.out]
        refine (show wr.drew.cell? ⟨w2.heap.size, k, none⟩ = wr.cell? ⟨w2.heap.size, k, none⟩ from rfl).trans (e1.trans ?_)
        simp [nums, List.getD, e2, hlt]
      obtain ⟨v0, hd1⟩ := hd1
      have hd2 : wr.drew.frozen? ⟨w2.heap.size, k, none⟩ = false := HO.out.frozenAt k
      clear hst1 hst2 hxk hyk
      go_wp2
      go_roundw
      case rel => exact ⟨k + 1, by omega, by go_num, HO2.out, HB2'.out⟩
      case measure => simp [intOf]; omega
    · obtain rfl : k = xs.length := by omega
      obtain ⟨c00, c01, -, -⟩ := cells2 ((HBr.out.block _ (by have := HL.out; omega)).trans B0.out)
      obtain ⟨c30, c31, f30, f31⟩ := cells2 ((HBr.out.block _ (by have := HL.out; omega)).trans B2.out)
      go_wp2
      refine bodyPost_ret (v := .tuple #[.agg #[.int .i64 n, .slice (some ⟨w2.heap.size, 0, none⟩) xs.length xs.length], .int .i64 0]) ?_ rfl ⟨_, rfl, ?_, ?_⟩
      · simp [results, Tryd.results47, go_sem, *]
      · have hrow : wr.ownsRow w.heap.size 55 1 (.slice (some ⟨w2.heap.size, 0, none⟩) xs.length xs.length) zs.length (encs (Value.int .u64) zs) := by
          have := own_weaken HO.out HB2.out.size
          rw [← HZL.out, fill_all, HZL.out] at this
          rw [HZL.out]
          exact this
        exact Kd.R_mono (Kd.R_far (p := ⟨w.heap.size + 1 + 1, 1, none⟩) (Kd.R_far (p := ⟨w.heap.size + 1 + 1, 0, none⟩) (Kd.R_types (Kd.R_of_own (ok := fun _ => True) hrow (fun _ _ => trivial)) ((HBr.out.block _ (by have := HL.out; omega)).trans B2.out) (by decide)) (fun k hk => hk.2) _) (fun k hk => hk.2) _) (fun _ _ => trivial)
      · exact ((HB2.out.trans (HBr.out.mono HB2.out.size)).setCell (p := ⟨w.heap.size + 1 + 1, 0, none⟩) (show w.heap.size ≤ w.heap.size + 1 + 1 by omega) _).setCell (p := ⟨w.heap.size + 1 + 1, 1, none⟩) (show w.heap.size ≤ w.heap.size + 1 + 1 by omega) _
theorem and_both (n : Int) (A : Option Addr) (c : Nat) (xs : List Int) (m : Int) (B : Option Addr) (d : Nat) (ys : List Int) (w : World) (hr : Kd.C (Kd.int .u64) w A xs.length xs) (hc : xs.length ≤ c) (hr2 : Kd.C (Kd.int .u64) w B ys.length ys) (hc2 : ys.length ≤ d) :
    Calls Tryd.prog 47 #[.agg #[.int .i64 n, .slice A xs.length c], .agg #[.int .i64 m, .slice B ys.length d], .func (.func 51) #[] #[]] w fun e w' => ∃ v1_ : Value, e = .returned (.tuple #[.agg #[.int .i64 (bBoth .and n xs m ys).1, v1_], .int .i64 (bBoth .and n xs m ys).2.2]) ∧ Kd.R (Kd.int .u64) 55 w' w.heap.size (fun _ => True) v1_ (bBoth .and n xs m ys).2.1 ∧ Below w.heap.size w w' := by
  by_cases hg : Good n xs
  · by_cases hh : Good m ys
    · by_cases hnm : n = m
      · subst hnm
        have e : bBoth .and n xs n ys = (n, List.zipWith (Go.bits .and .u64) xs ys, 0) := by
          unfold bBoth
          rw [if_pos ((good_iff _ _).2 hg), if_pos ((good_iff _ _).2 hh), if_pos rfl]
        rw [e]
        have := hg.len_le; have := hg.len; have := hh.len
        exact and_ok n A c xs B d ys w hr hc hr2 hc2 (good_yes hg 0) (good_yes hh 0) (by omega) (by omega)
      · have e : bBoth .and n xs m ys = (0, [], 22) := by
          unfold bBoth
          rw [if_pos ((good_iff _ _).2 hg), if_pos ((good_iff _ _).2 hh), if_neg hnm]
        rw [e]
        exact (both_good n A c xs m B d ys w hr hc hr2 hc2 (good_yes hg 0) (good_yes hh 0) hnm _).mono fun e w' ⟨he, hb⟩ => ⟨_, he, Kd.R_nil _ _ _ _ _, hb⟩
    · have e : bBoth .and n xs m ys = (0, [], 3) := by
        unfold bBoth
        rw [if_pos ((good_iff _ _).2 hg), if_neg (fun h => hh ((good_iff _ _).1 h))]
      rw [e]
      exact (both_bad2 n A c xs m B d ys w hr hc hr2 hc2 (good_yes hg 0) (good_no hh 0) _).mono fun e w' ⟨he, hb⟩ => ⟨_, he, Kd.R_nil _ _ _ _ _, hb⟩
  · have e : bBoth .and n xs m ys = (0, [], 3) := by
      unfold bBoth
      rw [if_neg (fun h => hg ((good_iff _ _).1 h))]
    rw [e]
    exact (both_bad1 n A c xs m B d ys w hr hc (good_no hg 0) _).mono fun e w' ⟨he, hb⟩ => ⟨_, he, Kd.R_nil _ _ _ _ _, hb⟩
set_option maxHeartbeats 2000000 in
set_option maxRecDepth 100000 in
theorem bAnd.calls (a0_0 : Int) (A0_1 : Option Addr) (c0_1 : Nat) (l0_1 : List Int) (a1_0 : Int) (A1_1 : Option Addr) (c1_1 : Nat) (l1_1 : List Int) (r1 : Int) (r2 : List Int) (r3 : Int) (w : World) (hr0_1 : Kd.C (Kd.int .u64) w A0_1 l0_1.length l0_1) (hc0_1 : l0_1.length ≤ c0_1) (hr1_1 : Kd.C (Kd.int .u64) w A1_1 l1_1.length l1_1) (hc1_1 : l1_1.length ≤ c1_1) (h : bAnd.f a0_0 l0_1 a1_0 l1_1 = some (r1, r2, r3)) :
    Calls Tryd.prog 35 #[.agg #[.int .i64 a0_0, .slice A0_1 l0_1.length c0_1], .agg #[.int .i64 a1_0, .slice A1_1 l1_1.length c1_1]] w fun e w' => ∃ v1_ : Value, e = .returned (.tuple #[.agg #[.int .i64 r1, v1_], .int .i64 r3]) ∧ Kd.R (Kd.int .u64) 55 w' w.heap.size (fun _ => True) v1_ r2 ∧ Below w.heap.size w w' := by
  obtain ⟨rfl, rfl, rfl⟩ : (bBoth .and a0_0 l0_1 a1_0 l1_1).1 = r1 ∧ (bBoth .and a0_0 l0_1 a1_0 l1_1).2.1 = r2 ∧ (bBoth .and a0_0 l0_1 a1_0 l1_1).2.2 = r3 := by
    have := Option.some.inj h
    rw [this]; exact ⟨rfl, rfl, rfl⟩
  have HR := Aside0.mk hr0_1
  have HC := Aside0.mk hc0_1
  have HR2 := Aside0.mk hr1_1
  have HC2 := Aside0.mk hc1_1
  have HA := fun (W : World) (hb : Below w.heap.size w W) => and_both a0_0 A0_1 c0_1 l0_1 a1_0 A1_1 c1_1 l1_1 W (Kd.C_below HR.out hb) HC.out (Kd.C_below HR2.out hb) HC2.out
  generalize bBoth .and a0_0 l0_1 a1_0 l1_1 = q at HA ⊢
  have HQ := Aside0.mk HA
  clear hr0_1 hc0_1 hr1_1 hc1_1 h HA
  go_enter Tryd.func35, Tryd.ntmps35
  go_wp2_with fail
  obtain ⟨W, hW, hB, -, -, -, h2⟩ := new3 w (Obj.cells #[Value.int IntKind.i64 a0_0, Value.slice A0_1 l0_1.length c0_1] 24) (Obj.cells #[Value.int IntKind.i64 a1_0, Value.slice A1_1 l1_1.length c1_1] 24) (Obj.cells #[Value.int IntKind.i64 0, Value.slice none 0 0] 24)
  rw [hW]
  have HB := Aside0.mk hB
  have B2 := Aside0.mk h2
  clear hW hB h2
  refine (HQ.out W HB.out).mono ?_
  rintro e w1 ⟨v1, rfl, hR, hb1⟩
  obtain ⟨A2, c2, rfl⟩ : ∃ A2 c2, v1 = .slice A2 q.2.1.length c2 := by
    obtain ⟨inner, ho, -⟩ := hR.2
    exact own_slice ho
  obtain ⟨c30, c31, f30, f31⟩ := cells2 (blk_of_below B2.out hb1)
  have HB1 := Aside0.mk (below_step HB.out hb1)
  have HRR := Aside0.mk (Kd.R_types (Kd.R_lower hR HB.out.size) (blk_of_below B2.out hb1) (by decide))
  clear hb1 hR
  go_wp2_with fail
  refine bodyPost_ret (v := .tuple #[.agg #[.int .i64 q.1, .slice A2 q.2.1.length c2], .int .i64 q.2.2]) ?_ rfl ⟨_, rfl, ?_, ?_⟩
  · simp [results, Tryd.results35, go_sem, *]
  · exact Kd.R_mono (Kd.R_far (p := ⟨w.heap.size + 1 + 1, 1, none⟩) (Kd.R_far (p := ⟨w.heap.size + 1 + 1, 0, none⟩) HRR.out (fun k hk => hk.2) _) (fun k hk => hk.2) _) (fun _ _ => trivial)
  · exact (HB1.out.setCell (p := ⟨w.heap.size + 1 + 1, 0, none⟩) (show w.heap.size ≤ w.heap.size + 1 + 1 by omega) _).setCell (p := ⟨w.heap.size + 1 + 1, 1, none⟩) (show w.heap.size ≤ w.heap.size + 1 + 1 by omega) _
theorem andNot_op (a b : Int) (w : World) : Calls Tryd.prog 52 #[.int .u64 a, .int .u64 b] w fun e w' => e = .returned (.int .u64 (Go.bits .andNot .u64 a b)) ∧ w' = w := by
  go_enter Tryd.func52, Tryd.ntmps52
  go_wp2
  go_ret
  exact ⟨rfl, rfl⟩
set_option maxHeartbeats 4000000 in
set_option maxRecDepth 100000 in
theorem andNot_ok (n : Int) (A : Option Addr) (c : Nat) (xs : List Int) (B : Option Addr) (d : Nat) (ys : List Int) (w : World) (hr : Kd.C (Kd.int .u64) w A xs.length xs) (hc : xs.length ≤ c) (hr2 : Kd.C (Kd.int .u64) w B ys.length ys) (hc2 : ys.length ≤ d) (he : bCheck.f 1 n xs = some 0) (he2 : bCheck.f 1 n ys = some 0)
    (hlen : xs.length ≤ 100) (hxy : xs.length = ys.length) :
    Calls Tryd.prog 47 #[.agg #[.int .i64 n, .slice A xs.length c], .agg #[.int .i64 n, .slice B ys.length d], .func (.func 52) #[] #[]] w fun e w' => ∃ v1_ : Value, e = .returned (.tuple #[.agg #[.int .i64 n, v1_], .int .i64 0]) ∧ Kd.R (Kd.int .u64) 55 w' w.heap.size (fun _ => True) v1_ (List.zipWith (Go.bits .andNot .u64) xs ys) ∧ Below w.heap.size w w' := by
  have HR := Aside0.mk hr
  have HC := Aside0.mk hc
  have HE := Aside0.mk he
  have HR2 := Aside0.mk hr2
  have HC2 := Aside0.mk hc2
  have HE2 := Aside0.mk he2
  have HXY := Aside0.mk hxy
  have hmk := print_make (P := Tryd.prog) 22 55 .u64 8 Tryd.underlying22 infoU64 (by decide) xs.length (by omega)
  obtain ⟨zs, hz⟩ : ∃ zs, zs = List.zipWith (Go.bits .andNot .u64) xs ys := ⟨_, rfl⟩
  have hzl : zs.length = xs.length := by rw [hz]; simp; omega
  have HZ := Aside0.mk hz
  have HZL := Aside0.mk hzl
  rw [← hz]
  clear hr hc he hr2 hc2 he2 hxy hz hzl
  go_enter Tryd.func47, Tryd.ntmps47
  go_wp2_with fail
  obtain ⟨W, hW, hB, -, h0, h1, h2⟩ := new3 w (Obj.cells #[Value.int IntKind.i64 n, Value.slice A xs.length c] 24) (Obj.cells #[Value.int IntKind.i64 n, Value.slice B ys.length d] 24) (Obj.cells #[Value.int IntKind.i64 0, Value.slice none 0 0] 24)
  rw [hW]
  have HB := Aside0.mk hB
  have B0 := Aside0.mk h0
  have B1 := Aside0.mk h1
  have B2 := Aside0.mk h2
  clear hW hB h0 h1 h2
  refine (bCheck.calls 1 n _ c xs 0 W (Kd.C_below HR.out HB.out) HC.out HE.out).mono ?_
  rintro e w1 ⟨rfl, hb1⟩
  have B0' := Aside0.mk (blk_of_below B0.out hb1)
  have B1' := Aside0.mk (blk_of_below B1.out hb1)
  have B2' := Aside0.mk (blk_of_below B2.out hb1)
  obtain ⟨c10, c11, -, -⟩ := cells2 (blk_of_below B1.out hb1)
  have HB1 := Aside0.mk (below_step HB.out hb1)
  clear hb1 B0 B1 B2
  go_wp2_with fail
  refine (bCheck.calls 1 n _ d ys 0 w1 (Kd.C_below HR2.out HB1.out) HC2.out HE2.out).mono ?_
  rintro e w2 ⟨rfl, hb1⟩
  have B0 := Aside0.mk (blk_of_below B0'.out hb1)
  have B1 := Aside0.mk (blk_of_below B1'.out hb1)
  have B2 := Aside0.mk (blk_of_below B2'.out hb1)
  have HB2 := Aside0.mk (below_step HB1.out hb1)
  have HL : Aside0 (w.heap.size + 1 + 1 < w2.heap.size) := ⟨(Array.getElem?_eq_some_iff.1 B2.out).1⟩
  clear hb1 c10 c11 B0' B1' B2'
  obtain ⟨c00, c01, -, -⟩ := cells2 B0.out
  obtain ⟨c10, c11, -, -⟩ := cells2 B1.out
  go_wp2_with fail
  have ho3 := own_made w2 w2.heap.size 55 .u64 xs.length (Nat.le_refl _) (by omega)
  have hb3 := below_alloc (Below.refl w2.heap.size w2) (.cells (madeCells #[.int .u64 0] xs.length) 55)
  generalize w2.alloc (.cells (madeCells #[.int .u64 0] xs.length) 55) = w3 at ho3 hb3 ⊢
  have HO3 := Aside0.mk ho3
  have HB3 := Aside0.mk hb3
  clear ho3 hb3 c00 c01 c10 c11
  go_loopw [36] (fun i wr => ∃ k : Nat, k ≤ xs.length ∧ i = .int .i64 k ∧ wr.ownsRow w2.heap.size 55 1 (.slice (some ⟨w2.heap.size, 0, none⟩) xs.length xs.length) xs.length (nums .u64 (fill zs k)) ∧ Below w2.heap.size w2 wr)
    (fun i _ => xs.length - (intOf i).toNat)
  case atStart => exact ⟨0, Nat.zero_le _, rfl, by rw [fill_zero, HZL.out]; exact HO3.out, HB3.out⟩
  case round =>
    obtain ⟨k, hk, rfl, ho, hb⟩ := hrel
    have HO := Aside0.mk ho
    have HBr := Aside0.mk hb
    clear ho hb
    by_cases hlt : k < xs.length
    · obtain ⟨c00, c01, -, -⟩ := cells2 ((HBr.out.block _ (by have := HL.out; omega)).trans B0.out)
      obtain ⟨c10, c11, -, -⟩ := cells2 ((HBr.out.block _ (by have := HL.out; omega)).trans B1.out)
      obtain ⟨ad, hA, hxk⟩ := read_at (Kd.C_below (Kd.C_below HR.out HB2.out) HBr.out) hlt
      obtain ⟨bd, hB, hyk⟩ := read_at (Kd.C_below (Kd.C_below HR2.out HB2.out) HBr.out) (show k < ys.length by have := HXY.out; omega)
      subst hA
      subst hB
      have hlt2 : k < ys.length := by have := HXY.out; omega
      obtain ⟨x, hx⟩ : ∃ x, x = xs.getD k 0 := ⟨_, rfl⟩
      obtain ⟨y, hy⟩ : ∃ y, y = ys.getD k 0 := ⟨_, rfl⟩
      rw [← hx] at hxk
      rw [← hy] at hyk
      have HZK : Aside0 (Go.bits .andNot .u64 x y = zs.getD k 0) := ⟨by rw [HZ.out, hx, hy]; simp [List.getD, List.getElem?_zipWith, hlt, hlt2]⟩
      clear hx hy
      go_wp2_with fail
      go_still_tail 15, (by kernel_rfl)
      refine wpStill_step (fun K hK => ?_)
      go_simp
      refine ⟨_, andNot_op _ _ _, hK _ ?_⟩
      clear hK K
      repeat still_step
      refine wpStill_nil ?_
      change wpList _ _ _ _ _ wr.drew
      have hst := (HO.out.drew).stored k (.int .u64 (Go.bits .andNot .u64 x y))
      obtain ⟨hst1, hst2⟩ := hst
      have HO2 : Aside0 ((wr.drew.setCell ⟨w2.heap.size, k, none⟩ (.int .u64 (Go.bits .andNot .u64 x y))).ownsRow w2.heap.size 55 1 (.slice (some ⟨w2.heap.size, 0, none⟩) xs.length xs.length) xs.length (nums .u64 (fill zs (k + 1)))) := ⟨by
        have e : (nums .u64 (fill zs k)).set k (.int .u64 (Go.bits .andNot .u64 x y)) = nums .u64 (fill zs (k + 1)) := by
          rw [← fill_succ zs k (by rw [HZL.out]; exact hlt), HZK.out]
          simp [nums, List.map_set]
        rw [← e]; exact hst1⟩
      have HB2' : Aside0 (Below w2.heap.size w2 (wr.drew.setCell ⟨w2.heap.size, k, none⟩ (.int .u64 (Go.bits .andNot .u64 x y)))) := ⟨(below_drew1 HBr.out).setCell (p := ⟨w2.heap.size, k, none⟩) (Nat.le_refl _) _⟩
      have hd1 : ∃ v, wr.drew.cell? ⟨w2.heap.size, k, none⟩ = some v := by
        refine ⟨.int .u64 ((fill zs k).getD k 0), ?_⟩
        have e1 := HO.out.cellAt k (by omega)
        have e2 : (fill zs k).length = xs.length := by rw [fill_length _ _ (by rw [HZL.out]; omega), HZL.out]
        refine (show wr.drew.cell? ⟨w2.heap.size, k, none⟩ = wr.cell? ⟨w2.heap.size, k, none⟩ from rfl).trans (e1.trans ?_)
        simp [nums, List.getD, e2, hlt]
      obtain ⟨v0, hd1⟩ := hd1
      have hd2 : wr.drew.frozen? ⟨w2.heap.size, k, none⟩ = false := HO.out.frozenAt k
      clear hst1 hst2 hxk hyk
      go_wp2
      go_roundw
      case rel => exact ⟨k + 1, by omega, by go_num, HO2.out, HB2'.out⟩
      case measure => simp [intOf]; omega
    · obtain rfl : k = xs.length := by omega
      obtain ⟨c00, c01, -, -⟩ := cells2 ((HBr.out.block _ (by have := HL.out; omega)).trans B0.out)
      obtain ⟨c30, c31, f30, f31⟩ := cells2 ((HBr.out.block _ (by have := HL.out; omega)).trans B2.out)
      go_wp2
      refine bodyPost_ret (v := .tuple #[.agg #[.int .i64 n, .slice (some ⟨w2.heap.size, 0, none⟩) xs.length xs.length], .int .i64 0]) ?_ rfl ⟨_, rfl, ?_, ?_⟩
      · simp [results, Tryd.results47, go_sem, *]
      · have hrow : wr.ownsRow w.heap.size 55 1 (.slice (some ⟨w2.heap.size, 0, none⟩) xs.length xs.length) zs.length (encs (Value.int .u64) zs) := by
          have := own_weaken HO.out HB2.out.size
          rw [← HZL.out, fill_all, HZL.out] at this
          rw [HZL.out]
          exact this
        exact Kd.R_mono (Kd.R_far (p := ⟨w.heap.size + 1 + 1, 1, none⟩) (Kd.R_far (p := ⟨w.heap.size + 1 + 1, 0, none⟩) (Kd.R_types (Kd.R_of_own (ok := fun _ => True) hrow (fun _ _ => trivial)) ((HBr.out.block _ (by have := HL.out; omega)).trans B2.out) (by decide)) (fun k hk => hk.2) _) (fun k hk => hk.2) _) (fun _ _ => trivial)
      · exact ((HB2.out.trans (HBr.out.mono HB2.out.size)).setCell (p := ⟨w.heap.size + 1 + 1, 0, none⟩) (show w.heap.size ≤ w.heap.size + 1 + 1 by omega) _).setCell (p := ⟨w.heap.size + 1 + 1, 1, none⟩) (show w.heap.size ≤ w.heap.size + 1 + 1 by omega) _
theorem andNot_both (n : Int) (A : Option Addr) (c : Nat) (xs : List Int) (m : Int) (B : Option Addr) (d : Nat) (ys : List Int) (w : World) (hr : Kd.C (Kd.int .u64) w A xs.length xs) (hc : xs.length ≤ c) (hr2 : Kd.C (Kd.int .u64) w B ys.length ys) (hc2 : ys.length ≤ d) :
    Calls Tryd.prog 47 #[.agg #[.int .i64 n, .slice A xs.length c], .agg #[.int .i64 m, .slice B ys.length d], .func (.func 52) #[] #[]] w fun e w' => ∃ v1_ : Value, e = .returned (.tuple #[.agg #[.int .i64 (bBoth .andNot n xs m ys).1, v1_], .int .i64 (bBoth .andNot n xs m ys).2.2]) ∧ Kd.R (Kd.int .u64) 55 w' w.heap.size (fun _ => True) v1_ (bBoth .andNot n xs m ys).2.1 ∧ Below w.heap.size w w' := by
  by_cases hg : Good n xs
  · by_cases hh : Good m ys
    · by_cases hnm : n = m
      · subst hnm
        have e : bBoth .andNot n xs n ys = (n, List.zipWith (Go.bits .andNot .u64) xs ys, 0) := by
          unfold bBoth
          rw [if_pos ((good_iff _ _).2 hg), if_pos ((good_iff _ _).2 hh), if_pos rfl]
        rw [e]
        have := hg.len_le; have := hg.len; have := hh.len
        exact andNot_ok n A c xs B d ys w hr hc hr2 hc2 (good_yes hg 0) (good_yes hh 0) (by omega) (by omega)
      · have e : bBoth .andNot n xs m ys = (0, [], 22) := by
          unfold bBoth
          rw [if_pos ((good_iff _ _).2 hg), if_pos ((good_iff _ _).2 hh), if_neg hnm]
        rw [e]
        exact (both_good n A c xs m B d ys w hr hc hr2 hc2 (good_yes hg 0) (good_yes hh 0) hnm _).mono fun e w' ⟨he, hb⟩ => ⟨_, he, Kd.R_nil _ _ _ _ _, hb⟩
    · have e : bBoth .andNot n xs m ys = (0, [], 3) := by
        unfold bBoth
        rw [if_pos ((good_iff _ _).2 hg), if_neg (fun h => hh ((good_iff _ _).1 h))]
      rw [e]
      exact (both_bad2 n A c xs m B d ys w hr hc hr2 hc2 (good_yes hg 0) (good_no hh 0) _).mono fun e w' ⟨he, hb⟩ => ⟨_, he, Kd.R_nil _ _ _ _ _, hb⟩
  · have e : bBoth .andNot n xs m ys = (0, [], 3) := by
      unfold bBoth
      rw [if_neg (fun h => hg ((good_iff _ _).1 h))]
    rw [e]
    exact (both_bad1 n A c xs m B d ys w hr hc (good_no hg 0) _).mono fun e w' ⟨he, hb⟩ => ⟨_, he, Kd.R_nil _ _ _ _ _, hb⟩
set_option maxHeartbeats 2000000 in
set_option maxRecDepth 100000 in
theorem bAndNot.calls (a0_0 : Int) (A0_1 : Option Addr) (c0_1 : Nat) (l0_1 : List Int) (a1_0 : Int) (A1_1 : Option Addr) (c1_1 : Nat) (l1_1 : List Int) (r1 : Int) (r2 : List Int) (r3 : Int) (w : World) (hr0_1 : Kd.C (Kd.int .u64) w A0_1 l0_1.length l0_1) (hc0_1 : l0_1.length ≤ c0_1) (hr1_1 : Kd.C (Kd.int .u64) w A1_1 l1_1.length l1_1) (hc1_1 : l1_1.length ≤ c1_1) (h : bAndNot.f a0_0 l0_1 a1_0 l1_1 = some (r1, r2, r3)) :
    Calls Tryd.prog 37 #[.agg #[.int .i64 a0_0, .slice A0_1 l0_1.length c0_1], .agg #[.int .i64 a1_0, .slice A1_1 l1_1.length c1_1]] w fun e w' => ∃ v1_ : Value, e = .returned (.tuple #[.agg #[.int .i64 r1, v1_], .int .i64 r3]) ∧ Kd.R (Kd.int .u64) 55 w' w.heap.size (fun _ => True) v1_ r2 ∧ Below w.heap.size w w' := by
  obtain ⟨rfl, rfl, rfl⟩ : (bBoth .andNot a0_0 l0_1 a1_0 l1_1).1 = r1 ∧ (bBoth .andNot a0_0 l0_1 a1_0 l1_1).2.1 = r2 ∧ (bBoth .andNot a0_0 l0_1 a1_0 l1_1).2.2 = r3 := by
    have := Option.some.inj h
    rw [this]; exact ⟨rfl, rfl, rfl⟩
  have HR := Aside0.mk hr0_1
  have HC := Aside0.mk hc0_1
  have HR2 := Aside0.mk hr1_1
  have HC2 := Aside0.mk hc1_1
  have HA := fun (W : World) (hb : Below w.heap.size w W) => andNot_both a0_0 A0_1 c0_1 l0_1 a1_0 A1_1 c1_1 l1_1 W (Kd.C_below HR.out hb) HC.out (Kd.C_below HR2.out hb) HC2.out
  generalize bBoth .andNot a0_0 l0_1 a1_0 l1_1 = q at HA ⊢
  have HQ := Aside0.mk HA
  clear hr0_1 hc0_1 hr1_1 hc1_1 h HA
  go_enter Tryd.func37, Tryd.ntmps37
  go_wp2_with fail
  obtain ⟨W, hW, hB, -, -, -, h2⟩ := new3 w (Obj.cells #[Value.int IntKind.i64 a0_0, Value.slice A0_1 l0_1.length c0_1] 24) (Obj.cells #[Value.int IntKind.i64 a1_0, Value.slice A1_1 l1_1.length c1_1] 24) (Obj.cells #[Value.int IntKind.i64 0, Value.slice none 0 0] 24)
  rw [hW]
  have HB := Aside0.mk hB
  have B2 := Aside0.mk h2
  clear hW hB h2
  refine (HQ.out W HB.out).mono ?_
  rintro e w1 ⟨v1, rfl, hR, hb1⟩
  obtain ⟨A2, c2, rfl⟩ : ∃ A2 c2, v1 = .slice A2 q.2.1.length c2 := by
    obtain ⟨inner, ho, -⟩ := hR.2
    exact own_slice ho
  obtain ⟨c30, c31, f30, f31⟩ := cells2 (blk_of_below B2.out hb1)
  have HB1 := Aside0.mk (below_step HB.out hb1)
  have HRR := Aside0.mk (Kd.R_types (Kd.R_lower hR HB.out.size) (blk_of_below B2.out hb1) (by decide))
  clear hb1 hR
  go_wp2_with fail
  refine bodyPost_ret (v := .tuple #[.agg #[.int .i64 q.1, .slice A2 q.2.1.length c2], .int .i64 q.2.2]) ?_ rfl ⟨_, rfl, ?_, ?_⟩
  · simp [results, Tryd.results37, go_sem, *]
  · exact Kd.R_mono (Kd.R_far (p := ⟨w.heap.size + 1 + 1, 1, none⟩) (Kd.R_far (p := ⟨w.heap.size + 1 + 1, 0, none⟩) HRR.out (fun k hk => hk.2) _) (fun k hk => hk.2) _) (fun _ _ => trivial)
  · exact (HB1.out.setCell (p := ⟨w.heap.size + 1 + 1, 0, none⟩) (show w.heap.size ≤ w.heap.size + 1 + 1 by omega) _).setCell (p := ⟨w.heap.size + 1 + 1, 1, none⟩) (show w.heap.size ≤ w.heap.size + 1 + 1 by omega) _
end Go.Proofs.YthpldfjjdmjcoaaDoor.P
