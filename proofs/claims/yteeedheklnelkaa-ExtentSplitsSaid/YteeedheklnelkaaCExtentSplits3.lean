/-
  Parts of the proof of the law ExtentSplits (part 3): what the functions it reaches come to, and the plain law. Conditions: those that each theorem names.
-/
import Derived.KernelRfl
import Derived.Test.YteeedheklnelkaaCExtentSplits2
namespace Go.Proofs.Yteeedheklnelkaa.P
open Go.RowKit Go.Proofs.YteeedheklnelkaaW.PrintWords Go.Proofs.YteeedheklnelkaaW.PrintLast Go.Proofs.YteeedheklnelkaaW.PrintMore
theorem canonN_zero (p : Nat → Bool) : canonN 0 p = [] := by unfold canonN; rfl
theorem canonN_succ (N : Nat) (p : Nat → Bool) : canonN (N + 1) p = if p N then joinE (canonN N p) N else canonN N p := by
  unfold canonN
  rw [List.range_succ, List.filter_append, List.map_append, List.foldl_append, List.filter_cons]
  cases p N
  · rfl
  · rfl
theorem asc_le_end : ∀ (L : List S40) (p : Int), Asc p L → p ≤ endL p L ∧ ∀ e ∈ L, e.f0 + e.f1 ≤ endL p L
  | [], p, _ => ⟨Int.le_refl _, fun _ h => by cases h⟩
  | x :: L, p, h => by
    obtain ⟨h1, h2, h3⟩ := h
    obtain ⟨i1, i2⟩ := asc_le_end L _ h3
    rw [endL]
    refine ⟨by omega, fun e he => ?_⟩
    rcases List.mem_cons.1 he with rfl | he
    · exact i1
    · exact i2 e he
theorem canonN_len (N : Nat) (_hN : N ≤ 1000000) (p : Nat → Bool) : (canonN N p).length ≤ N := by
  unfold canonN
  have h := fold_len (((List.range N).filter p).map fun (b : Nat) => (b : Int)) []
  have h2 := List.length_filter_le p (List.range N)
  rw [List.length_range] at h2
  rw [List.length_map] at h
  simp only [List.length_nil] at h
  omega
/-- Behind i places: the last extent ends at i iff the place before i is marked. -/
theorem canonN_last (i : Nat) (hi : i ≤ 1000000) (p : Nat → Bool) (h0 : 0 < i) (hp : p (i - 1) = true) : ∃ M e, canonN i p = M ++ [e] ∧ e.f0 + e.f1 = (i : Int) := by
  have J := canonN_joined i hi p
  have hc := (canonN_cov i hi p ((i - 1 : Nat) : Int)).2 ⟨by omega, by omega, by rw [Int.toNat_natCast]; exact hp⟩
  have hasc := J.asc
  have hbd := J.bound
  generalize canonN i p = L at hc hasc hbd
  obtain ⟨e, he, h1, h2⟩ := hc
  have hend := (asc_le_end L (-1) hasc).2 e he
  rcases L.eq_nil_or_concat with h | ⟨M, x, h⟩
  · subst h; cases he
  · rw [List.concat_eq_append] at h
    subst h
    rw [endL_snoc] at hend
    have := hbd x (by simp)
    exact ⟨M, x, rfl, by omega⟩
theorem canonN_not_last (i : Nat) (hi : i ≤ 1000000) (p : Nat → Bool) (hp : 0 < i → p (i - 1) = false) : canonN i p = [] ∨ ∃ M e, canonN i p = M ++ [e] ∧ wrap64 (e.f0 + e.f1) ≠ i := by
  have J := canonN_joined i hi p
  have hcov := fun t => canonN_cov i hi p t
  have hbd := J.bound
  generalize canonN i p = L at hcov hbd
  rcases L.eq_nil_or_concat with h | ⟨M, e, h⟩
  · exact .inl h
  · rw [List.concat_eq_append] at h
    subst h
    right
    have hb := hbd e (by simp)
    refine ⟨M, e, rfl, ?_⟩
    rw [w64 _ (by omega) (by omega)]
    intro hEq
    have := (hcov ((i - 1 : Nat) : Int)).1 ⟨e, by simp, by omega, by omega⟩
    rw [Int.toNat_natCast, hp (by omega)] at this
    cases this.2.2
theorem list_loop (N : Nat) (hN : N ≤ 100000) (p : Nat → Bool) : ∀ (n k i : Nat), i + n = N → n < k → r01List.l0 k (bvN N p) (canonN i p) i = some (canonN N p) := by
  intro n
  induction n with
  | zero =>
    intro k i hi hk
    obtain ⟨k, rfl⟩ : ∃ m, k = m + 1 := ⟨k - 1, by omega⟩
    obtain rfl : i = N := by omega
    rw [r01List.l0, if_neg (by rw [bvN_length]; omega)]
  | succ n ih =>
    intro k i hi hk
    obtain ⟨k, rfl⟩ : ∃ m, k = m + 1 := ⟨k - 1, by omega⟩
    have hlen := canonN_len i (by omega) p
    have ih' := ih k (i + 1) (by omega) (by omega)
    rw [canonN_succ] at ih'
    rw [r01List.l0, bvN_length, if_pos (by omega), if_pos (by omega), bvN_get p (by omega), wsucc i (by omega)]
    cases hp : p i
    · rw [hp, if_neg (by decide)] at ih'
      rw [if_neg (by decide), ih']
    · rw [hp, if_pos rfl] at ih'
      rw [if_pos rfl]
      have happ : (canonN i p = [] ∨ ∃ M e, canonN i p = M ++ [e] ∧ wrap64 (e.f0 + e.f1) ≠ i) → joinE (canonN i p) i = canonN i p ++ [⟨(i : Int), 1⟩] := by
        rintro (h | ⟨M, e, h, hne⟩)
        · rw [h]; rfl
        · rw [h, joinE_snoc, if_neg hne]
      by_cases h0 : (i : Int) > 0
      · have e1 : wrap64 ((i : Int) - 1) = ((i - 1 : Nat) : Int) := by rw [w64 _ (by omega) (by omega)]; omega
        rw [if_pos h0, e1, if_pos (by omega), if_pos (by omega), bvN_get p (by omega)]
        cases hq : p (i - 1)
        · rw [if_neg (by decide), if_pos (by omega), ← happ (canonN_not_last i (by omega) p (fun _ => hq)), ih']
        · rw [if_pos rfl]
          obtain ⟨M, e, hM, hend⟩ := canonN_last i (by omega) p (by omega) hq
          rw [hM] at hlen ih' ⊢
          have hl : (M ++ [e]).length = M.length + 1 := by simp
          have hd : wrap64 (((M ++ [e]).length : Int) - 1) = (M.length : Int) := by rw [hl, w64 _ (by omega) (by omega)]; omega
          have hr : rd_T40 (M ++ [e]) (M.length : Int) = e := by
            unfold rd_T40
            rw [Int.toNat_natCast, List.getD_eq_getElem?_getD, List.getElem?_append_right (Nat.le_refl _)]
            simp
          have hset : (M ++ [e]).set M.length (⟨e.f0, wrap64 (e.f1 + 1)⟩ : S40) = M ++ [⟨e.f0, wrap64 (e.f1 + 1)⟩] := by
            rw [List.set_append_right _ _ (Nat.le_refl _)]; simp
          rw [hd, if_pos (by omega), if_pos (by rw [hl]; omega), hr, Int.toNat_natCast, hset]
          rw [joinE_snoc, if_pos (by rw [w64 _ (by omega) (by omega)]; exact hend)] at ih'
          exact ih'
      · rw [if_neg h0, if_pos (by omega), ← happ (canonN_not_last i (by omega) p (fun h => by omega)), ih']
theorem list_eq (N : Nat) (hN : N ≤ 4096) (p : Nat → Bool) {k : Nat} (hk : 5000 ≤ k) : r01List.f k (bvN N p) = some (canonN N p) := by
  unfold r01List.f
  have := list_loop N (by omega) p N k 0 (by omega) (by omega)
  rw [canonN_zero] at this
  exact this
theorem list_marks (p : Nat → Bool) {k : Nat} (hk : 5000 ≤ k) : r01List.f k (bvN 4096 p) = some (canon p) := by rw [canon_eq]; exact list_eq 4096 (by omega) p hk
theorem same_loop (l : List S40) (hl : l.length ≤ 100000) : ∀ (n k i : Nat), i + n = l.length → n < k → r01Same.l0 k l l i = some true := by
  intro n
  induction n with
  | zero =>
    intro k i hi hk
    obtain ⟨k, rfl⟩ : ∃ m, k = m + 1 := ⟨k - 1, by omega⟩
    rw [r01Same.l0, if_neg (by omega)]
  | succ n ih =>
    intro k i hi hk
    obtain ⟨k, rfl⟩ : ∃ m, k = m + 1 := ⟨k - 1, by omega⟩
    rw [r01Same.l0, if_pos (by omega), if_pos (by omega), if_pos (by omega), if_neg (by simp), wsucc i (by omega), ih k (i + 1) (by omega) (by omega)]
theorem same_eq (l : List S40) {k : Nat} (hl : l.length ≤ 10000) (hk : 10001 ≤ k) : r01Same.f k l l = some true := by
  unfold r01Same.f
  rw [if_pos rfl]
  exact same_loop l (by omega) l.length k 0 (by omega) (by omega)
end Go.Proofs.Yteeedheklnelkaa.P

namespace Go.Proofs.Yteeedheklnelkaa.P
open Go.RowKit Go.Proofs.YteeedheklnelkaaW.PrintWords Go.Proofs.YteeedheklnelkaaW.PrintLast Go.Proofs.YteeedheklnelkaaW.PrintMore
theorem inL_nil (t : Int) : inL [] t = false := rfl
theorem xUnion_eq (a b : List S40) (h : a.length + b.length ≤ 100000) : xUnion.f a b = some (canon fun j => inL a j || inL b j) := by unfold xUnion.f opX; rw [if_pos h]
theorem union_nil (l : List S40) (h : l.length ≤ 100000) : xUnion.f l [] = some (canon fun j => inL l j) := by
  rw [xUnion_eq l [] (by simpa using h)]
  congr 1
  exact canon_congr fun j _ => by rw [inL_nil, Bool.or_false]
end Go.Proofs.Yteeedheklnelkaa.P

namespace Go.Proofs.Yteeedheklnelkaa.P
open Go.RowKit Go.Proofs.YteeedheklnelkaaW.PrintWords Go.Proofs.YteeedheklnelkaaW.PrintLast Go.Proofs.YteeedheklnelkaaW.PrintMore
theorem awake100 : l01awake.f 100 = some true := by kernel_rfl
theorem awake_eq {k : Nat} (hk : 100 ≤ k) : l01awake.f k = some true := by
  obtain ⟨n, rfl⟩ : ∃ n, k = 100 + n := ⟨k - 100, by omega⟩
  clear hk
  induction n with
  | zero => exact awake100
  | succ n ih => exact l01awake.mono _ _ ih
end Go.Proofs.Yteeedheklnelkaa.P

namespace Go.Proofs.Yteeedheklnelkaa.P
open Go.RowKit Go.Proofs.YteeedheklnelkaaW.PrintWords Go.Proofs.YteeedheklnelkaaW.PrintLast Go.Proofs.YteeedheklnelkaaW.PrintMore
attribute [local go_sem] max2_int min2_int max_two min_two max_three min_three max_four min_four   -- for this text's walks alone
set_option linter.unusedVariables false
set_option linter.unusedSimpArgs false
mutual
def r01Split.l0 : Nat → Int → List (S40) → List (S40) → Int → Option ((List (S40)) × Int)
  | 0, _, _, _, _ => none
  | k + 1, x1, x6, x7, x8 => if x8 < (x7.length : Int) then (if 0 ≤ x8 then (r01Split.l1 k x1 x6 x7 x8 ((rd_T40 x7 x8).f0) ((rd_T40 x7 x8).f1)) else (none)) else (some (x6, 0))
def r01Split.l1 : Nat → Int → List (S40) → List (S40) → Int → Int → Int → Option ((List (S40)) × Int)
  | 0, _, _, _, _, _, _ => none
  | k + 1, x1, x6, x7, x8, x398000, x398001 => if x398001 > 0 then (if x6.length < 8796093022208 then (r01Split.l1 k x1 (x6 ++ [(⟨x398000, mn x398001 x1⟩ : S40)]) x7 x8 (wrap64 (x398000 + (mn x398001 x1))) (wrap64 (x398001 - (mn x398001 x1)))) else (none)) else (r01Split.l0 k x1 x6 x7 (wrap64 (x8 + 1)))
end
def r01Split.f (k : Nat) (l0 : List (S40)) (a1 : Int) : Option ((List (S40)) × Int) := if a1 < 1 then (some (([] : List (S40)), 1)) else ((r01Marks.f k l0).bind fun t390 => ((r01List.f k t390).bind fun t393 => (r01Split.l0 k a1 ([] : List (S40)) t393 0)))
set_option maxHeartbeats 8000000 in
set_option maxRecDepth 100000 in
theorem r01Split.calls (k : Nat) (A0 : Option Addr) (c0 : Nat) (l0 : List (S40)) (a1 : Int) (r1 : List (S40)) (r2 : Int) (w : World) (hr0 : Kd.C k40 w A0 l0.length l0) (hc0 : l0.length ≤ c0) (h : r01Split.f k l0 a1 = some (r1, r2)) :
    Calls Try.prog 24 #[.slice A0 l0.length c0, .int .i64 a1] w fun e w' => ∃ v0_ : Value, e = .returned (.tuple #[v0_, .int .i64 r2]) ∧ Kd.R k40 40 w' w.heap.size (fun _ => True) v0_ r1 ∧ Below w.heap.size w w' := by
  have hu40 := Try.underlying40
  have HR0 := Aside0.mk hr0
  have HC0 := Aside0.mk hc0
  clear hr0 hc0
  have HB := Aside0.mk (Below.refl w.heap.size w)
  have H : (if a1 < 1 then (some (([] : List (S40)), 1)) else ((r01Marks.f k l0).bind fun t390 => ((r01List.f k t390).bind fun t393 => (r01Split.l0 k a1 ([] : List (S40)) t393 0)))) = some (r1, r2) := h
  clear h
  by_cases c3 : a1 < 1
  · rw [if_pos c3] at H
    have c3b0 : decide (a1 < 1) = true := decide_eq_true c3
    clear c3
    simp only [Option.some.injEq, Prod.mk.injEq] at H
    obtain ⟨rfl, rfl⟩ := H
    go_enter Try.func24, Try.ntmps24
    go_wp2
    go_ret2
    exact ⟨_, by first | rfl | (simp [errW_none, errW_some] <;> rfl) | (simp [*, errW_none, errW_some] <;> rfl), by first | exact Kd.R_nil _ _ _ _ _ | exact Kd.N_nil _ _ _ _ _ | exact Kd.V_nil _ _ _ _ _ | exact Kd.Q_nil _ _ _ _ _ | exact Kd.S_nil _ _ _ _ _, by repeat (first | (with_reducible first | exact HB.out | apply below_alloc | apply pw_below_drewN | apply below_drew1) | exact HB.out)⟩
  · rw [if_neg c3] at H
    have c3b0 : decide (a1 < 1) = false := decide_eq_false c3
    clear c3
    replace H := Option.bind_eq_some_iff.mp H
    obtain ⟨t390, A40, H⟩ := H
    replace H : ((r01List.f k t390).bind fun t393 => (r01Split.l0 k a1 ([] : List (S40)) t393 0)) = some (r1, r2) := H
    have A4 := Aside0.mk A40
    clear A40
    replace H := Option.bind_eq_some_iff.mp H
    obtain ⟨t393, A50, H⟩ := H
    replace H : (r01Split.l0 k a1 ([] : List (S40)) t393 0) = some (r1, r2) := H
    have A5 := Aside0.mk A50
    clear A50
    have H' := Aside0.mk H
    clear H
    go_enter Try.func24, Try.ntmps24
    go_wp2_with (first | ((with_reducible refine gate_callee (f := 36) rfl ?_); refine goesL_ (some 14) rfl rfl Try.func36 (by kernel_rfl) rfl #[.slice A0 l0.length c0] rfl (by (try simp only [List.map_toArray, List.map_cons, List.map_nil]); first | done | rfl | (simp only [List.length_drop, List.length_take]; rfl)) ?_; (with_reducible refine (r01Marks.calls k _ _ l0 t390 _ ?side1 ?side2 A4.out).mono ?_); (case side1 => repeat (first | exact HR0.out | (with_reducible refine Kd.C_alloc ?_ _) | (with_reducible refine Kd.C_drewN ?_ _) | (with_reducible refine Kd.C_drew ?_))); (case side2 => exact HC0.out); rintro e w6 ⟨v391, rfl, ho0, hb⟩; refine ⟨_, rfl, ?_⟩; have n0_ := Aside0.mk (Kd.R_lower ho0 (below_size (by repeat (first | (with_reducible first | exact HB.out | apply below_alloc | apply pw_below_drewN | apply below_drew1) | exact HB.out)))); have n1_ := Aside0.mk (below_step (by repeat (first | (with_reducible first | exact HB.out | apply below_alloc | apply pw_below_drewN | apply below_drew1) | exact HB.out)) hb); clear HB; have HO392 := n0_; have HB := n1_; clear n0_ n1_; (try clear hb); (try clear hb2); (try clear hk); (try clear hi); (try clear ho0); obtain ⟨Ao7, co7, eo7⟩ := Kd.R_slice HO392.out; subst eo7) | ((with_reducible refine gate_callee (f := 35) rfl ?_); refine goesL_ (some 15) rfl rfl Try.func35 (by kernel_rfl) rfl #[.slice Ao7 t390.length co7] rfl (by (try simp only [List.map_toArray, List.map_cons, List.map_nil]); first | done | rfl | (simp only [List.length_drop, List.length_take]; rfl)) ?_; (with_reducible refine (r01List.calls k _ _ t390 t393 _ ?side1 ?side2 A5.out).mono ?_); (case side1 => repeat (first | exact (Kd.R_reads' HO392.out).2.2 | (with_reducible refine Kd.C_alloc ?_ _) | (with_reducible refine Kd.C_drewN ?_ _) | (with_reducible refine Kd.C_drew ?_))); (case side2 => exact (Kd.R_reads' HO392.out).2.1); rintro e w8 ⟨v394, rfl, ho0, hb⟩; refine ⟨_, rfl, ?_⟩; have n0_ := Aside0.mk (Kd.R_below (by (with_reducible repeat (first | apply Kd.R_alloc | apply Kd.R_drewN | apply Kd.R_drew)); exact HO392.out) hb); have n1_ := Aside0.mk (Kd.R_lower ho0 (below_size (by repeat (first | (with_reducible first | exact HB.out | apply below_alloc | apply pw_below_drewN | apply below_drew1) | exact HB.out)))); have n2_ := Aside0.mk (below_step (by repeat (first | (with_reducible first | exact HB.out | apply below_alloc | apply pw_below_drewN | apply below_drew1) | exact HB.out)) hb); clear HO392; clear HB; have HO392 := n0_; have HO395 := n1_; have HB := n2_; clear n0_ n1_ n2_; (try clear hb); (try clear hb2); (try clear hk); (try clear hi); (try clear ho0)))
    go_loopg [6, 8] k (fun kq v6 v8 w' => ∃ (x6_1 : List (S40)) (x8_1 : Int), v8 = .int .i64 x8_1 ∧ Aside0 (r01Split.l0 kq a1 x6_1 t393 x8_1 = some (r1, r2)) ∧ Aside0 (kq ≤ k) ∧ Aside0 (Kd.R k40 40 w' w.heap.size (fun k_ => some k_ ≠ (v394 : Value).ownBlock) v6 x6_1) ∧ Aside0 (Kd.R k40 40 w' w.heap.size (fun k_ => some k_ ≠ (v6 : Value).ownBlock) v394 t393) ∧ Aside0 (Below w.heap.size w w'))
    case atStart => exact ⟨(([] : List (S40))), (0), (by first | rfl | (simp; done) | (simp [*]; done)), H', ⟨Nat.le_refl _⟩, ⟨by first | exact Kd.R_nil _ _ _ _ _ | exact Kd.N_nil _ _ _ _ _ | exact Kd.V_nil _ _ _ _ _ | exact Kd.Q_nil _ _ _ _ _ | exact Kd.S_nil _ _ _ _ _⟩, ⟨by (with_reducible repeat (first | apply Kd.R_alloc | apply Kd.R_drewN | apply Kd.R_drew)); exact Kd.R_mono HO395.out (fun _ hk => (by simp [Value.ownBlock]))⟩, ⟨by repeat (first | (with_reducible first | exact HB.out | apply below_alloc | apply pw_below_drewN | apply below_drew1) | exact HB.out)⟩⟩
    case round =>
      clear H'
      try clear c2
      try clear p2
      try clear c3
      try clear c3b0
      obtain ⟨x6_1, x8_1, rfl, HA, HK1, HO_6, HO_7, HB⟩ := hrel
      cases gk with
      | zero => exact absurd HA.out (by simp [r01Split.l0])
      | succ k1 =>
        have H := HA.out
        clear HA
        simp only [r01Split.l0] at H
        by_cases c9 : x8_1 < (t393.length : Int)
        · rw [if_pos c9] at H
          have c9b0 : decide (x8_1 < (t393.length : Int)) = true := decide_eq_true c9
          clear c9
          by_cases c10 : 0 ≤ x8_1
          · rw [if_pos c10] at H
            have c10b0 : decide (0 ≤ x8_1) = true := decide_eq_true c10
            clear c10
            have H' := Aside0.mk H
            clear H
            obtain ⟨Ao11, co11, eo11⟩ := Kd.R_slice HO_7.out
            subst eo11
            have p396 : 0 ≤ (x8_1 : Int) := of_decide_eq_true (by first | (with_reducible assumption) | assumption)
            have q396 : x8_1 < (t393.length : Int) := of_decide_eq_true (by first | (with_reducible assumption) | assumption)
            obtain ⟨ad396, e396, hx396_0, hx396_1⟩ := at_T40 (Kd.R_reads' HO_7.out).2.2 x8_1 p396 q396
            cases e396
            replace p396 := eq_true p396
            replace q396 := eq_true q396
            go_wp2_with (first | ((with_reducible refine gate_dst (N := 9) rfl ?_); refine box_event ?hg (N := 9) ?hd (cs := #[.int .i64 0, .int .i64 0]) (t := 40) ?hr ?_; (case hd => rfl); (case hg => rfl); (case hr => first | (go_simp; done) | (go_simp; rfl)); intro gb397 hg w12 hbox hb; have n0_ := Aside0.mk (Kd.R_below (Kd.R_elderB (by (with_reducible repeat (first | apply Kd.R_alloc | apply Kd.R_drewN | apply Kd.R_drew)); exact HO_6.out) gb397 (Nat.le_of_eq hg.symm)) hb); have n1_ := Aside0.mk (Kd.R_below (Kd.R_elderB (by (with_reducible repeat (first | apply Kd.R_alloc | apply Kd.R_drewN | apply Kd.R_drew)); exact HO_7.out) gb397 (Nat.le_of_eq hg.symm)) hb); have n2_ := Aside0.mk (below_step (by repeat (first | (with_reducible first | exact HB.out | apply below_alloc | apply pw_below_drewN | apply below_drew1) | exact HB.out)) hb); have n3_ := Aside0.mk (hbox); have n4_ := Aside0.mk ((by rw [hg]; exact (below_size (by repeat (first | (with_reducible first | exact HB.out | apply below_alloc | apply pw_below_drewN | apply below_drew1) | exact HB.out))) : w.heap.size ≤ gb397)); have n5_ := Aside0.mk ((by rw [hg]; exact (below_size (by repeat (first | (with_reducible first | exact HB.out | apply below_alloc | apply pw_below_drewN | apply below_drew1) | exact HB.out))) : w.heap.size ≤ gb397)); clear HO_6; clear HO_7; clear HB; have HO_6 := n0_; have HO_7 := n1_; have HB := n2_; have BK397 := n3_; have GW397 := n4_; have GE397 := n5_; clear n0_ n1_ n2_ n3_ n4_ n5_; clear hb hbox hg; have hcz13_0 : w12.cell? ⟨gb397, 0, none⟩ = some (.int .i64 0) := (blk_cell BK397.out 0).trans rfl; have hcz13_1 : w12.cell? ⟨gb397, 1, none⟩ = some (.int .i64 0) := (blk_cell BK397.out 1).trans rfl; have hfz13_0 := blk_frozen BK397.out 0; have hfz13_1 := blk_frozen BK397.out 1))
            go_loopg [6] k1 (fun kq v6 w' => ∃ (x6_2 : List (S40)) (x398000_2 : Int) (x398001_2 : Int), Aside0 (r01Split.l1 kq a1 x6_2 t393 x8_1 x398000_2 x398001_2 = some (r1, r2)) ∧ Aside0 (kq ≤ k1) ∧ Aside0 (Kd.R k40 40 w' w.heap.size (fun k_ => some k_ ≠ ((.slice (some ad396) t393.length co11) : Value).ownBlock ∧ k_ ≠ gb397) v6 x6_2) ∧ Aside0 (Kd.R k40 40 w' w.heap.size (fun k_ => some k_ ≠ (v6 : Value).ownBlock ∧ k_ ≠ gb397) (.slice (some ad396) t393.length co11) t393) ∧ Aside0 (w'.heap[gb397]? = some (.cells #[.int .i64 x398000_2, .int .i64 x398001_2] 40 (0, 0))) ∧ Aside0 (Below w.heap.size w w'))
            case atStart => exact ⟨(x6_1), ((rd_T40 t393 x8_1).f0), ((rd_T40 t393 x8_1).f1), H', ⟨Nat.le_refl _⟩, ⟨by (with_reducible repeat (first | apply Kd.R_alloc | apply Kd.R_drewN | apply Kd.R_drew)); exact Kd.R_mono (Kd.R_far (p := ⟨gb397, 1, none⟩) (Kd.R_far (p := ⟨gb397, 0, none⟩) (Kd.R_mono HO_6.out (fun k_ hk => (⟨hk, hk.2⟩ : _ ∧ k_ ≠ gb397))) (fun _ hk => hk.2) (.int .i64 ((rd_T40 t393 x8_1).f0))) (fun _ hk => hk.2) (.int .i64 ((rd_T40 t393 x8_1).f1))) (fun _ hk => by first | exact ⟨hk.1.1, hk.1.2⟩ | (revert hk; simp only [and_imp]; intros; (repeat' (first | assumption | apply And.intro)); done))⟩, ⟨by (with_reducible repeat (first | apply Kd.R_alloc | apply Kd.R_drewN | apply Kd.R_drew)); exact Kd.R_mono (Kd.R_far (p := ⟨gb397, 1, none⟩) (Kd.R_far (p := ⟨gb397, 0, none⟩) (Kd.R_mono HO_7.out (fun k_ hk => (⟨hk, hk.2⟩ : _ ∧ k_ ≠ gb397))) (fun _ hk => hk.2) (.int .i64 ((rd_T40 t393 x8_1).f0))) (fun _ hk => hk.2) (.int .i64 ((rd_T40 t393 x8_1).f1))) (fun _ hk => by first | exact ⟨hk.1.1, hk.1.2⟩ | (revert hk; simp only [and_imp]; intros; (repeat' (first | assumption | apply And.intro)); done))⟩, ⟨by (with_reducible repeat (first | refine blk_drewN ?_ _ | refine blk_drew ?_ | refine blk_alloc ?_ _)); refine blk_put (cs := #[.int .i64 ((rd_T40 t393 x8_1).f0), .int .i64 0]) ?_ 1 _ rfl; (with_reducible repeat (first | refine blk_drewN ?_ _ | refine blk_drew ?_ | refine blk_alloc ?_ _)); refine blk_put (cs := #[.int .i64 0, .int .i64 0]) ?_ 0 _ rfl; (with_reducible repeat (first | refine blk_drewN ?_ _ | refine blk_drew ?_ | refine blk_alloc ?_ _)); exact BK397.out⟩, ⟨by repeat (first | (with_reducible first | exact HB.out | apply below_alloc | apply pw_below_drewN | apply below_drew1 | refine below_set ?_ GE397.out) | exact HB.out)⟩⟩
            case round =>
              clear H'
              try clear c1
              try clear c2
              try clear p2
              try clear c3
              try clear c3b0
              try clear p3
              try clear q3
              try clear hx3
              try clear c9
              try clear c9b0
              try clear c10
              try clear c10b0
              try clear hcz13_0
              try clear hcz13_1
              try clear hfz13_0
              try clear hfz13_1
              try clear hx396_0
              try clear hx396_1
              try clear p2
              try clear p396
              try clear q396
              obtain ⟨x6_2, x398000_2, x398001_2, HA, HK2, HO_6, HO_7, BK397, HB⟩ := hrel
              cases gk with
              | zero => exact absurd HA.out (by simp [r01Split.l1])
              | succ k2 =>
                have H := HA.out
                clear HA
                simp only [r01Split.l1] at H
                by_cases c14 : x398001_2 > 0
                · rw [if_pos c14] at H
                  have c14b0 : decide (0 < x398001_2) = true := decide_eq_true c14
                  clear c14
                  obtain ⟨ji15, hji15⟩ : ∃ j_ : Int, (mn x398001_2 a1) = j_ := ⟨_, rfl⟩
                  replace H : (if x6_2.length < 8796093022208 then (r01Split.l1 k2 a1 (x6_2 ++ [(⟨x398000_2, ji15⟩ : S40)]) t393 x8_1 (wrap64 (x398000_2 + (ji15))) (wrap64 (x398001_2 - (ji15)))) else (none)) = some (r1, r2) := by first | (rw [hji15] at H; exact H) | (simp only [hji15] at H ⊢; exact H)
                  have hji15_ : (if a1 < x398001_2 then a1 else x398001_2) = ji15 := hji15
                  by_cases c16 : x6_2.length < 8796093022208
                  · rw [if_pos c16] at H
                    have LMc16 := Aside0.mk c16
                    clear c16
                    obtain ⟨y398, hy398⟩ : ∃ y_ : List (S40), y_ = (x6_2 ++ [(⟨x398000_2, ji15⟩ : S40)]) := ⟨_, rfl⟩
                    replace H : (r01Split.l1 k2 a1 y398 t393 x8_1 (wrap64 (x398000_2 + (ji15))) (wrap64 (x398001_2 - (ji15)))) = some (r1, r2) := by first | (rw [hy398]; with_reducible exact H) | (have H2_ := (Option.bind_some _ _).symm.trans H; rw [hy398]; with_reducible exact H2_) | (have H2_ := (Option.bind_some _ _).symm.trans H; with_reducible exact H2_) | with_reducible exact H | (rw [hy398]; exact H) | exact H
                    have Ny398 := Aside0.mk hy398
                    clear hy398
                    have H' := Aside0.mk H
                    clear H
                    have hcz17_0 : wr.cell? ⟨gb397, 0, none⟩ = some (.int .i64 x398000_2) := (blk_cell BK397.out 0).trans rfl
                    have hcz17_1 : wr.cell? ⟨gb397, 1, none⟩ = some (.int .i64 x398001_2) := (blk_cell BK397.out 1).trans rfl
                    have hfz17_0 := blk_frozen BK397.out 0
                    have hfz17_1 := blk_frozen BK397.out 1
                    go_wp2_with (first | ((with_reducible refine gate_builtin (b := .append) (xs := #[.tmp 33, .tmp 38]) rfl ?_); at_builtin; refine Kd.R_append k40 (w0 := w) w.heap.size rfl (.tmp 33) (.tmp 38) 22 40 (.agg #[(.int .i64 0), (.int .i64 0)]) 16 rfl Try.underlying22 info40 rfl (by decide) (by omega) u6 x6_2 (⟨x398000_2, ji15⟩ : S40) [.int .i64 x398000_2, .int .i64 ji15] (fun k_ => some k_ ≠ (.slice (some ad396) t393.length co11 : Value).ownBlock ∧ k_ ≠ gb397) (fun _ => False) rfl rfl ?aP (fun _ hk => hk.elim) ?aF ?aO ?aB ?aS ?aL ?_; (case aP => exact k40_mkM _ _ _ (⟨x398000_2, ji15⟩ : S40)); (case aB => exact (by repeat (first | (with_reducible first | exact HB.out | apply below_alloc | apply pw_below_drewN | apply below_drew1 | refine below_set ?_ GE397.out) | exact HB.out))); (case aF => exact (fun k_ hk => ⟨Kd.fresh' (Kd.R_lt (by (with_reducible repeat (first | apply Kd.R_alloc | apply Kd.R_drewN | apply Kd.R_drew)); exact HO_7.out)) k_ hk, Kd.freshB (g := gb397) (o := .cells #[.int .i64 x398000_2, .int .i64 x398001_2] 40 (0, 0)) (by (with_reducible repeat (first | refine blk_drewN ?_ _ | refine blk_drew ?_ | refine blk_alloc ?_ _)); exact BK397.out) k_ hk⟩)); (case aO => exact (by (with_reducible repeat (first | apply Kd.R_alloc | apply Kd.R_drewN | apply Kd.R_drew)); exact HO_6.out)); (case aS => exact (below_size (by repeat (first | (with_reducible first | exact HB.out | apply below_alloc | apply pw_below_drewN | apply below_drew1 | refine below_set ?_ GE397.out) | exact HB.out)))); (case aL => have := LMc16.out; omega); intro v399 w18 ho hb hg hat; rw [← Ny398.out] at ho; have n0_ := Aside0.mk (Kd.R_after (ok := (fun k_ => k_ ≠ gb397)) (by (with_reducible repeat (first | apply Kd.R_alloc | apply Kd.R_drewN | apply Kd.R_drew)); exact Kd.R_mono HO_7.out (fun _ hk => by first | exact ⟨hk.2, hk.1⟩ | (revert hk; simp only [and_imp]; intros; (repeat' (first | assumption | apply And.intro)); done))) hg hat); have n1_ := Aside0.mk (blk_grown (g := gb397) (o := .cells #[.int .i64 x398000_2, .int .i64 x398001_2] 40 (0, 0)) (by (with_reducible repeat (first | refine blk_drewN ?_ _ | refine blk_drew ?_ | refine blk_alloc ?_ _)); exact BK397.out) hg (Kd.R_away HO_6.out (fun _ hk => hk.2))); have n2_ := Aside0.mk (hb); have n3_ := Aside0.mk (ho); clear HO_7; clear BK397; clear HB; clear HO_6; have HO_7 := n0_; have BK397 := n1_; have HB := n2_; have HO400 := n3_; clear n0_ n1_ n2_ n3_; clear ho hb hg hat; have hcz19_0 : w18.cell? ⟨gb397, 0, none⟩ = some (.int .i64 x398000_2) := (blk_cell BK397.out 0).trans rfl; have hcz19_1 : w18.cell? ⟨gb397, 1, none⟩ = some (.int .i64 x398001_2) := (blk_cell BK397.out 1).trans rfl; have hfz19_0 := blk_frozen BK397.out 0; have hfz19_1 := blk_frozen BK397.out 1))
                    go_roundg k2
                    case measure => have := HK1.out; have := HK2.out; omega
                    case rel => exact ⟨(y398), (wrap64 (x398000_2 + (ji15))), (wrap64 (x398001_2 - (ji15))), H', ⟨by have := HK1.out; have := HK2.out; omega⟩, ⟨by (with_reducible repeat (first | apply Kd.R_alloc | apply Kd.R_drewN | apply Kd.R_drew)); exact Kd.R_mono (Kd.R_far (p := ⟨gb397, 1, none⟩) (Kd.R_far (p := ⟨gb397, 0, none⟩) (Kd.R_mono HO400.out (fun k_ hk => (⟨hk, hk.2⟩ : _ ∧ k_ ≠ gb397))) (fun _ hk => hk.2) (.int .i64 (wrap64 (x398000_2 + (ji15))))) (fun _ hk => hk.2) (.int .i64 (wrap64 (x398001_2 - (ji15))))) (fun _ hk => by first | exact ⟨hk.1.1, hk.1.2⟩ | (revert hk; simp only [and_imp]; intros; (repeat' (first | assumption | apply And.intro)); done))⟩, ⟨by (with_reducible repeat (first | apply Kd.R_alloc | apply Kd.R_drewN | apply Kd.R_drew)); exact Kd.R_mono (Kd.R_far (p := ⟨gb397, 1, none⟩) (Kd.R_far (p := ⟨gb397, 0, none⟩) (Kd.R_mono HO_7.out (fun k_ hk => (⟨hk, hk.1⟩ : _ ∧ k_ ≠ gb397))) (fun _ hk => hk.2) (.int .i64 (wrap64 (x398000_2 + (ji15))))) (fun _ hk => hk.2) (.int .i64 (wrap64 (x398001_2 - (ji15))))) (fun _ hk => by first | exact ⟨hk.1.2, hk.1.1⟩ | (revert hk; simp only [and_imp]; intros; (repeat' (first | assumption | apply And.intro)); done))⟩, ⟨by (with_reducible repeat (first | refine blk_drewN ?_ _ | refine blk_drew ?_ | refine blk_alloc ?_ _)); refine blk_put (cs := #[.int .i64 (wrap64 (x398000_2 + (ji15))), .int .i64 x398001_2]) ?_ 1 _ rfl; (with_reducible repeat (first | refine blk_drewN ?_ _ | refine blk_drew ?_ | refine blk_alloc ?_ _)); refine blk_put (cs := #[.int .i64 x398000_2, .int .i64 x398001_2]) ?_ 0 _ rfl; (with_reducible repeat (first | refine blk_drewN ?_ _ | refine blk_drew ?_ | refine blk_alloc ?_ _)); exact BK397.out⟩, ⟨by repeat (first | (with_reducible first | exact HB.out | apply below_alloc | apply pw_below_drewN | apply below_drew1 | refine below_set ?_ GE397.out) | exact HB.out)⟩⟩
                  · rw [if_neg c16] at H
                    exact absurd H (by simp)
                · rw [if_neg c14] at H
                  have c14b0 : decide (0 < x398001_2) = false := decide_eq_false c14
                  clear c14
                  have H' := Aside0.mk H
                  clear H
                  have hcz20_0 : wr.cell? ⟨gb397, 0, none⟩ = some (.int .i64 x398000_2) := (blk_cell BK397.out 0).trans rfl
                  have hcz20_1 : wr.cell? ⟨gb397, 1, none⟩ = some (.int .i64 x398001_2) := (blk_cell BK397.out 1).trans rfl
                  have hfz20_0 := blk_frozen BK397.out 0
                  have hfz20_1 := blk_frozen BK397.out 1
                  go_wp2
                  go_roundg k2
                  case measure => have := HK1.out; have := HK2.out; omega
                  case rel => exact ⟨(x6_2), (wrap64 (x8_1 + 1)), (by first | rfl | (simp; done) | (simp [*]; done)), H', ⟨by have := HK1.out; have := HK2.out; omega⟩, ⟨by (with_reducible repeat (first | apply Kd.R_alloc | apply Kd.R_drewN | apply Kd.R_drew)); exact Kd.R_mono HO_6.out (fun _ hk => hk.1)⟩, ⟨by (with_reducible repeat (first | apply Kd.R_alloc | apply Kd.R_drewN | apply Kd.R_drew)); exact Kd.R_mono HO_7.out (fun _ hk => hk.1)⟩, ⟨by repeat (first | (with_reducible first | exact HB.out | apply below_alloc | apply pw_below_drewN | apply below_drew1 | refine below_set ?_ GE397.out) | exact HB.out)⟩⟩
          · rw [if_neg c10] at H
            exact absurd H (by simp)
        · rw [if_neg c9] at H
          have c9b0 : decide (x8_1 < (t393.length : Int)) = false := decide_eq_false c9
          clear c9
          simp only [Option.some.injEq, Prod.mk.injEq] at H
          obtain ⟨rfl, rfl⟩ := H
          obtain ⟨Ao21, co21, eo21⟩ := Kd.R_slice HO_7.out
          subst eo21
          go_wp2
          go_ret2
          exact ⟨_, by first | rfl | (simp [errW_none, errW_some] <;> rfl) | (simp [*, errW_none, errW_some] <;> rfl), by (with_reducible repeat (first | apply Kd.R_alloc | apply Kd.R_drewN | apply Kd.R_drew)); exact Kd.R_mono HO_6.out (fun _ hk => trivial), by repeat (first | (with_reducible first | exact HB.out | apply below_alloc | apply pw_below_drewN | apply below_drew1) | exact HB.out)⟩
def l01ExtentSplits.f (k : Nat) (l0 : List (S40)) (a1 : Int) : Option (Bool) := (l01few.f l0 ([] : List (S40))).bind fun t401 => (if t401 = true then ((xSplit.f k l0 a1).bind fun bt403 => ((r01Split.f k l0 a1).bind fun bt407 => ((r01Same.f k bt403.1 bt407.1).bind fun t411 => (if t411 = true then (if bt403.2 = bt407.2 then ((l01awake.f k).bind fun t412 => (some t412)) else (some false)) else (some false))))) else ((l01awake.f k).bind fun t402 => (some t402)))
set_option maxHeartbeats 8000000 in
set_option maxRecDepth 100000 in
theorem l01ExtentSplits.calls (k : Nat) (A0 : Option Addr) (c0 : Nat) (l0 : List (S40)) (a1 : Int) (r : Bool) (w : World) (hr0 : Kd.C k40 w A0 l0.length l0) (hc0 : l0.length ≤ c0) (hT : Aside0 (r = true)) (h : l01ExtentSplits.f k l0 a1 = some r) :
    Calls Try.prog 6 #[.slice A0 l0.length c0, .int .i64 a1] w fun e w' => e = .returned (.bool r) ∧ Below w.heap.size w w' := by
  have HR0 := Aside0.mk hr0
  have HC0 := Aside0.mk hc0
  clear hr0 hc0
  have HB := Aside0.mk (Below.refl w.heap.size w)
  have H : ((l01few.f l0 ([] : List (S40))).bind fun t401 => (if t401 = true then ((xSplit.f k l0 a1).bind fun bt403 => ((r01Split.f k l0 a1).bind fun bt407 => ((r01Same.f k bt403.1 bt407.1).bind fun t411 => (if t411 = true then (if bt403.2 = bt407.2 then ((l01awake.f k).bind fun t412 => (some t412)) else (some false)) else (some false))))) else ((l01awake.f k).bind fun t402 => (some t402)))) = some r := h
  clear h
  replace H := Option.bind_eq_some_iff.mp H
  obtain ⟨t401, A30, H⟩ := H
  replace H : (if t401 = true then ((xSplit.f k l0 a1).bind fun bt403 => ((r01Split.f k l0 a1).bind fun bt407 => ((r01Same.f k bt403.1 bt407.1).bind fun t411 => (if t411 = true then (if bt403.2 = bt407.2 then ((l01awake.f k).bind fun t412 => (some t412)) else (some false)) else (some false))))) else ((l01awake.f k).bind fun t402 => (some t402))) = some r := H
  have A3 := Aside0.mk A30
  clear A30
  by_cases c4 : t401 = true
  · subst c4
    have H1 : ((xSplit.f k l0 a1).bind fun bt403 => ((r01Split.f k l0 a1).bind fun bt407 => ((r01Same.f k bt403.1 bt407.1).bind fun t411 => (if t411 = true then (if bt403.2 = bt407.2 then ((l01awake.f k).bind fun t412 => (some t412)) else (some false)) else (some false))))) = some r := by rw [if_pos rfl] at H; exact H
    clear H
    have H := H1
    clear H1
    replace H := Option.bind_eq_some_iff.mp H
    obtain ⟨⟨t403, t404⟩, A50, H⟩ := H
    replace H : ((r01Split.f k l0 a1).bind fun bt407 => ((r01Same.f k t403 bt407.1).bind fun t411 => (if t411 = true then (if t404 = bt407.2 then ((l01awake.f k).bind fun t412 => (some t412)) else (some false)) else (some false)))) = some r := H
    have A5 := Aside0.mk A50
    clear A50
    replace H := Option.bind_eq_some_iff.mp H
    obtain ⟨⟨t407, t408⟩, A60, H⟩ := H
    replace H : ((r01Same.f k t403 t407).bind fun t411 => (if t411 = true then (if t404 = t408 then ((l01awake.f k).bind fun t412 => (some t412)) else (some false)) else (some false))) = some r := H
    have A6 := Aside0.mk A60
    clear A60
    replace H := Option.bind_eq_some_iff.mp H
    obtain ⟨t411, A70, H⟩ := H
    replace H : (if t411 = true then (if t404 = t408 then ((l01awake.f k).bind fun t412 => (some t412)) else (some false)) else (some false)) = some r := H
    have A7 := Aside0.mk A70
    clear A70
    by_cases c8 : t411 = true
    · subst c8
      have H1 : (if t404 = t408 then ((l01awake.f k).bind fun t412 => (some t412)) else (some false)) = some r := by rw [if_pos rfl] at H; exact H
      clear H
      have H := H1
      clear H1
      by_cases c9 : t404 = t408
      · rw [if_pos c9] at H
        have c9b0 : (t404 == t408) = true := beq_iff_eq.mpr c9
        have c9b1 : (t404 != t408) = false := bne_eq_false_iff_eq.mpr c9
        clear c9
        replace H := Option.bind_eq_some_iff.mp H
        obtain ⟨t412, A100, H⟩ := H
        replace H : (some t412) = some r := H
        have A10 := Aside0.mk A100
        clear A100
        obtain rfl := Option.some.inj H
        go_enter Try.func6, Try.ntmps6
        go_wp2_with (first | ((with_reducible refine gate_callee (f := 12) rfl ?_); refine goesL_ (some 10) rfl rfl Try.func12 (by kernel_rfl) rfl #[.slice A0 l0.length c0, .slice none 0 0] rfl (by (try simp only [List.map_toArray, List.map_cons, List.map_nil]); first | done | rfl | (simp only [List.length_drop, List.length_take]; rfl)) ?_; (refine (l01few.calls _ _ l0 _ _ ([] : List (S40)) true _ ?side1 ?side2 ?side3 ?side4 A3.out).mono ?_); (case side1 => repeat (first | exact HR0.out | (with_reducible refine Kd.C_alloc ?_ _) | (with_reducible refine Kd.C_drewN ?_ _) | (with_reducible refine Kd.C_drew ?_))); (case side2 => exact HC0.out); (case side3 => exact Kd.C_nil _ _); (case side4 => exact Nat.le_refl _); rintro e w' ⟨rfl, ⟨nd, rfl⟩⟩; refine ⟨_, rfl, ?_⟩) | ((with_reducible refine gate_callee (f := 23) rfl ?_); refine goesL_ (some 16) rfl rfl Try.func23 (by kernel_rfl) rfl #[.slice A0 l0.length c0, .int .i64 a1] rfl (by (try simp only [List.map_toArray, List.map_cons, List.map_nil]); first | done | rfl | (simp only [List.length_drop, List.length_take]; rfl)) ?_; (with_reducible refine (xSplit.calls k _ _ l0 a1 t403 t404 _ ?side1 ?side2 A5.out).mono ?_); (case side1 => repeat (first | exact HR0.out | (with_reducible refine Kd.C_alloc ?_ _) | (with_reducible refine Kd.C_drewN ?_ _) | (with_reducible refine Kd.C_drew ?_))); (case side2 => exact HC0.out); rintro e w11 ⟨v405, rfl, ho0, hb⟩; refine ⟨_, rfl, ?_⟩; have n0_ := Aside0.mk (Kd.R_lower ho0 (below_size (by repeat (first | (with_reducible first | exact HB.out | apply below_alloc | apply pw_below_drewN | apply below_drew1) | exact HB.out)))); have n1_ := Aside0.mk (below_step (by repeat (first | (with_reducible first | exact HB.out | apply below_alloc | apply pw_below_drewN | apply below_drew1) | exact HB.out)) hb); clear HB; have HO406 := n0_; have HB := n1_; clear n0_ n1_; (try clear hb); (try clear hb2); (try clear hk); (try clear hi); (try clear ho0)) | ((with_reducible refine gate_callee (f := 24) rfl ?_); refine goesL_ (some 22) rfl rfl Try.func24 (by kernel_rfl) rfl #[.slice A0 l0.length c0, .int .i64 a1] rfl (by (try simp only [List.map_toArray, List.map_cons, List.map_nil]); first | done | rfl | (simp only [List.length_drop, List.length_take]; rfl)) ?_; (with_reducible refine (r01Split.calls k _ _ l0 a1 t407 t408 _ ?side1 ?side2 A6.out).mono ?_); (case side1 => repeat (first | exact (Kd.C_below HR0.out HB.out) | (with_reducible refine Kd.C_alloc ?_ _) | (with_reducible refine Kd.C_drewN ?_ _) | (with_reducible refine Kd.C_drew ?_))); (case side2 => exact HC0.out); rintro e w12 ⟨v409, rfl, ho0, hb⟩; refine ⟨_, rfl, ?_⟩; have n0_ := Aside0.mk (Kd.R_elder' (by (with_reducible repeat (first | apply Kd.R_alloc | apply Kd.R_drewN | apply Kd.R_drew)); exact HO406.out) (Kd.R_base ho0) hb); have n1_ := Aside0.mk (Kd.R_lower (Kd.R_new' ho0 (Kd.R_lt (by (with_reducible repeat (first | apply Kd.R_alloc | apply Kd.R_drewN | apply Kd.R_drew)); exact HO406.out))) (below_size (by repeat (first | (with_reducible first | exact HB.out | apply below_alloc | apply pw_below_drewN | apply below_drew1) | exact HB.out)))); have n2_ := Aside0.mk (below_step (by repeat (first | (with_reducible first | exact HB.out | apply below_alloc | apply pw_below_drewN | apply below_drew1) | exact HB.out)) hb); clear HO406; clear HB; have HO406 := n0_; have HO410 := n1_; have HB := n2_; clear n0_ n1_ n2_; (try clear hb); (try clear hb2); (try clear hk); (try clear hi); (try clear ho0); obtain ⟨Ao13, co13, eo13⟩ := Kd.R_slice HO406.out; subst eo13; obtain ⟨Ao14, co14, eo14⟩ := Kd.R_slice HO410.out; subst eo14) | ((with_reducible refine gate_callee (f := 18) rfl ?_); refine goesL_ (some 27) rfl rfl Try.func18 (by kernel_rfl) rfl #[.slice Ao13 t403.length co13, .slice Ao14 t407.length co14] rfl (by (try simp only [List.map_toArray, List.map_cons, List.map_nil]); first | done | rfl | (simp only [List.length_drop, List.length_take]; rfl)) ?_; (with_reducible refine (r01Same.calls k _ _ t403 _ _ t407 true _ ?side1 ?side2 ?side3 ?side4 A7.out).mono ?_); (case side1 => repeat (first | exact (Kd.R_reads' HO406.out).2.2 | (with_reducible refine Kd.C_alloc ?_ _) | (with_reducible refine Kd.C_drewN ?_ _) | (with_reducible refine Kd.C_drew ?_))); (case side2 => exact (Kd.R_reads' HO406.out).2.1); (case side3 => repeat (first | exact (Kd.R_reads' HO410.out).2.2 | (with_reducible refine Kd.C_alloc ?_ _) | (with_reducible refine Kd.C_drewN ?_ _) | (with_reducible refine Kd.C_drew ?_))); (case side4 => exact (Kd.R_reads' HO410.out).2.1); rintro e w' ⟨rfl, ⟨nd, rfl⟩⟩; refine ⟨_, rfl, ?_⟩) | (go_at_call 13; (with_reducible refine (l01awake.calls k  t412 _ A10.out).mono ?_); rintro e w15 ⟨rfl, hb⟩; have n0_ := Aside0.mk (Kd.R_below (by (with_reducible repeat (first | apply Kd.R_alloc | apply Kd.R_drewN | apply Kd.R_drew)); exact HO406.out) hb); have n1_ := Aside0.mk (Kd.R_below (by (with_reducible repeat (first | apply Kd.R_alloc | apply Kd.R_drewN | apply Kd.R_drew)); exact HO410.out) hb); have n2_ := Aside0.mk (below_step (by repeat (first | (with_reducible first | exact HB.out | apply below_alloc | apply pw_below_drewN | apply below_drew1) | exact HB.out)) hb); clear HO406; clear HO410; clear HB; have HO406 := n0_; have HO410 := n1_; have HB := n2_; clear n0_ n1_ n2_; (try clear hb); (try clear hb2); (try clear hk); (try clear hi)))
        go_ret
        exact ⟨by first | rfl | (simp [errW_none, errW_some] <;> rfl) | (simp [*, errW_none, errW_some] <;> rfl), by repeat (first | (with_reducible first | exact HB.out | apply below_alloc | apply pw_below_drewN | apply below_drew1) | exact HB.out)⟩
      · rw [if_neg c9] at H
        have c9b0 : (t404 == t408) = false := beq_eq_false_iff_ne.mpr c9
        have c9b1 : (t404 != t408) = true := bne_iff_ne.mpr c9
        exact absurd ((Option.some.inj H).trans hT.out) (by decide)
    · replace c8 := Bool.eq_false_iff.mpr c8
      subst c8
      have H1 : (some false) = some r := by rw [if_neg (show ¬ (false = true) by decide)] at H; exact H
      clear H
      have H := H1
      clear H1
      exact absurd ((Option.some.inj H).trans hT.out) (by decide)
  · replace c4 := Bool.eq_false_iff.mpr c4
    subst c4
    have H1 : ((l01awake.f k).bind fun t402 => (some t402)) = some r := by rw [if_neg (show ¬ (false = true) by decide)] at H; exact H
    clear H
    have H := H1
    clear H1
    replace H := Option.bind_eq_some_iff.mp H
    obtain ⟨t402, A160, H⟩ := H
    replace H : (some t402) = some r := H
    have A16 := Aside0.mk A160
    clear A160
    obtain rfl := Option.some.inj H
    go_enter Try.func6, Try.ntmps6
    go_wp2_with (first | ((with_reducible refine gate_callee (f := 12) rfl ?_); refine goesL_ (some 10) rfl rfl Try.func12 (by kernel_rfl) rfl #[.slice A0 l0.length c0, .slice none 0 0] rfl (by (try simp only [List.map_toArray, List.map_cons, List.map_nil]); first | done | rfl | (simp only [List.length_drop, List.length_take]; rfl)) ?_; (refine (l01few.calls _ _ l0 _ _ ([] : List (S40)) false _ ?side1 ?side2 ?side3 ?side4 A3.out).mono ?_); (case side1 => repeat (first | exact HR0.out | (with_reducible refine Kd.C_alloc ?_ _) | (with_reducible refine Kd.C_drewN ?_ _) | (with_reducible refine Kd.C_drew ?_))); (case side2 => exact HC0.out); (case side3 => exact Kd.C_nil _ _); (case side4 => exact Nat.le_refl _); rintro e w' ⟨rfl, ⟨nd, rfl⟩⟩; refine ⟨_, rfl, ?_⟩) | ((with_reducible refine gate_callee (f := 13) rfl ?_); refine goesL_ (some 12) rfl rfl Try.func13 (by kernel_rfl) rfl #[] rfl (by (try simp only [List.map_toArray, List.map_cons, List.map_nil]); first | done | rfl | (simp only [List.length_drop, List.length_take]; rfl)) ?_; (with_reducible refine (l01awake.calls k  t402 _ A16.out).mono ?_); rintro e w17 ⟨rfl, hb⟩; refine ⟨_, rfl, ?_⟩; have n0_ := Aside0.mk (below_step (by repeat (first | (with_reducible first | exact HB.out | apply below_alloc | apply pw_below_drewN | apply below_drew1) | exact HB.out)) hb); clear HB; have HB := n0_; clear n0_; (try clear hb); (try clear hb2); (try clear hk); (try clear hi)))
    go_ret
    exact ⟨by first | rfl | (simp [errW_none, errW_some] <;> rfl) | (simp [*, errW_none, errW_some] <;> rfl), by repeat (first | (with_reducible first | exact HB.out | apply below_alloc | apply pw_below_drewN | apply below_drew1) | exact HB.out)⟩
end Go.Proofs.Yteeedheklnelkaa.P

namespace Go.Proofs.Yteeedheklnelkaa.P
open Go.RowKit Go.Proofs.YteeedheklnelkaaW.PrintWords Go.Proofs.YteeedheklnelkaaW.PrintLast Go.Proofs.YteeedheklnelkaaW.PrintMore
theorem few_eq (a b : List S40) : l01few.f a b = some (decide (a.length ≤ 20 ∧ b.length ≤ 20)) := by
  unfold l01few.f
  by_cases h : (a.length : Int) ≤ 20
  · rw [if_pos h]
    congr 1
    rw [decide_eq_decide]; omega
  · rw [if_neg h, decide_eq_false (by omega)]
theorem rd_mem (l : List S40) {i : Nat} (hi : i < l.length) : rd_T40 l (i : Int) ∈ l := List.mem_of_mem_drop (i := i) (by rw [drop_cons l hi]; exact List.mem_cons_self)
end Go.Proofs.Yteeedheklnelkaa.P

namespace Go.Proofs.Yteeedheklnelkaa.P
open Go.RowKit Go.Proofs.YteeedheklnelkaaW.PrintWords Go.Proofs.YteeedheklnelkaaW.PrintLast Go.Proofs.YteeedheklnelkaaW.PrintMore
def sumF : List S40 → Int
  | [] => 0
  | e :: l => e.f1 + sumF l
theorem sumF_append (m : List S40) : ∀ l, sumF (l ++ m) = sumF l + sumF m
  | [] => by simp [sumF]
  | e :: l => by rw [List.cons_append, sumF, sumF, sumF_append m l]; omega
def cntN : Nat → (Nat → Bool) → Int
  | 0, _ => 0
  | n + 1, p => cntN n p + if p n then 1 else 0
theorem cntN_bound (p : Nat → Bool) : ∀ n, 0 ≤ cntN n p ∧ cntN n p ≤ n
  | 0 => by simp [cntN]
  | n + 1 => by
    have := cntN_bound p n
    rw [cntN]
    split <;> omega
theorem sumF_canonN (p : Nat → Bool) : ∀ n : Nat, n ≤ 100000 → sumF (canonN n p) = cntN n p
  | 0, _ => by rw [canonN_zero]; rfl
  | n + 1, hn => by
    have ih := sumF_canonN p n (by omega)
    have hbd := (canonN_joined n (by omega) p).bound
    rw [canonN_succ, cntN]
    cases hp : p n
    · rw [if_neg (by decide), if_neg (by decide), ih]; omega
    · rw [if_pos rfl, if_pos rfl, ← ih]
      generalize canonN n p = L at hbd
      rcases L.eq_nil_or_concat with h | ⟨M, e, h⟩
      · subst h; rfl
      · rw [List.concat_eq_append] at h
        subst h
        have hb := hbd e (by simp)
        rw [joinE_snoc]
        split
        · rw [sumF_append, sumF_append, sumF, sumF, w64 _ (by omega) (by omega)]; simp only [sumF]; omega
        · rw [sumF_append (m := [⟨(n : Int), 1⟩])]; rfl
theorem sumF_canon (p : Nat → Bool) : sumF (canon p) = cntN 4096 p := by rw [canon_eq, sumF_canonN p 4096 (by omega)]
def cut (m : Int) : Nat → S40 → List S40
  | 0, e => [e]
  | n + 1, e => if e.f1 > m then ⟨e.f0, m⟩ :: cut m n ⟨e.f0 + m, e.f1 - m⟩ else [e]
def cuts (m : Int) (l : List S40) : List S40 := l.flatMap fun e => cut m e.f1.toNat e
theorem cuts_cons (m : Int) (e : S40) (l : List S40) : cuts m (e :: l) = cut m e.f1.toNat e ++ cuts m l := by unfold cuts; rw [List.flatMap_cons]
/-- How much fuel does not matter. -/
theorem cut_more (m : Int) (hm : 1 ≤ m) : ∀ (n : Nat) (e : S40), e.f1 ≤ n → cut m (n + 1) e = cut m n e
  | 0, e, h => by have : ¬ e.f1 > m := by omega
                  simp [cut, this]
  | n + 1, e, h => by
    rw [cut]
    conv => rhs; rw [cut]
    split
    · rw [cut_more m hm n _ (by simp only; omega)]
    · rfl
theorem cut_fuel (m : Int) (hm : 1 ≤ m) (e : S40) (n : Nat) (h : e.f1 ≤ n) : cut m n e = cut m e.f1.toNat e := by
  obtain ⟨d, rfl⟩ : ∃ d, n = e.f1.toNat + d := ⟨n - e.f1.toNat, by omega⟩
  clear h
  induction d with
  | zero => rfl
  | succ d ih => rw [← Nat.add_assoc, cut_more m hm _ e (by omega), ih]
theorem cut_big (m : Int) (hm : 1 ≤ m) (e : S40) (h : e.f1 > m) : cut m e.f1.toNat e = ⟨e.f0, m⟩ :: cut m (e.f1 - m).toNat ⟨e.f0 + m, e.f1 - m⟩ := by
  obtain ⟨n, hn⟩ : ∃ n, e.f1.toNat = n + 1 := ⟨e.f1.toNat - 1, by omega⟩
  rw [hn, cut, if_pos h, cut_fuel m hm _ n (by simp only; omega)]
theorem cut_small (m : Int) (e : S40) (h : ¬ e.f1 > m) : cut m e.f1.toNat e = [e] := by
  cases e.f1.toNat with
  | zero => rfl
  | succ n => rw [cut, if_neg h]
theorem cut_length (m : Int) (hm : 1 ≤ m) : ∀ (n : Nat) (e : S40), 1 ≤ e.f1 → e.f1 ≤ n → ((cut m n e).length : Int) ≤ e.f1
  | 0, e, h1, h => by omega
  | n + 1, e, h1, h => by
    rw [cut]
    split
    · have := cut_length m hm n ⟨e.f0 + m, e.f1 - m⟩ (by simp only; omega) (by simp only; omega)
      simp only at this
      rw [List.length_cons]; omega
    · simpa using h1
theorem cuts_length (m : Int) (hm : 1 ≤ m) : ∀ l : List S40, (∀ e ∈ l, 1 ≤ e.f1) → ((cuts m l).length : Int) ≤ sumF l
  | [], _ => by simp [cuts, sumF]
  | e :: l, h => by
    have h1 := h e List.mem_cons_self
    have := cut_length m hm e.f1.toNat e h1 (by omega)
    have := cuts_length m hm l fun x hx => h x (List.mem_cons_of_mem _ hx)
    rw [cuts_cons, List.length_append, sumF]; omega
end Go.Proofs.Yteeedheklnelkaa.P

namespace Go.Proofs.Yteeedheklnelkaa.P
open Go.RowKit Go.Proofs.YteeedheklnelkaaW.PrintWords Go.Proofs.YteeedheklnelkaaW.PrintLast Go.Proofs.YteeedheklnelkaaW.PrintMore
theorem xsplit_inner (m : Int) (hm : 1 ≤ m) (L : List S40) (i : Int) : ∀ (n K : Nat) (e : S40) (out : List S40), 0 ≤ e.f0 → 1 ≤ e.f1 → e.f0 + e.f1 ≤ 4096 → e.f1 ≤ n → n ≤ K → out.length + n ≤ 100000 →
    xSplit.l1 K m out L L.length i e.f0 e.f1 = xSplit.l0 (K - (cut m e.f1.toNat e).length) m (out ++ cut m e.f1.toNat e) L L.length (wrap64 (i + 1)) := by
  intro n
  induction n with
  | zero => intro k e out _ _ _ _ _; omega
  | succ n ih =>
    intro K e out h0 h1 h2 hn hK ho
    obtain ⟨K, rfl⟩ : ∃ m, K = m + 1 := ⟨K - 1, by omega⟩
    rw [xSplit.l1]
    by_cases c : e.f1 > m
    · have i1 := ih K ⟨e.f0 + m, e.f1 - m⟩ (out ++ [⟨e.f0, m⟩]) (by simp only; omega) (by simp only; omega) (by simp only; omega) (by simp only; omega) (by omega) (by simp; omega)
      simp only at i1
      rw [if_pos c, if_pos (by omega), w64 (e.f0 + m) (by omega) (by omega), w64 (e.f1 - m) (by omega) (by omega), i1, cut_big m hm e c, List.length_cons, List.append_assoc, Nat.add_sub_add_right]
      rfl
    · rw [if_neg c, if_pos (by omega), cut_small m e c]
      rfl
theorem xsplit_loop (m : Int) (hm : 1 ≤ m) (L : List S40) (hL : L.length ≤ 5000) (hb : ∀ e ∈ L, 0 ≤ e.f0 ∧ 1 ≤ e.f1 ∧ e.f0 + e.f1 ≤ 4096) : ∀ (n k i : Nat) (out : List S40), i + n = L.length →
    n + (cuts m (L.drop i)).length + 5000 < k → out.length + (cuts m (L.drop i)).length ≤ 50000 → xSplit.l0 k m out L L.length i = some (out ++ cuts m (L.drop i), 0) := by
  intro n
  induction n with
  | zero =>
    intro k i out hi hk ho
    obtain ⟨k, rfl⟩ : ∃ m, k = m + 1 := ⟨k - 1, by omega⟩
    rw [xSplit.l0, if_neg (by omega), List.drop_eq_nil_of_le (by omega)]
    simp [cuts]
  | succ n ih =>
    intro k i out hi hk ho
    obtain ⟨k, rfl⟩ : ∃ m, k = m + 1 := ⟨k - 1, by omega⟩
    obtain ⟨h0, h1, h2⟩ := hb _ (rd_mem L (i := i) (by omega))
    have hlen := cut_length m hm _ _ h1 (show (rd_T40 L (i : Int)).f1 ≤ ((rd_T40 L (i : Int)).f1.toNat : Int) by omega)
    rw [drop_cons L (by omega), cuts_cons, List.length_append] at hk ho
    rw [xSplit.l0, if_pos (by omega), if_pos (by omega), if_pos (by omega), xsplit_inner m hm L i (rd_T40 L (i : Int)).f1.toNat k _ out h0 h1 h2 (by omega) (by omega) (by omega), wsucc i (by omega),
      ih _ (i + 1) _ (by omega) (by omega) (by rw [List.length_append]; omega), drop_cons L (i := i) (by omega), cuts_cons, List.append_assoc]
theorem rsplit_inner (m : Int) (hm : 1 ≤ m) (L : List S40) (i : Int) : ∀ (n K : Nat) (e : S40) (out : List S40), 0 ≤ e.f0 → 1 ≤ e.f1 → e.f0 + e.f1 ≤ 4096 → e.f1 ≤ n → n + 1 ≤ K → out.length + n ≤ 100000 →
    r01Split.l1 K m out L i e.f0 e.f1 = r01Split.l0 (K - ((cut m e.f1.toNat e).length + 1)) m (out ++ cut m e.f1.toNat e) L (wrap64 (i + 1)) := by
  intro n
  induction n with
  | zero => intro k e out _ _ _ _ _; omega
  | succ n ih =>
    intro K e out h0 h1 h2 hn hK ho
    obtain ⟨K, rfl⟩ : ∃ m, K = m + 1 := ⟨K - 1, by omega⟩
    rw [r01Split.l1, if_pos (by omega), if_pos (by omega)]
    by_cases c : e.f1 > m
    · have i1 := ih K ⟨e.f0 + m, e.f1 - m⟩ (out ++ [⟨e.f0, m⟩]) (by simp only; omega) (by simp only; omega) (by simp only; omega) (by simp only; omega) (by omega) (by simp; omega)
      simp only at i1
      rw [show mn e.f1 m = m by rw [mn_eq]; omega, w64 (e.f0 + m) (by omega) (by omega), w64 (e.f1 - m) (by omega) (by omega), i1, cut_big m hm e c, List.length_cons, List.append_assoc, Nat.add_sub_add_right]
      rfl
    · obtain ⟨K, rfl⟩ : ∃ m, K = m + 1 := ⟨K - 1, by omega⟩
      rw [show mn e.f1 m = e.f1 by rw [mn_eq]; omega, w64 (e.f0 + e.f1) (by omega) (by omega), w64 (e.f1 - e.f1) (by omega) (by omega), r01Split.l1, if_neg (by omega), cut_small m e c]
      rfl
theorem rsplit_loop (m : Int) (hm : 1 ≤ m) (L : List S40) (hL : L.length ≤ 5000) (hb : ∀ e ∈ L, 0 ≤ e.f0 ∧ 1 ≤ e.f1 ∧ e.f0 + e.f1 ≤ 4096) : ∀ (n k i : Nat) (out : List S40), i + n = L.length →
    2 * n + (cuts m (L.drop i)).length + 5000 < k → out.length + (cuts m (L.drop i)).length ≤ 50000 → r01Split.l0 k m out L i = some (out ++ cuts m (L.drop i), 0) := by
  intro n
  induction n with
  | zero =>
    intro k i out hi hk ho
    obtain ⟨k, rfl⟩ : ∃ m, k = m + 1 := ⟨k - 1, by omega⟩
    rw [r01Split.l0, if_neg (by omega), List.drop_eq_nil_of_le (by omega)]
    simp [cuts]
  | succ n ih =>
    intro k i out hi hk ho
    obtain ⟨k, rfl⟩ : ∃ m, k = m + 1 := ⟨k - 1, by omega⟩
    obtain ⟨h0, h1, h2⟩ := hb _ (rd_mem L (i := i) (by omega))
    have hlen := cut_length m hm _ _ h1 (show (rd_T40 L (i : Int)).f1 ≤ ((rd_T40 L (i : Int)).f1.toNat : Int) by omega)
    rw [drop_cons L (by omega), cuts_cons, List.length_append] at hk ho
    rw [r01Split.l0, if_pos (by omega), if_pos (by omega), rsplit_inner m hm L i (rd_T40 L (i : Int)).f1.toNat k _ out h0 h1 h2 (by omega) (by omega) (by omega), wsucc i (by omega),
      ih _ (i + 1) _ (by omega) (by omega) (by rw [List.length_append]; omega), drop_cons L (i := i) (by omega), cuts_cons, List.append_assoc]
theorem cuts_canon_length (m : Int) (hm : 1 ≤ m) (p : Nat → Bool) : (cuts m (canon p)).length ≤ 4096 := by
  have h := cuts_length m hm (canon p) fun e he => (canon_bound p e he).2.1
  have h2 := cntN_bound p 4096
  rw [sumF_canon] at h
  omega
theorem xSplit_eq (l : List S40) (h : l.length ≤ 100000) (m : Int) {k : Nat} (hk : 30000 ≤ k) : xSplit.f k l m = some (if m ≤ 0 then ([], 1) else (cuts m (canon fun j => inL l j), 0)) := by
  unfold xSplit.f
  by_cases hm : m ≤ 0
  · rw [if_pos hm, if_pos hm]
  · rw [if_neg hm, if_neg hm, union_nil l h, Option.bind_some]
    have hlen := canon_length fun j => inL l (j : Int)
    have hc := cuts_canon_length m (by omega) fun j => inL l (j : Int)
    have hbd := canon_bound fun j => inL l (j : Int)
    generalize canon (fun j => inL l (j : Int)) = L at hlen hbd hc
    have := xsplit_loop m (by omega) L (by omega) hbd L.length k 0 [] (by omega) (by rw [List.drop_zero]; omega) (by rw [List.drop_zero, List.length_nil]; omega)
    rw [List.drop_zero, List.nil_append] at this
    exact this
theorem rSplit_eq (l : List S40) (h : l.length ≤ 5000) (hr : ∀ e ∈ l, R64 e) (m : Int) {k : Nat} (hk : 30000 ≤ k) : r01Split.f k l m = some (if m ≤ 0 then ([], 1) else (cuts m (canon fun j => inL l j), 0)) := by
  unfold r01Split.f
  by_cases hm : m ≤ 0
  · rw [if_pos hm, if_pos (by omega)]
  · rw [if_neg hm, if_neg (by omega), marks_eq l h hr (by omega), Option.bind_some, list_marks _ (by omega), Option.bind_some]
    have hlen := canon_length fun j => inL l (j : Int)
    have hc := cuts_canon_length m (by omega) fun j => inL l (j : Int)
    have hbd := canon_bound fun j => inL l (j : Int)
    generalize canon (fun j => inL l (j : Int)) = L at hlen hbd hc
    have := rsplit_loop m (by omega) L (by omega) hbd L.length k 0 [] (by omega) (by rw [List.drop_zero]; omega) (by rw [List.drop_zero, List.length_nil]; omega)
    rw [List.drop_zero, List.nil_append] at this
    exact this
theorem splits_true (l : List S40) (hr : ∀ e ∈ l, R64 e) (m : Int) {k : Nat} (hk : 40000 ≤ k) : l01ExtentSplits.f k l m = some true := by
  unfold l01ExtentSplits.f
  rw [few_eq, Option.bind_some]
  by_cases h : l.length ≤ 20 ∧ ([] : List S40).length ≤ 20
  · rw [decide_eq_true h, if_pos rfl, xSplit_eq l (by omega) m (by omega), Option.bind_some, rSplit_eq l (by omega) hr m (by omega), Option.bind_some]
    have hlen : (if m ≤ 0 then (([] : List S40), (1 : Int)) else (cuts m (canon fun j => inL l j), 0)).1.length ≤ 4096 := by
      split
      · simp
      · exact cuts_canon_length m (by omega) _
    generalize (if m ≤ 0 then (([] : List S40), (1 : Int)) else (cuts m (canon fun j => inL l j), 0)) = q at hlen
    rw [same_eq _ (by omega) (by omega), Option.bind_some, if_pos rfl, if_pos rfl, awake_eq (by omega)]; rfl
  · rw [decide_eq_false h, if_neg (by decide), awake_eq (by omega)]; rfl
end Go.Proofs.Yteeedheklnelkaa.P
