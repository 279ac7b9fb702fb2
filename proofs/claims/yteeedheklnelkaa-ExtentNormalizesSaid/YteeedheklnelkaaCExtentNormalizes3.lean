/-
  Parts of the proof of the law ExtentNormalizes (part 3): what the functions it reaches come to, and the plain law. Conditions: those that each theorem names.
-/
import Derived.KernelRfl
import Derived.Test.YteeedheklnelkaaCExtentNormalizes2
namespace Go.Proofs.Yteeedheklnelkaa.P
open Go.RowKit Go.Proofs.YteeedheklnelkaaW.PrintWords Go.Proofs.YteeedheklnelkaaW.PrintLast Go.Proofs.YteeedheklnelkaaW.PrintMore
theorem canonN_zero (p : Nat → Bool) : canonN 0 p = [] := by unfold canonN; rfl
theorem canonN_succ (N : Nat) (p : Nat → Bool) : canonN (N + 1) p = if p N then joinE (canonN N p) N else canonN N p := by
  unfold canonN
  rw [List.range_succ, List.filter_append, List.map_append, List.foldl_append, List.filter_cons]
  cases p N
  · rfl
  · rfl
theorem asc_le_end : ∀ (L : List S40) (p : Int), Asc p L → p ≤ endL p L ∧ ∀ e ∈ L, e.f0 + e.f1 ≤ endL p L
  | [], p, _ => ⟨Int.le_refl _, fun _ h => by cases h⟩
  | x :: L, p, h => by
    obtain ⟨h1, h2, h3⟩ := h
    obtain ⟨i1, i2⟩ := asc_le_end L _ h3
    rw [endL]
    refine ⟨by omega, fun e he => ?_⟩
    rcases List.mem_cons.1 he with rfl | he
    · exact i1
    · exact i2 e he
theorem canonN_len (N : Nat) (_hN : N ≤ 1000000) (p : Nat → Bool) : (canonN N p).length ≤ N := by
  unfold canonN
  have h := fold_len (((List.range N).filter p).map fun (b : Nat) => (b : Int)) []
  have h2 := List.length_filter_le p (List.range N)
  rw [List.length_range] at h2
  rw [List.length_map] at h
  simp only [List.length_nil] at h
  omega
/-- Behind i places: the last extent ends at i iff the place before i is marked. -/
theorem canonN_last (i : Nat) (hi : i ≤ 1000000) (p : Nat → Bool) (h0 : 0 < i) (hp : p (i - 1) = true) : ∃ M e, canonN i p = M ++ [e] ∧ e.f0 + e.f1 = (i : Int) := by
  have J := canonN_joined i hi p
  have hc := (canonN_cov i hi p ((i - 1 : Nat) : Int)).2 ⟨by omega, by omega, by rw [Int.toNat_natCast]; exact hp⟩
  have hasc := J.asc
  have hbd := J.bound
  generalize canonN i p = L at hc hasc hbd
  obtain ⟨e, he, h1, h2⟩ := hc
  have hend := (asc_le_end L (-1) hasc).2 e he
  rcases L.eq_nil_or_concat with h | ⟨M, x, h⟩
  · subst h; cases he
  · rw [List.concat_eq_append] at h
    subst h
    rw [endL_snoc] at hend
    have := hbd x (by simp)
    exact ⟨M, x, rfl, by omega⟩
theorem canonN_not_last (i : Nat) (hi : i ≤ 1000000) (p : Nat → Bool) (hp : 0 < i → p (i - 1) = false) : canonN i p = [] ∨ ∃ M e, canonN i p = M ++ [e] ∧ wrap64 (e.f0 + e.f1) ≠ i := by
  have J := canonN_joined i hi p
  have hcov := fun t => canonN_cov i hi p t
  have hbd := J.bound
  generalize canonN i p = L at hcov hbd
  rcases L.eq_nil_or_concat with h | ⟨M, e, h⟩
  · exact .inl h
  · rw [List.concat_eq_append] at h
    subst h
    right
    have hb := hbd e (by simp)
    refine ⟨M, e, rfl, ?_⟩
    rw [w64 _ (by omega) (by omega)]
    intro hEq
    have := (hcov ((i - 1 : Nat) : Int)).1 ⟨e, by simp, by omega, by omega⟩
    rw [Int.toNat_natCast, hp (by omega)] at this
    cases this.2.2
theorem list_loop (N : Nat) (hN : N ≤ 100000) (p : Nat → Bool) : ∀ (n k i : Nat), i + n = N → n < k → r01List.l0 k (bvN N p) (canonN i p) i = some (canonN N p) := by
  intro n
  induction n with
  | zero =>
    intro k i hi hk
    obtain ⟨k, rfl⟩ : ∃ m, k = m + 1 := ⟨k - 1, by omega⟩
    obtain rfl : i = N := by omega
    rw [r01List.l0, if_neg (by rw [bvN_length]; omega)]
  | succ n ih =>
    intro k i hi hk
    obtain ⟨k, rfl⟩ : ∃ m, k = m + 1 := ⟨k - 1, by omega⟩
    have hlen := canonN_len i (by omega) p
    have ih' := ih k (i + 1) (by omega) (by omega)
    rw [canonN_succ] at ih'
    rw [r01List.l0, bvN_length, if_pos (by omega), if_pos (by omega), bvN_get p (by omega), wsucc i (by omega)]
    cases hp : p i
    · rw [hp, if_neg (by decide)] at ih'
      rw [if_neg (by decide), ih']
    · rw [hp, if_pos rfl] at ih'
      rw [if_pos rfl]
      have happ : (canonN i p = [] ∨ ∃ M e, canonN i p = M ++ [e] ∧ wrap64 (e.f0 + e.f1) ≠ i) → joinE (canonN i p) i = canonN i p ++ [⟨(i : Int), 1⟩] := by
        rintro (h | ⟨M, e, h, hne⟩)
        · rw [h]; rfl
        · rw [h, joinE_snoc, if_neg hne]
      by_cases h0 : (i : Int) > 0
      · have e1 : wrap64 ((i : Int) - 1) = ((i - 1 : Nat) : Int) := by rw [w64 _ (by omega) (by omega)]; omega
        rw [if_pos h0, e1, if_pos (by omega), if_pos (by omega), bvN_get p (by omega)]
        cases hq : p (i - 1)
        · rw [if_neg (by decide), if_pos (by omega), ← happ (canonN_not_last i (by omega) p (fun _ => hq)), ih']
        · rw [if_pos rfl]
          obtain ⟨M, e, hM, hend⟩ := canonN_last i (by omega) p (by omega) hq
          rw [hM] at hlen ih' ⊢
          have hl : (M ++ [e]).length = M.length + 1 := by simp
          have hd : wrap64 (((M ++ [e]).length : Int) - 1) = (M.length : Int) := by rw [hl, w64 _ (by omega) (by omega)]; omega
          have hr : rd_T40 (M ++ [e]) (M.length : Int) = e := by
            unfold rd_T40
            rw [Int.toNat_natCast, List.getD_eq_getElem?_getD, List.getElem?_append_right (Nat.le_refl _)]
            simp
          have hset : (M ++ [e]).set M.length (⟨e.f0, wrap64 (e.f1 + 1)⟩ : S40) = M ++ [⟨e.f0, wrap64 (e.f1 + 1)⟩] := by
            rw [List.set_append_right _ _ (Nat.le_refl _)]; simp
          rw [hd, if_pos (by omega), if_pos (by rw [hl]; omega), hr, Int.toNat_natCast, hset]
          rw [joinE_snoc, if_pos (by rw [w64 _ (by omega) (by omega)]; exact hend)] at ih'
          exact ih'
      · rw [if_neg h0, if_pos (by omega), ← happ (canonN_not_last i (by omega) p (fun h => by omega)), ih']
theorem list_eq (N : Nat) (hN : N ≤ 4096) (p : Nat → Bool) {k : Nat} (hk : 5000 ≤ k) : r01List.f k (bvN N p) = some (canonN N p) := by
  unfold r01List.f
  have := list_loop N (by omega) p N k 0 (by omega) (by omega)
  rw [canonN_zero] at this
  exact this
theorem list_marks (p : Nat → Bool) {k : Nat} (hk : 5000 ≤ k) : r01List.f k (bvN 4096 p) = some (canon p) := by rw [canon_eq]; exact list_eq 4096 (by omega) p hk
theorem same_loop (l : List S40) (hl : l.length ≤ 100000) : ∀ (n k i : Nat), i + n = l.length → n < k → r01Same.l0 k l l i = some true := by
  intro n
  induction n with
  | zero =>
    intro k i hi hk
    obtain ⟨k, rfl⟩ : ∃ m, k = m + 1 := ⟨k - 1, by omega⟩
    rw [r01Same.l0, if_neg (by omega)]
  | succ n ih =>
    intro k i hi hk
    obtain ⟨k, rfl⟩ : ∃ m, k = m + 1 := ⟨k - 1, by omega⟩
    rw [r01Same.l0, if_pos (by omega), if_pos (by omega), if_pos (by omega), if_neg (by simp), wsucc i (by omega), ih k (i + 1) (by omega) (by omega)]
theorem same_eq (l : List S40) {k : Nat} (hl : l.length ≤ 10000) (hk : 10001 ≤ k) : r01Same.f k l l = some true := by
  unfold r01Same.f
  rw [if_pos rfl]
  exact same_loop l (by omega) l.length k 0 (by omega) (by omega)
end Go.Proofs.Yteeedheklnelkaa.P

namespace Go.Proofs.Yteeedheklnelkaa.P
open Go.RowKit Go.Proofs.YteeedheklnelkaaW.PrintWords Go.Proofs.YteeedheklnelkaaW.PrintLast Go.Proofs.YteeedheklnelkaaW.PrintMore
theorem inL_nil (t : Int) : inL [] t = false := rfl
theorem xUnion_eq (a b : List S40) (h : a.length + b.length ≤ 100000) : xUnion.f a b = some (canon fun j => inL a j || inL b j) := by unfold xUnion.f opX; rw [if_pos h]
theorem union_nil (l : List S40) (h : l.length ≤ 100000) : xUnion.f l [] = some (canon fun j => inL l j) := by
  rw [xUnion_eq l [] (by simpa using h)]
  congr 1
  exact canon_congr fun j _ => by rw [inL_nil, Bool.or_false]
end Go.Proofs.Yteeedheklnelkaa.P

namespace Go.Proofs.Yteeedheklnelkaa.P
open Go.RowKit Go.Proofs.YteeedheklnelkaaW.PrintWords Go.Proofs.YteeedheklnelkaaW.PrintLast Go.Proofs.YteeedheklnelkaaW.PrintMore
theorem awake100 : l01awake.f 100 = some true := by kernel_rfl
theorem awake_eq {k : Nat} (hk : 100 ≤ k) : l01awake.f k = some true := by
  obtain ⟨n, rfl⟩ : ∃ n, k = 100 + n := ⟨k - 100, by omega⟩
  clear hk
  induction n with
  | zero => exact awake100
  | succ n ih => exact l01awake.mono _ _ ih
end Go.Proofs.Yteeedheklnelkaa.P

namespace Go.Proofs.Yteeedheklnelkaa.P
open Go.RowKit Go.Proofs.YteeedheklnelkaaW.PrintWords Go.Proofs.YteeedheklnelkaaW.PrintLast Go.Proofs.YteeedheklnelkaaW.PrintMore
attribute [local go_sem] max2_int min2_int max_two min_two max_three min_three max_four min_four   -- for this text's walks alone
set_option linter.unusedVariables false
set_option linter.unusedSimpArgs false
def r01within.f (a0_0 : Int) (a0_1 : Int) (a1 : Int) : Option (Bool) := if a0_0 ≥ 0 then (if a0_1 ≤ a1 then (some (decide (a0_0 ≤ (wrap64 (a1 - a0_1))))) else (some false)) else (some false)
set_option maxHeartbeats 8000000 in
set_option maxRecDepth 100000 in
theorem r01within.calls (a0_0 : Int) (a0_1 : Int) (a1 : Int) (r : Bool) (w : World) (h : r01within.f a0_0 a0_1 a1 = some r) :
    Calls Try.prog 34 #[.agg #[.int .i64 a0_0, .int .i64 a0_1], .int .i64 a1] w fun e w' => e = .returned (.bool r) ∧ Below w.heap.size w w' := by
  have hu40 := Try.underlying40
  have HB := Aside0.mk (Below.refl w.heap.size w)
  have H : (if a0_0 ≥ 0 then (if a0_1 ≤ a1 then (some (decide (a0_0 ≤ (wrap64 (a1 - a0_1))))) else (some false)) else (some false)) = some r := h
  clear h
  by_cases c3 : a0_0 ≥ 0
  · rw [if_pos c3] at H
    have c3b0 : decide (0 ≤ a0_0) = true := decide_eq_true c3
    clear c3
    by_cases c4 : a0_1 ≤ a1
    · rw [if_pos c4] at H
      have c4b0 : decide (a0_1 ≤ a1) = true := decide_eq_true c4
      clear c4
      obtain rfl := Option.some.inj H
      go_enter Try.func34, Try.ntmps34
      go_wp2_with (first | ((with_reducible refine gate_dst (N := 2) rfl ?_); refine box_event ?hg (N := 2) ?hd (cs := #[.int .i64 a0_0, .int .i64 a0_1]) (t := 40) ?hr ?_; (case hd => rfl); (case hg => rfl); (case hr => first | (go_simp; done) | (go_simp; rfl)); intro gb338 hg w5 hbox hb; have n0_ := Aside0.mk (below_step (by repeat (first | (with_reducible first | exact HB.out | apply below_alloc | apply pw_below_drewN | apply below_drew1) | exact HB.out)) hb); have n1_ := Aside0.mk (hbox); have n2_ := Aside0.mk ((by rw [hg]; exact (below_size (by repeat (first | (with_reducible first | exact HB.out | apply below_alloc | apply pw_below_drewN | apply below_drew1) | exact HB.out))) : w.heap.size ≤ gb338)); have n3_ := Aside0.mk ((by rw [hg]; exact (below_size (by repeat (first | (with_reducible first | exact HB.out | apply below_alloc | apply pw_below_drewN | apply below_drew1) | exact HB.out))) : w.heap.size ≤ gb338)); clear HB; have HB := n0_; have BK338 := n1_; have GW338 := n2_; have GE338 := n3_; clear n0_ n1_ n2_ n3_; clear hb hbox hg; have hcz6_0 : w5.cell? ⟨gb338, 0, none⟩ = some (.int .i64 a0_0) := (blk_cell BK338.out 0).trans rfl; have hcz6_1 : w5.cell? ⟨gb338, 1, none⟩ = some (.int .i64 a0_1) := (blk_cell BK338.out 1).trans rfl; have hfz6_0 := blk_frozen BK338.out 0; have hfz6_1 := blk_frozen BK338.out 1))
      go_ret
      exact ⟨by first | rfl | (simp [errW_none, errW_some] <;> rfl) | (simp [*, errW_none, errW_some] <;> rfl), by repeat (first | (with_reducible first | exact HB.out | apply below_alloc | apply pw_below_drewN | apply below_drew1 | refine below_set ?_ GE338.out) | exact HB.out)⟩
    · rw [if_neg c4] at H
      have c4b0 : decide (a0_1 ≤ a1) = false := decide_eq_false c4
      clear c4
      obtain rfl := Option.some.inj H
      go_enter Try.func34, Try.ntmps34
      go_wp2_with (first | ((with_reducible refine gate_dst (N := 2) rfl ?_); refine box_event ?hg (N := 2) ?hd (cs := #[.int .i64 a0_0, .int .i64 a0_1]) (t := 40) ?hr ?_; (case hd => rfl); (case hg => rfl); (case hr => first | (go_simp; done) | (go_simp; rfl)); intro gb338 hg w7 hbox hb; have n0_ := Aside0.mk (below_step (by repeat (first | (with_reducible first | exact HB.out | apply below_alloc | apply pw_below_drewN | apply below_drew1) | exact HB.out)) hb); have n1_ := Aside0.mk (hbox); have n2_ := Aside0.mk ((by rw [hg]; exact (below_size (by repeat (first | (with_reducible first | exact HB.out | apply below_alloc | apply pw_below_drewN | apply below_drew1) | exact HB.out))) : w.heap.size ≤ gb338)); have n3_ := Aside0.mk ((by rw [hg]; exact (below_size (by repeat (first | (with_reducible first | exact HB.out | apply below_alloc | apply pw_below_drewN | apply below_drew1) | exact HB.out))) : w.heap.size ≤ gb338)); clear HB; have HB := n0_; have BK338 := n1_; have GW338 := n2_; have GE338 := n3_; clear n0_ n1_ n2_ n3_; clear hb hbox hg; have hcz8_0 : w7.cell? ⟨gb338, 0, none⟩ = some (.int .i64 a0_0) := (blk_cell BK338.out 0).trans rfl; have hcz8_1 : w7.cell? ⟨gb338, 1, none⟩ = some (.int .i64 a0_1) := (blk_cell BK338.out 1).trans rfl; have hfz8_0 := blk_frozen BK338.out 0; have hfz8_1 := blk_frozen BK338.out 1))
      go_ret
      exact ⟨by first | rfl | (simp [errW_none, errW_some] <;> rfl) | (simp [*, errW_none, errW_some] <;> rfl), by repeat (first | (with_reducible first | exact HB.out | apply below_alloc | apply pw_below_drewN | apply below_drew1 | refine below_set ?_ GE338.out) | exact HB.out)⟩
  · rw [if_neg c3] at H
    have c3b0 : decide (0 ≤ a0_0) = false := decide_eq_false c3
    clear c3
    obtain rfl := Option.some.inj H
    go_enter Try.func34, Try.ntmps34
    go_wp2_with (first | ((with_reducible refine gate_dst (N := 2) rfl ?_); refine box_event ?hg (N := 2) ?hd (cs := #[.int .i64 a0_0, .int .i64 a0_1]) (t := 40) ?hr ?_; (case hd => rfl); (case hg => rfl); (case hr => first | (go_simp; done) | (go_simp; rfl)); intro gb338 hg w9 hbox hb; have n0_ := Aside0.mk (below_step (by repeat (first | (with_reducible first | exact HB.out | apply below_alloc | apply pw_below_drewN | apply below_drew1) | exact HB.out)) hb); have n1_ := Aside0.mk (hbox); have n2_ := Aside0.mk ((by rw [hg]; exact (below_size (by repeat (first | (with_reducible first | exact HB.out | apply below_alloc | apply pw_below_drewN | apply below_drew1) | exact HB.out))) : w.heap.size ≤ gb338)); have n3_ := Aside0.mk ((by rw [hg]; exact (below_size (by repeat (first | (with_reducible first | exact HB.out | apply below_alloc | apply pw_below_drewN | apply below_drew1) | exact HB.out))) : w.heap.size ≤ gb338)); clear HB; have HB := n0_; have BK338 := n1_; have GW338 := n2_; have GE338 := n3_; clear n0_ n1_ n2_ n3_; clear hb hbox hg; have hcz10_0 : w9.cell? ⟨gb338, 0, none⟩ = some (.int .i64 a0_0) := (blk_cell BK338.out 0).trans rfl; have hcz10_1 : w9.cell? ⟨gb338, 1, none⟩ = some (.int .i64 a0_1) := (blk_cell BK338.out 1).trans rfl; have hfz10_0 := blk_frozen BK338.out 0; have hfz10_1 := blk_frozen BK338.out 1))
    go_ret
    exact ⟨by first | rfl | (simp [errW_none, errW_some] <;> rfl) | (simp [*, errW_none, errW_some] <;> rfl), by repeat (first | (with_reducible first | exact HB.out | apply below_alloc | apply pw_below_drewN | apply below_drew1 | refine below_set ?_ GE338.out) | exact HB.out)⟩
def r01Normalize.l0 : Nat → List (S40) → Int → Option ((List (S40)) × Int)
  | 0, _, _ => none
  | k + 1, x0, x4 => if x4 < (x0.length : Int) then (if 0 ≤ x4 then (if ((rd_T40 x0 x4).f1) < 0 then (some (([] : List (S40)), 1)) else (if ((rd_T40 x0 x4).f1) > 0 then ((r01within.f ((rd_T40 x0 x4).f0) ((rd_T40 x0 x4).f1) 4096).bind fun t359 => (if t359 = true then (r01Normalize.l0 k x0 (wrap64 (x4 + 1))) else (some (([] : List (S40)), 2)))) else (r01Normalize.l0 k x0 (wrap64 (x4 + 1))))) else (none)) else ((r01Marks.f k x0).bind fun t350 => ((r01List.f k t350).bind fun t353 => (some (t353, 0))))
def r01Normalize.f (k : Nat) (l0 : List (S40)) : Option ((List (S40)) × Int) := r01Normalize.l0 k l0 0
set_option maxHeartbeats 8000000 in
set_option maxRecDepth 100000 in
theorem r01Normalize.calls (k : Nat) (A0 : Option Addr) (c0 : Nat) (l0 : List (S40)) (r1 : List (S40)) (r2 : Int) (w : World) (hr0 : Kd.C k40 w A0 l0.length l0) (hc0 : l0.length ≤ c0) (h : r01Normalize.f k l0 = some (r1, r2)) :
    Calls Try.prog 17 #[.slice A0 l0.length c0] w fun e w' => ∃ v0_ : Value, e = .returned (.tuple #[v0_, .int .i64 r2]) ∧ Kd.R k40 40 w' w.heap.size (fun _ => True) v0_ r1 ∧ Below w.heap.size w w' := by
  have hu40 := Try.underlying40
  have HR0 := Aside0.mk hr0
  have HC0 := Aside0.mk hc0
  clear hr0 hc0
  have HB := Aside0.mk (Below.refl w.heap.size w)
  have H : (r01Normalize.l0 k l0 0) = some (r1, r2) := h
  clear h
  have H' := Aside0.mk H
  clear H
  go_enter Try.func17, Try.ntmps17
  go_wp2
  go_loopg [4] k (fun kq v4 w' => ∃ (x4_1 : Int), v4 = .int .i64 x4_1 ∧ Aside0 (r01Normalize.l0 kq l0 x4_1 = some (r1, r2)) ∧ Aside0 (kq ≤ k) ∧ Aside0 (Below w.heap.size w w'))
  case atStart => exact ⟨(0), (by first | rfl | (simp; done) | (simp [*]; done)), H', ⟨Nat.le_refl _⟩, ⟨by repeat (first | (with_reducible first | exact HB.out | apply below_alloc | apply pw_below_drewN | apply below_drew1) | exact HB.out)⟩⟩
  case round =>
    clear H'
    try clear c1
    obtain ⟨x4_1, rfl, HA, HK1, HB⟩ := hrel
    cases gk with
    | zero => exact absurd HA.out (by simp [r01Normalize.l0])
    | succ k1 =>
      have H := HA.out
      clear HA
      simp only [r01Normalize.l0] at H
      by_cases c2 : x4_1 < (l0.length : Int)
      · rw [if_pos c2] at H
        have c2b0 : decide (x4_1 < (l0.length : Int)) = true := decide_eq_true c2
        clear c2
        by_cases c3 : 0 ≤ x4_1
        · rw [if_pos c3] at H
          have c3b0 : decide (0 ≤ x4_1) = true := decide_eq_true c3
          clear c3
          by_cases c4 : ((rd_T40 l0 x4_1).f1) < 0
          · rw [if_pos c4] at H
            have c4b0 : decide (((rd_T40 l0 x4_1).f1) < 0) = true := decide_eq_true c4
            clear c4
            simp only [Option.some.injEq, Prod.mk.injEq] at H
            obtain ⟨rfl, rfl⟩ := H
            have p356 : 0 ≤ (x4_1 : Int) := of_decide_eq_true (by first | (with_reducible assumption) | assumption)
            have q356 : x4_1 < (l0.length : Int) := of_decide_eq_true (by first | (with_reducible assumption) | assumption)
            obtain ⟨ad356, e356, hx356_0, hx356_1⟩ := at_T40 HR0.out x4_1 p356 q356
            cases e356
            replace hx356_0 := (HB.out.cell (World.block_lt_of_cell? w _ hx356_0)).trans hx356_0
            replace hx356_1 := (HB.out.cell (World.block_lt_of_cell? w _ hx356_1)).trans hx356_1
            replace p356 := eq_true p356
            replace q356 := eq_true q356
            go_wp2
            go_ret2
            exact ⟨_, by first | rfl | (simp [errW_none, errW_some] <;> rfl) | (simp [*, errW_none, errW_some] <;> rfl), by first | exact Kd.R_nil _ _ _ _ _ | exact Kd.N_nil _ _ _ _ _ | exact Kd.V_nil _ _ _ _ _ | exact Kd.Q_nil _ _ _ _ _ | exact Kd.S_nil _ _ _ _ _, by repeat (first | (with_reducible first | exact HB.out | apply below_alloc | apply pw_below_drewN | apply below_drew1) | exact HB.out)⟩
          · rw [if_neg c4] at H
            have c4b0 : decide (((rd_T40 l0 x4_1).f1) < 0) = false := decide_eq_false c4
            clear c4
            by_cases c5 : ((rd_T40 l0 x4_1).f1) > 0
            · rw [if_pos c5] at H
              have c5b0 : decide (0 < ((rd_T40 l0 x4_1).f1)) = true := decide_eq_true c5
              clear c5
              replace H := Option.bind_eq_some_iff.mp H
              obtain ⟨t359, A60, H⟩ := H
              replace H : (if t359 = true then (r01Normalize.l0 k1 l0 (wrap64 (x4_1 + 1))) else (some (([] : List (S40)), 2))) = some (r1, r2) := H
              have A6 := Aside0.mk A60
              clear A60
              by_cases c7 : t359 = true
              · subst c7
                have H1 : (r01Normalize.l0 k1 l0 (wrap64 (x4_1 + 1))) = some (r1, r2) := by rw [if_pos rfl] at H; exact H
                clear H
                have H := H1
                clear H1
                have H' := Aside0.mk H
                clear H
                have p356 : 0 ≤ (x4_1 : Int) := of_decide_eq_true (by first | (with_reducible assumption) | assumption)
                have q356 : x4_1 < (l0.length : Int) := of_decide_eq_true (by first | (with_reducible assumption) | assumption)
                obtain ⟨ad356, e356, hx356_0, hx356_1⟩ := at_T40 HR0.out x4_1 p356 q356
                cases e356
                replace hx356_0 := (HB.out.cell (World.block_lt_of_cell? w _ hx356_0)).trans hx356_0
                replace hx356_1 := (HB.out.cell (World.block_lt_of_cell? w _ hx356_1)).trans hx356_1
                replace p356 := eq_true p356
                replace q356 := eq_true q356
                have p357 : 0 ≤ (x4_1 : Int) := of_decide_eq_true (by first | (with_reducible assumption) | assumption)
                have q357 : x4_1 < (l0.length : Int) := of_decide_eq_true (by first | (with_reducible assumption) | assumption)
                obtain ⟨ad357, e357, hx357_0, hx357_1⟩ := at_T40 HR0.out x4_1 p357 q357
                obtain rfl : ad356 = ad357 := (by injection e357)
                replace hx357_0 := (HB.out.cell (World.block_lt_of_cell? w _ hx357_0)).trans hx357_0
                replace hx357_1 := (HB.out.cell (World.block_lt_of_cell? w _ hx357_1)).trans hx357_1
                replace p357 := eq_true p357
                replace q357 := eq_true q357
                have p358 : 0 ≤ (x4_1 : Int) := of_decide_eq_true (by first | (with_reducible assumption) | assumption)
                have q358 : x4_1 < (l0.length : Int) := of_decide_eq_true (by first | (with_reducible assumption) | assumption)
                obtain ⟨ad358, e358, hx358_0, hx358_1⟩ := at_T40 HR0.out x4_1 p358 q358
                obtain rfl : ad356 = ad358 := (by injection e358)
                replace hx358_0 := (HB.out.cell (World.block_lt_of_cell? w _ hx358_0)).trans hx358_0
                replace hx358_1 := (HB.out.cell (World.block_lt_of_cell? w _ hx358_1)).trans hx358_1
                replace p358 := eq_true p358
                replace q358 := eq_true q358
                go_wp2_with (first | (go_at_call 34; (with_reducible refine (r01within.calls ((rd_T40 l0 x4_1).f0) ((rd_T40 l0 x4_1).f1) 4096 true _ A6.out).mono ?_); rintro e w8 ⟨rfl, hb⟩; have n0_ := Aside0.mk (below_step (by repeat (first | (with_reducible first | exact HB.out | apply below_alloc | apply pw_below_drewN | apply below_drew1) | exact HB.out)) hb); clear HB; have HB := n0_; clear n0_; (try clear hb); (try clear hb2); (try clear hk); (try clear hi)))
                go_roundg k1
                case measure => have := HK1.out; omega
                case rel => exact ⟨(wrap64 (x4_1 + 1)), (by first | rfl | (simp; done) | (simp [*]; done)), H', ⟨by have := HK1.out; omega⟩, ⟨by repeat (first | (with_reducible first | exact HB.out | apply below_alloc | apply pw_below_drewN | apply below_drew1) | exact HB.out)⟩⟩
              · replace c7 := Bool.eq_false_iff.mpr c7
                subst c7
                have H1 : (some (([] : List (S40)), 2)) = some (r1, r2) := by rw [if_neg (show ¬ (false = true) by decide)] at H; exact H
                clear H
                have H := H1
                clear H1
                simp only [Option.some.injEq, Prod.mk.injEq] at H
                obtain ⟨rfl, rfl⟩ := H
                have p356 : 0 ≤ (x4_1 : Int) := of_decide_eq_true (by first | (with_reducible assumption) | assumption)
                have q356 : x4_1 < (l0.length : Int) := of_decide_eq_true (by first | (with_reducible assumption) | assumption)
                obtain ⟨ad356, e356, hx356_0, hx356_1⟩ := at_T40 HR0.out x4_1 p356 q356
                cases e356
                replace hx356_0 := (HB.out.cell (World.block_lt_of_cell? w _ hx356_0)).trans hx356_0
                replace hx356_1 := (HB.out.cell (World.block_lt_of_cell? w _ hx356_1)).trans hx356_1
                replace p356 := eq_true p356
                replace q356 := eq_true q356
                have p357 : 0 ≤ (x4_1 : Int) := of_decide_eq_true (by first | (with_reducible assumption) | assumption)
                have q357 : x4_1 < (l0.length : Int) := of_decide_eq_true (by first | (with_reducible assumption) | assumption)
                obtain ⟨ad357, e357, hx357_0, hx357_1⟩ := at_T40 HR0.out x4_1 p357 q357
                obtain rfl : ad356 = ad357 := (by injection e357)
                replace hx357_0 := (HB.out.cell (World.block_lt_of_cell? w _ hx357_0)).trans hx357_0
                replace hx357_1 := (HB.out.cell (World.block_lt_of_cell? w _ hx357_1)).trans hx357_1
                replace p357 := eq_true p357
                replace q357 := eq_true q357
                have p358 : 0 ≤ (x4_1 : Int) := of_decide_eq_true (by first | (with_reducible assumption) | assumption)
                have q358 : x4_1 < (l0.length : Int) := of_decide_eq_true (by first | (with_reducible assumption) | assumption)
                obtain ⟨ad358, e358, hx358_0, hx358_1⟩ := at_T40 HR0.out x4_1 p358 q358
                obtain rfl : ad356 = ad358 := (by injection e358)
                replace hx358_0 := (HB.out.cell (World.block_lt_of_cell? w _ hx358_0)).trans hx358_0
                replace hx358_1 := (HB.out.cell (World.block_lt_of_cell? w _ hx358_1)).trans hx358_1
                replace p358 := eq_true p358
                replace q358 := eq_true q358
                go_wp2_with (first | (go_at_call 34; (with_reducible refine (r01within.calls ((rd_T40 l0 x4_1).f0) ((rd_T40 l0 x4_1).f1) 4096 false _ A6.out).mono ?_); rintro e w9 ⟨rfl, hb⟩; have n0_ := Aside0.mk (below_step (by repeat (first | (with_reducible first | exact HB.out | apply below_alloc | apply pw_below_drewN | apply below_drew1) | exact HB.out)) hb); clear HB; have HB := n0_; clear n0_; (try clear hb); (try clear hb2); (try clear hk); (try clear hi)))
                go_ret2
                exact ⟨_, by first | rfl | (simp [errW_none, errW_some] <;> rfl) | (simp [*, errW_none, errW_some] <;> rfl), by first | exact Kd.R_nil _ _ _ _ _ | exact Kd.N_nil _ _ _ _ _ | exact Kd.V_nil _ _ _ _ _ | exact Kd.Q_nil _ _ _ _ _ | exact Kd.S_nil _ _ _ _ _, by repeat (first | (with_reducible first | exact HB.out | apply below_alloc | apply pw_below_drewN | apply below_drew1) | exact HB.out)⟩
            · rw [if_neg c5] at H
              have c5b0 : decide (0 < ((rd_T40 l0 x4_1).f1)) = false := decide_eq_false c5
              clear c5
              have H' := Aside0.mk H
              clear H
              have p356 : 0 ≤ (x4_1 : Int) := of_decide_eq_true (by first | (with_reducible assumption) | assumption)
              have q356 : x4_1 < (l0.length : Int) := of_decide_eq_true (by first | (with_reducible assumption) | assumption)
              obtain ⟨ad356, e356, hx356_0, hx356_1⟩ := at_T40 HR0.out x4_1 p356 q356
              cases e356
              replace hx356_0 := (HB.out.cell (World.block_lt_of_cell? w _ hx356_0)).trans hx356_0
              replace hx356_1 := (HB.out.cell (World.block_lt_of_cell? w _ hx356_1)).trans hx356_1
              replace p356 := eq_true p356
              replace q356 := eq_true q356
              have p357 : 0 ≤ (x4_1 : Int) := of_decide_eq_true (by first | (with_reducible assumption) | assumption)
              have q357 : x4_1 < (l0.length : Int) := of_decide_eq_true (by first | (with_reducible assumption) | assumption)
              obtain ⟨ad357, e357, hx357_0, hx357_1⟩ := at_T40 HR0.out x4_1 p357 q357
              obtain rfl : ad356 = ad357 := (by injection e357)
              replace hx357_0 := (HB.out.cell (World.block_lt_of_cell? w _ hx357_0)).trans hx357_0
              replace hx357_1 := (HB.out.cell (World.block_lt_of_cell? w _ hx357_1)).trans hx357_1
              replace p357 := eq_true p357
              replace q357 := eq_true q357
              go_wp2
              go_roundg k1
              case measure => have := HK1.out; omega
              case rel => exact ⟨(wrap64 (x4_1 + 1)), (by first | rfl | (simp; done) | (simp [*]; done)), H', ⟨by have := HK1.out; omega⟩, ⟨by repeat (first | (with_reducible first | exact HB.out | apply below_alloc | apply pw_below_drewN | apply below_drew1) | exact HB.out)⟩⟩
        · rw [if_neg c3] at H
          exact absurd H (by simp)
      · rw [if_neg c2] at H
        have c2b0 : decide (x4_1 < (l0.length : Int)) = false := decide_eq_false c2
        clear c2
        replace H := Option.bind_eq_some_iff.mp H
        obtain ⟨t350, A100, H⟩ := H
        replace H : ((r01List.f k1 t350).bind fun t353 => (some (t353, 0))) = some (r1, r2) := H
        have A10 := Aside0.mk A100
        clear A100
        replace H := Option.bind_eq_some_iff.mp H
        obtain ⟨t353, A110, H⟩ := H
        replace H : (some (t353, 0)) = some (r1, r2) := H
        have A11 := Aside0.mk A110
        clear A110
        simp only [Option.some.injEq, Prod.mk.injEq] at H
        obtain ⟨rfl, rfl⟩ := H
        go_wp2_with (first | ((with_reducible refine gate_callee (f := 36) rfl ?_); refine goesL_ (some 32) rfl rfl Try.func36 (by kernel_rfl) rfl #[.slice A0 l0.length c0] rfl (by (try simp only [List.map_toArray, List.map_cons, List.map_nil]); first | done | rfl | (simp only [List.length_drop, List.length_take]; rfl)) ?_; (with_reducible refine (r01Marks.calls k1 _ _ l0 t350 _ ?side1 ?side2 A10.out).mono ?_); (case side1 => repeat (first | exact (Kd.C_below HR0.out HB.out) | (with_reducible refine Kd.C_alloc ?_ _) | (with_reducible refine Kd.C_drewN ?_ _) | (with_reducible refine Kd.C_drew ?_))); (case side2 => exact HC0.out); rintro e w12 ⟨v351, rfl, ho0, hb⟩; refine ⟨_, rfl, ?_⟩; have n0_ := Aside0.mk (Kd.R_lower ho0 (below_size (by repeat (first | (with_reducible first | exact HB.out | apply below_alloc | apply pw_below_drewN | apply below_drew1) | exact HB.out)))); have n1_ := Aside0.mk (below_step (by repeat (first | (with_reducible first | exact HB.out | apply below_alloc | apply pw_below_drewN | apply below_drew1) | exact HB.out)) hb); clear HB; have HO352 := n0_; have HB := n1_; clear n0_ n1_; (try clear hb); (try clear hb2); (try clear hk); (try clear hi); (try clear ho0); obtain ⟨Ao13, co13, eo13⟩ := Kd.R_slice HO352.out; subst eo13) | ((with_reducible refine gate_callee (f := 35) rfl ?_); refine goesL_ (some 33) rfl rfl Try.func35 (by kernel_rfl) rfl #[.slice Ao13 t350.length co13] rfl (by (try simp only [List.map_toArray, List.map_cons, List.map_nil]); first | done | rfl | (simp only [List.length_drop, List.length_take]; rfl)) ?_; (with_reducible refine (r01List.calls k1 _ _ t350 t353 _ ?side1 ?side2 A11.out).mono ?_); (case side1 => repeat (first | exact (Kd.R_reads' HO352.out).2.2 | (with_reducible refine Kd.C_alloc ?_ _) | (with_reducible refine Kd.C_drewN ?_ _) | (with_reducible refine Kd.C_drew ?_))); (case side2 => exact (Kd.R_reads' HO352.out).2.1); rintro e w14 ⟨v354, rfl, ho0, hb⟩; refine ⟨_, rfl, ?_⟩; have n0_ := Aside0.mk (Kd.R_below (by (with_reducible repeat (first | apply Kd.R_alloc | apply Kd.R_drewN | apply Kd.R_drew)); exact HO352.out) hb); have n1_ := Aside0.mk (Kd.R_lower ho0 (below_size (by repeat (first | (with_reducible first | exact HB.out | apply below_alloc | apply pw_below_drewN | apply below_drew1) | exact HB.out)))); have n2_ := Aside0.mk (below_step (by repeat (first | (with_reducible first | exact HB.out | apply below_alloc | apply pw_below_drewN | apply below_drew1) | exact HB.out)) hb); clear HO352; clear HB; have HO352 := n0_; have HO355 := n1_; have HB := n2_; clear n0_ n1_ n2_; (try clear hb); (try clear hb2); (try clear hk); (try clear hi); (try clear ho0)))
        go_ret2
        exact ⟨_, by first | rfl | (simp [errW_none, errW_some] <;> rfl) | (simp [*, errW_none, errW_some] <;> rfl), by (with_reducible repeat (first | apply Kd.R_alloc | apply Kd.R_drewN | apply Kd.R_drew)); exact HO355.out, by repeat (first | (with_reducible first | exact HB.out | apply below_alloc | apply pw_below_drewN | apply below_drew1) | exact HB.out)⟩
def l01ExtentNormalizes.f (k : Nat) (l0 : List (S40)) : Option (Bool) := (l01few.f l0 ([] : List (S40))).bind fun t360 => (if t360 = true then ((xNormalize.f k l0).bind fun bt362 => ((r01Normalize.f k l0).bind fun bt366 => ((r01Same.f k bt362.1 bt366.1).bind fun t370 => (if t370 = true then (if bt362.2 = bt366.2 then ((l01awake.f k).bind fun t371 => (some t371)) else (some false)) else (some false))))) else ((l01awake.f k).bind fun t361 => (some t361)))
set_option maxHeartbeats 8000000 in
set_option maxRecDepth 100000 in
theorem l01ExtentNormalizes.calls (k : Nat) (A0 : Option Addr) (c0 : Nat) (l0 : List (S40)) (r : Bool) (w : World) (hr0 : Kd.C k40 w A0 l0.length l0) (hc0 : l0.length ≤ c0) (hT : Aside0 (r = true)) (h : l01ExtentNormalizes.f k l0 = some r) :
    Calls Try.prog 4 #[.slice A0 l0.length c0] w fun e w' => e = .returned (.bool r) ∧ Below w.heap.size w w' := by
  have HR0 := Aside0.mk hr0
  have HC0 := Aside0.mk hc0
  clear hr0 hc0
  have HB := Aside0.mk (Below.refl w.heap.size w)
  have H : ((l01few.f l0 ([] : List (S40))).bind fun t360 => (if t360 = true then ((xNormalize.f k l0).bind fun bt362 => ((r01Normalize.f k l0).bind fun bt366 => ((r01Same.f k bt362.1 bt366.1).bind fun t370 => (if t370 = true then (if bt362.2 = bt366.2 then ((l01awake.f k).bind fun t371 => (some t371)) else (some false)) else (some false))))) else ((l01awake.f k).bind fun t361 => (some t361)))) = some r := h
  clear h
  replace H := Option.bind_eq_some_iff.mp H
  obtain ⟨t360, A20, H⟩ := H
  replace H : (if t360 = true then ((xNormalize.f k l0).bind fun bt362 => ((r01Normalize.f k l0).bind fun bt366 => ((r01Same.f k bt362.1 bt366.1).bind fun t370 => (if t370 = true then (if bt362.2 = bt366.2 then ((l01awake.f k).bind fun t371 => (some t371)) else (some false)) else (some false))))) else ((l01awake.f k).bind fun t361 => (some t361))) = some r := H
  have A2 := Aside0.mk A20
  clear A20
  by_cases c3 : t360 = true
  · subst c3
    have H1 : ((xNormalize.f k l0).bind fun bt362 => ((r01Normalize.f k l0).bind fun bt366 => ((r01Same.f k bt362.1 bt366.1).bind fun t370 => (if t370 = true then (if bt362.2 = bt366.2 then ((l01awake.f k).bind fun t371 => (some t371)) else (some false)) else (some false))))) = some r := by rw [if_pos rfl] at H; exact H
    clear H
    have H := H1
    clear H1
    replace H := Option.bind_eq_some_iff.mp H
    obtain ⟨⟨t362, t363⟩, A40, H⟩ := H
    replace H : ((r01Normalize.f k l0).bind fun bt366 => ((r01Same.f k t362 bt366.1).bind fun t370 => (if t370 = true then (if t363 = bt366.2 then ((l01awake.f k).bind fun t371 => (some t371)) else (some false)) else (some false)))) = some r := H
    have A4 := Aside0.mk A40
    clear A40
    replace H := Option.bind_eq_some_iff.mp H
    obtain ⟨⟨t366, t367⟩, A50, H⟩ := H
    replace H : ((r01Same.f k t362 t366).bind fun t370 => (if t370 = true then (if t363 = t367 then ((l01awake.f k).bind fun t371 => (some t371)) else (some false)) else (some false))) = some r := H
    have A5 := Aside0.mk A50
    clear A50
    replace H := Option.bind_eq_some_iff.mp H
    obtain ⟨t370, A60, H⟩ := H
    replace H : (if t370 = true then (if t363 = t367 then ((l01awake.f k).bind fun t371 => (some t371)) else (some false)) else (some false)) = some r := H
    have A6 := Aside0.mk A60
    clear A60
    by_cases c7 : t370 = true
    · subst c7
      have H1 : (if t363 = t367 then ((l01awake.f k).bind fun t371 => (some t371)) else (some false)) = some r := by rw [if_pos rfl] at H; exact H
      clear H
      have H := H1
      clear H1
      by_cases c8 : t363 = t367
      · rw [if_pos c8] at H
        have c8b0 : (t363 == t367) = true := beq_iff_eq.mpr c8
        have c8b1 : (t363 != t367) = false := bne_eq_false_iff_eq.mpr c8
        clear c8
        replace H := Option.bind_eq_some_iff.mp H
        obtain ⟨t371, A90, H⟩ := H
        replace H : (some t371) = some r := H
        have A9 := Aside0.mk A90
        clear A90
        obtain rfl := Option.some.inj H
        go_enter Try.func4, Try.ntmps4
        go_wp2_with (first | ((with_reducible refine gate_callee (f := 12) rfl ?_); refine goesL_ (some 8) rfl rfl Try.func12 (by kernel_rfl) rfl #[.slice A0 l0.length c0, .slice none 0 0] rfl (by (try simp only [List.map_toArray, List.map_cons, List.map_nil]); first | done | rfl | (simp only [List.length_drop, List.length_take]; rfl)) ?_; (refine (l01few.calls _ _ l0 _ _ ([] : List (S40)) true _ ?side1 ?side2 ?side3 ?side4 A2.out).mono ?_); (case side1 => repeat (first | exact HR0.out | (with_reducible refine Kd.C_alloc ?_ _) | (with_reducible refine Kd.C_drewN ?_ _) | (with_reducible refine Kd.C_drew ?_))); (case side2 => exact HC0.out); (case side3 => exact Kd.C_nil _ _); (case side4 => exact Nat.le_refl _); rintro e w' ⟨rfl, ⟨nd, rfl⟩⟩; refine ⟨_, rfl, ?_⟩) | ((with_reducible refine gate_callee (f := 16) rfl ?_); refine goesL_ (some 13) rfl rfl Try.func16 (by kernel_rfl) rfl #[.slice A0 l0.length c0] rfl (by (try simp only [List.map_toArray, List.map_cons, List.map_nil]); first | done | rfl | (simp only [List.length_drop, List.length_take]; rfl)) ?_; (with_reducible refine (xNormalize.calls k _ _ l0 t362 t363 _ ?side1 ?side2 A4.out).mono ?_); (case side1 => repeat (first | exact HR0.out | (with_reducible refine Kd.C_alloc ?_ _) | (with_reducible refine Kd.C_drewN ?_ _) | (with_reducible refine Kd.C_drew ?_))); (case side2 => exact HC0.out); rintro e w10 ⟨v364, rfl, ho0, hb⟩; refine ⟨_, rfl, ?_⟩; have n0_ := Aside0.mk (Kd.R_lower ho0 (below_size (by repeat (first | (with_reducible first | exact HB.out | apply below_alloc | apply pw_below_drewN | apply below_drew1) | exact HB.out)))); have n1_ := Aside0.mk (below_step (by repeat (first | (with_reducible first | exact HB.out | apply below_alloc | apply pw_below_drewN | apply below_drew1) | exact HB.out)) hb); clear HB; have HO365 := n0_; have HB := n1_; clear n0_ n1_; (try clear hb); (try clear hb2); (try clear hk); (try clear hi); (try clear ho0)) | ((with_reducible refine gate_callee (f := 17) rfl ?_); refine goesL_ (some 18) rfl rfl Try.func17 (by kernel_rfl) rfl #[.slice A0 l0.length c0] rfl (by (try simp only [List.map_toArray, List.map_cons, List.map_nil]); first | done | rfl | (simp only [List.length_drop, List.length_take]; rfl)) ?_; (with_reducible refine (r01Normalize.calls k _ _ l0 t366 t367 _ ?side1 ?side2 A5.out).mono ?_); (case side1 => repeat (first | exact (Kd.C_below HR0.out HB.out) | (with_reducible refine Kd.C_alloc ?_ _) | (with_reducible refine Kd.C_drewN ?_ _) | (with_reducible refine Kd.C_drew ?_))); (case side2 => exact HC0.out); rintro e w11 ⟨v368, rfl, ho0, hb⟩; refine ⟨_, rfl, ?_⟩; have n0_ := Aside0.mk (Kd.R_elder' (by (with_reducible repeat (first | apply Kd.R_alloc | apply Kd.R_drewN | apply Kd.R_drew)); exact HO365.out) (Kd.R_base ho0) hb); have n1_ := Aside0.mk (Kd.R_lower (Kd.R_new' ho0 (Kd.R_lt (by (with_reducible repeat (first | apply Kd.R_alloc | apply Kd.R_drewN | apply Kd.R_drew)); exact HO365.out))) (below_size (by repeat (first | (with_reducible first | exact HB.out | apply below_alloc | apply pw_below_drewN | apply below_drew1) | exact HB.out)))); have n2_ := Aside0.mk (below_step (by repeat (first | (with_reducible first | exact HB.out | apply below_alloc | apply pw_below_drewN | apply below_drew1) | exact HB.out)) hb); clear HO365; clear HB; have HO365 := n0_; have HO369 := n1_; have HB := n2_; clear n0_ n1_ n2_; (try clear hb); (try clear hb2); (try clear hk); (try clear hi); (try clear ho0); obtain ⟨Ao12, co12, eo12⟩ := Kd.R_slice HO365.out; subst eo12; obtain ⟨Ao13, co13, eo13⟩ := Kd.R_slice HO369.out; subst eo13) | ((with_reducible refine gate_callee (f := 18) rfl ?_); refine goesL_ (some 23) rfl rfl Try.func18 (by kernel_rfl) rfl #[.slice Ao12 t362.length co12, .slice Ao13 t366.length co13] rfl (by (try simp only [List.map_toArray, List.map_cons, List.map_nil]); first | done | rfl | (simp only [List.length_drop, List.length_take]; rfl)) ?_; (with_reducible refine (r01Same.calls k _ _ t362 _ _ t366 true _ ?side1 ?side2 ?side3 ?side4 A6.out).mono ?_); (case side1 => repeat (first | exact (Kd.R_reads' HO365.out).2.2 | (with_reducible refine Kd.C_alloc ?_ _) | (with_reducible refine Kd.C_drewN ?_ _) | (with_reducible refine Kd.C_drew ?_))); (case side2 => exact (Kd.R_reads' HO365.out).2.1); (case side3 => repeat (first | exact (Kd.R_reads' HO369.out).2.2 | (with_reducible refine Kd.C_alloc ?_ _) | (with_reducible refine Kd.C_drewN ?_ _) | (with_reducible refine Kd.C_drew ?_))); (case side4 => exact (Kd.R_reads' HO369.out).2.1); rintro e w' ⟨rfl, ⟨nd, rfl⟩⟩; refine ⟨_, rfl, ?_⟩) | (go_at_call 13; (with_reducible refine (l01awake.calls k  t371 _ A9.out).mono ?_); rintro e w14 ⟨rfl, hb⟩; have n0_ := Aside0.mk (Kd.R_below (by (with_reducible repeat (first | apply Kd.R_alloc | apply Kd.R_drewN | apply Kd.R_drew)); exact HO365.out) hb); have n1_ := Aside0.mk (Kd.R_below (by (with_reducible repeat (first | apply Kd.R_alloc | apply Kd.R_drewN | apply Kd.R_drew)); exact HO369.out) hb); have n2_ := Aside0.mk (below_step (by repeat (first | (with_reducible first | exact HB.out | apply below_alloc | apply pw_below_drewN | apply below_drew1) | exact HB.out)) hb); clear HO365; clear HO369; clear HB; have HO365 := n0_; have HO369 := n1_; have HB := n2_; clear n0_ n1_ n2_; (try clear hb); (try clear hb2); (try clear hk); (try clear hi)))
        go_ret
        exact ⟨by first | rfl | (simp [errW_none, errW_some] <;> rfl) | (simp [*, errW_none, errW_some] <;> rfl), by repeat (first | (with_reducible first | exact HB.out | apply below_alloc | apply pw_below_drewN | apply below_drew1) | exact HB.out)⟩
      · rw [if_neg c8] at H
        have c8b0 : (t363 == t367) = false := beq_eq_false_iff_ne.mpr c8
        have c8b1 : (t363 != t367) = true := bne_iff_ne.mpr c8
        exact absurd ((Option.some.inj H).trans hT.out) (by decide)
    · replace c7 := Bool.eq_false_iff.mpr c7
      subst c7
      have H1 : (some false) = some r := by rw [if_neg (show ¬ (false = true) by decide)] at H; exact H
      clear H
      have H := H1
      clear H1
      exact absurd ((Option.some.inj H).trans hT.out) (by decide)
  · replace c3 := Bool.eq_false_iff.mpr c3
    subst c3
    have H1 : ((l01awake.f k).bind fun t361 => (some t361)) = some r := by rw [if_neg (show ¬ (false = true) by decide)] at H; exact H
    clear H
    have H := H1
    clear H1
    replace H := Option.bind_eq_some_iff.mp H
    obtain ⟨t361, A150, H⟩ := H
    replace H : (some t361) = some r := H
    have A15 := Aside0.mk A150
    clear A150
    obtain rfl := Option.some.inj H
    go_enter Try.func4, Try.ntmps4
    go_wp2_with (first | ((with_reducible refine gate_callee (f := 12) rfl ?_); refine goesL_ (some 8) rfl rfl Try.func12 (by kernel_rfl) rfl #[.slice A0 l0.length c0, .slice none 0 0] rfl (by (try simp only [List.map_toArray, List.map_cons, List.map_nil]); first | done | rfl | (simp only [List.length_drop, List.length_take]; rfl)) ?_; (refine (l01few.calls _ _ l0 _ _ ([] : List (S40)) false _ ?side1 ?side2 ?side3 ?side4 A2.out).mono ?_); (case side1 => repeat (first | exact HR0.out | (with_reducible refine Kd.C_alloc ?_ _) | (with_reducible refine Kd.C_drewN ?_ _) | (with_reducible refine Kd.C_drew ?_))); (case side2 => exact HC0.out); (case side3 => exact Kd.C_nil _ _); (case side4 => exact Nat.le_refl _); rintro e w' ⟨rfl, ⟨nd, rfl⟩⟩; refine ⟨_, rfl, ?_⟩) | ((with_reducible refine gate_callee (f := 13) rfl ?_); refine goesL_ (some 10) rfl rfl Try.func13 (by kernel_rfl) rfl #[] rfl (by (try simp only [List.map_toArray, List.map_cons, List.map_nil]); first | done | rfl | (simp only [List.length_drop, List.length_take]; rfl)) ?_; (with_reducible refine (l01awake.calls k  t361 _ A15.out).mono ?_); rintro e w16 ⟨rfl, hb⟩; refine ⟨_, rfl, ?_⟩; have n0_ := Aside0.mk (below_step (by repeat (first | (with_reducible first | exact HB.out | apply below_alloc | apply pw_below_drewN | apply below_drew1) | exact HB.out)) hb); clear HB; have HB := n0_; clear n0_; (try clear hb); (try clear hb2); (try clear hk); (try clear hi)))
    go_ret
    exact ⟨by first | rfl | (simp [errW_none, errW_some] <;> rfl) | (simp [*, errW_none, errW_some] <;> rfl), by repeat (first | (with_reducible first | exact HB.out | apply below_alloc | apply pw_below_drewN | apply below_drew1) | exact HB.out)⟩
end Go.Proofs.Yteeedheklnelkaa.P

namespace Go.Proofs.Yteeedheklnelkaa.P
open Go.RowKit Go.Proofs.YteeedheklnelkaaW.PrintWords Go.Proofs.YteeedheklnelkaaW.PrintLast Go.Proofs.YteeedheklnelkaaW.PrintMore
theorem few_eq (a b : List S40) : l01few.f a b = some (decide (a.length ≤ 20 ∧ b.length ≤ 20)) := by
  unfold l01few.f
  by_cases h : (a.length : Int) ≤ 20
  · rw [if_pos h]
    congr 1
    rw [decide_eq_decide]; omega
  · rw [if_neg h, decide_eq_false (by omega)]
theorem rd_mem (l : List S40) {i : Nat} (hi : i < l.length) : rd_T40 l (i : Int) ∈ l := List.mem_of_mem_drop (i := i) (by rw [drop_cons l hi]; exact List.mem_cons_self)
theorem within_eq (e : S40) (h : R64 e) (size : Int) (h0 : 0 ≤ size) (h1 : size ≤ 4096) (hc : 0 < e.f1) : r01within.f e.f0 e.f1 size = some (decide (¬ (e.f0 < 0 ∨ e.f1 > size - e.f0))) := by
  obtain ⟨r1, r2, r3, r4⟩ := h
  unfold r01within.f
  by_cases c1 : e.f0 ≥ 0
  · rw [if_pos c1]
    by_cases c2 : e.f1 ≤ size
    · rw [if_pos c2, w64 _ (by omega) (by omega)]
      congr 1
      rw [decide_eq_decide]; omega
    · rw [if_neg c2, decide_eq_false (by omega)]
  · rw [if_neg c1, decide_eq_false (by omega)]
def normE : List S40 → Int
  | [] => 0
  | e :: l => if e.f1 < 0 then 1 else if e.f1 > 0 ∧ (e.f0 < 0 ∨ e.f1 > 4096 - e.f0) then 2 else normE l
def tailE (l0 : List S40) (l : List S40) : List S40 × Int := if normE l = 0 then (canon fun j => inL l0 j, 0) else ([], normE l)
theorem tailE_step (l0 : List S40) (e : S40) (l : List S40) : tailE l0 (e :: l) = if e.f1 < 0 then ([], 1) else if e.f1 > 0 ∧ (e.f0 < 0 ∨ e.f1 > 4096 - e.f0) then ([], 2) else tailE l0 l := by
  unfold tailE
  rw [normE]
  by_cases c1 : e.f1 < 0
  · rw [if_pos c1, if_pos c1, if_neg (by decide)]
  · rw [if_neg c1, if_neg c1]
    by_cases c2 : e.f1 > 0 ∧ (e.f0 < 0 ∨ e.f1 > 4096 - e.f0)
    · rw [if_pos c2, if_pos c2, if_neg (by decide)]
    · rw [if_neg c2, if_neg c2]
theorem xnorm_loop (l : List S40) (hl : l.length ≤ 50000) (hr : ∀ e ∈ l, R64 e) : ∀ (n k i : Nat), i + n = l.length → n < k →
    xNormalize.l0 k l l l.length i = some (tailE l (l.drop i)) := by
  intro n
  induction n with
  | zero =>
    intro k i hi hk
    obtain ⟨k, rfl⟩ : ∃ m, k = m + 1 := ⟨k - 1, by omega⟩
    rw [xNormalize.l0, if_neg (by omega), List.drop_eq_nil_of_le (by omega), union_nil l (by omega)]; rfl
  | succ n ih =>
    intro k i hi hk
    obtain ⟨k, rfl⟩ : ∃ m, k = m + 1 := ⟨k - 1, by omega⟩
    obtain ⟨r1, r2, r3, r4⟩ := hr _ (rd_mem l (i := i) (by omega))
    rw [xNormalize.l0, if_pos (by omega), if_pos (by omega), if_pos (by omega), drop_cons l (by omega), tailE_step, wsucc i (by omega), ih k (i + 1) (by omega) (by omega)]
    generalize rd_T40 l (i : Int) = e at r1 r2 r3 r4 ⊢
    by_cases c1 : e.f1 < 0
    · rw [if_pos c1, if_pos c1]
    · rw [if_neg c1, if_neg c1]
      by_cases c2 : e.f1 > 0
      · rw [if_pos c2]
        by_cases c3 : e.f0 < 0
        · rw [if_pos c3, if_pos ⟨c2, .inl c3⟩]
        · rw [if_neg c3, w64 _ (by omega) (by omega)]
          by_cases c4 : e.f1 > 4096 - e.f0
          · rw [if_pos c4, if_pos ⟨c2, .inr c4⟩]
          · rw [if_neg c4, if_neg (by omega)]
      · rw [if_neg c2, if_neg (by omega)]
theorem rnorm_loop (l : List S40) (hl : l.length ≤ 5000) (hr : ∀ e ∈ l, R64 e) : ∀ (n k i : Nat), i + n = l.length → n + 20000 < k →
    r01Normalize.l0 k l i = some (tailE l (l.drop i)) := by
  intro n
  induction n with
  | zero =>
    intro k i hi hk
    obtain ⟨k, rfl⟩ : ∃ m, k = m + 1 := ⟨k - 1, by omega⟩
    rw [r01Normalize.l0, if_neg (by omega), List.drop_eq_nil_of_le (by omega), marks_eq l hl hr (by omega), Option.bind_some, list_marks _ (by omega)]; rfl
  | succ n ih =>
    intro k i hi hk
    obtain ⟨k, rfl⟩ : ∃ m, k = m + 1 := ⟨k - 1, by omega⟩
    have hre := hr _ (rd_mem l (i := i) (by omega))
    rw [r01Normalize.l0, if_pos (by omega), if_pos (by omega), drop_cons l (by omega), tailE_step, wsucc i (by omega), ih k (i + 1) (by omega) (by omega)]
    generalize rd_T40 l (i : Int) = e at hre ⊢
    by_cases c1 : e.f1 < 0
    · rw [if_pos c1, if_pos c1]
    · rw [if_neg c1, if_neg c1]
      by_cases c2 : e.f1 > 0
      · rw [if_pos c2, within_eq e hre 4096 (by omega) (by omega) c2, Option.bind_some]
        by_cases c3 : e.f0 < 0 ∨ e.f1 > 4096 - e.f0
        · rw [decide_eq_false (by omega), if_neg (by decide), if_pos ⟨c2, c3⟩]
        · rw [decide_eq_true c3, if_pos rfl, if_neg (by omega)]
      · rw [if_neg c2, if_neg (by omega)]
theorem xnorm_eq (l : List S40) (hl : l.length ≤ 10000) (hr : ∀ e ∈ l, R64 e) {k : Nat} (hk : 20000 ≤ k) : xNormalize.f k l = some (tailE l l) := by
  unfold xNormalize.f
  exact xnorm_loop l (by omega) hr l.length k 0 (by omega) (by omega)
theorem rnorm_eq (l : List S40) (hl : l.length ≤ 5000) (hr : ∀ e ∈ l, R64 e) {k : Nat} (hk : 30000 ≤ k) : r01Normalize.f k l = some (tailE l l) := by
  unfold r01Normalize.f
  exact rnorm_loop l hl hr l.length k 0 (by omega) (by omega)
theorem tailE_length (l m : List S40) : (tailE l m).1.length ≤ 5000 := by
  unfold tailE
  split
  · exact canon_length _
  · simp
theorem normalizes_true (l : List S40) (hr : ∀ e ∈ l, R64 e) {k : Nat} (hk : 40000 ≤ k) : l01ExtentNormalizes.f k l = some true := by
  unfold l01ExtentNormalizes.f
  rw [few_eq, Option.bind_some]
  by_cases h : l.length ≤ 20 ∧ ([] : List S40).length ≤ 20
  · have hlen := tailE_length l l
    rw [decide_eq_true h, if_pos rfl, xnorm_eq l (by omega) hr (by omega), Option.bind_some, rnorm_eq l (by omega) hr (by omega), Option.bind_some, same_eq _ (by omega) (by omega), Option.bind_some, if_pos rfl, if_pos rfl, awake_eq (by omega)]; rfl
  · rw [decide_eq_false h, if_neg (by decide), awake_eq (by omega)]; rfl
end Go.Proofs.Yteeedheklnelkaa.P
