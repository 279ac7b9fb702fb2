/-
  Parts of the proof of the law IntentMakes (part 6): what the functions it reaches come to, and the plain law. Conditions: those that each theorem names.
-/
import Derived.Test.YtnjbdcnefienhaaDoorCIntentMakes5
namespace Go.Proofs.YtnjbdcnefienhaaDoor.P
open Go.RowKit Go.Proofs.YtnjbdcnefienhaaDoorW.PrintWords Go.Proofs.YtnjbdcnefienhaaDoorW.PrintLast Go.Proofs.YtnjbdcnefienhaaDoorW.PrintMore
attribute [local go_sem] max2_int min2_int max_two min_two max_three min_three max_four min_four   -- for this text's walks alone
set_option linter.unusedVariables false
set_option linter.unusedSimpArgs false
def r02bit.f (a0_0 : Int) (l0_1 : List Int) (a1 : Int) : Option (Bool) := if 0 ≤ (wrap64 (Int.tdiv a1 64)) then (if (wrap64 (Int.tdiv a1 64)) < (l0_1.length : Int) then (if 0 ≤ (IntKind.u64.wrap (Int.tmod a1 64)) then (some ((Go.bits .and .u64 (shr .u64 (rd l0_1 (wrap64 (Int.tdiv a1 64))) (IntKind.u64.wrap (Int.tmod a1 64))) 1) == 1)) else (none)) else (none)) else (none)
set_option maxHeartbeats 8000000 in
set_option maxRecDepth 100000 in
theorem r02bit.calls (a0_0 : Int) (A0_1 : Option Addr) (c0_1 : Nat) (l0_1 : List Int) (a1 : Int) (r : Bool) (w : World) (hr0_1 : Kd.C (Kd.int .u64) w A0_1 l0_1.length l0_1) (hc0_1 : l0_1.length ≤ c0_1) (h : r02bit.f a0_0 l0_1 a1 = some r) :
  Calls Tryd.prog 52 #[.agg #[.int .i64 a0_0, .slice A0_1 l0_1.length c0_1], .int .i64 a1] w fun e w' => e = .returned (.bool r) ∧ Below w.heap.size w w' := by
 have hu26 := Tryd.underlying26
 have HR0_1 := A0_ hr0_1
 have HC0_1 := A0_ hc0_1
 clear hr0_1 hc0_1
 have HB := A0_ (Below.refl w.heap.size w)
 have H : (if 0 ≤ (wrap64 (Int.tdiv a1 64)) then (if (wrap64 (Int.tdiv a1 64)) < (l0_1.length : Int) then (if 0 ≤ (IntKind.u64.wrap (Int.tmod a1 64)) then (some ((Go.bits .and .u64 (shr .u64 (rd l0_1 (wrap64 (Int.tdiv a1 64))) (IntKind.u64.wrap (Int.tmod a1 64))) 1) == 1)) else (none)) else (none)) else (none)) = some r := h
 clear h
 obtain ⟨ji3, hji3⟩ : ∃ j_ : Int, (wrap64 (Int.tdiv a1 64)) = j_ := ⟨_, rfl⟩
 replace H : (if 0 ≤ (ji3) then (if (ji3) < (l0_1.length : Int) then (if 0 ≤ (IntKind.u64.wrap (Int.tmod a1 64)) then (some ((Go.bits .and .u64 (shr .u64 (rd l0_1 (ji3)) (IntKind.u64.wrap (Int.tmod a1 64))) 1) == 1)) else (none)) else (none)) else (none)) = some r := by first | (rw [hji3] at H; exact H) | (simp only [hji3] at H ⊢; exact H)
 have hji3w : (IntKind.i64.wrap (Int.tdiv a1 64)) = ji3 := (i64_w _).trans hji3
 by_cases c4 : 0 ≤ (ji3)
 ·
  rw [if_pos c4] at H
  have c4b0 : decide (0 ≤ (ji3)) = true := decide_eq_true c4
  clear c4
  by_cases c5 : (ji3) < (l0_1.length : Int)
  ·
   rw [if_pos c5] at H
   have c5b0 : decide ((ji3) < (l0_1.length : Int)) = true := decide_eq_true c5
   clear c5
   obtain ⟨ji6, hji6⟩ : ∃ j_ : Int, (IntKind.u64.wrap (Int.tmod a1 64)) = j_ := ⟨_, rfl⟩
   replace H : (if 0 ≤ (ji6) then (some ((Go.bits .and .u64 (shr .u64 (rd l0_1 (ji3)) (ji6)) 1) == 1)) else (none)) = some r := by first | (rw [hji6] at H; exact H) | (simp only [hji6] at H ⊢; exact H)
   by_cases c7 : 0 ≤ (ji6)
   ·
    rw [if_pos c7] at H
    have c7b0 := eq_true c7
    have c7b1 : decide (0 ≤ (ji6)) = true := decide_eq_true c7
    clear c7
    obtain ⟨ji8, hji8⟩ : ∃ j_ : Int, (shr .u64 (rd l0_1 (ji3)) (ji6)) = j_ := ⟨_, rfl⟩
    replace H : (some ((Go.bits .and .u64 (ji8) 1) == 1)) = some r := by first | (rw [hji8] at H; exact H) | (simp only [hji8] at H ⊢; exact H)
    have hji8_ : ((rd l0_1 (ji3)) / 2 ^ min (ji6).toNat 64) = ji8 := hji8
    have hji8z : (ji6) ≤ 64 → ((rd l0_1 (ji3)) / 2 ^ (ji6).toNat) = ji8 := shr_small hji8
    obtain rfl := Option.some.inj H
    go_enter Tryd.func52, Tryd.ntmps52
    go_wp2_with (first | ((with_reducible refine gate_dst (N := 2) rfl ?_); refine box_event ?hg (N := 2) ?hd (cs := #[.int .i64 a0_0, .slice A0_1 l0_1.length c0_1]) (t := 26) ?hr ?_; (case hd => rfl); (case hg => rfl); (case hr => first | (go_simp; done) | (go_simp; rfl)); intro gb186 hg w9 hbox hb; have n0_ := A0_ (below_step (by repeat (first | (with_reducible first | exact HB.out | apply Al_ | apply Dn_ | apply D1_) | exact HB.out)) hb); have n1_ := A0_ (hbox); have n2_ := A0_ ((by rw [hg]; exact (below_size (by repeat (first | (with_reducible first | exact HB.out | apply Al_ | apply Dn_ | apply D1_) | exact HB.out))) : w.heap.size ≤ gb186)); have n3_ := A0_ ((by rw [hg]; exact (below_size (by repeat (first | (with_reducible first | exact HB.out | apply Al_ | apply Dn_ | apply D1_) | exact HB.out))) : w.heap.size ≤ gb186)); clear HB; have HB := n0_; have BK186 := n1_; have GW186 := n2_; have GE186 := n3_; clear n0_ n1_ n2_ n3_ hb hbox hg; have hcz10_0 : w9.cell? ⟨gb186, 0, none⟩ = some (.int .i64 a0_0) := (Bc_ BK186.out 0).trans rfl; have hcz10_1 : w9.cell? ⟨gb186, 1, none⟩ = some (.slice A0_1 l0_1.length c0_1) := (Bc_ BK186.out 1).trans rfl; have hfz10_0 := Bf_ BK186.out 0; have hfz10_1 := Bf_ BK186.out 1; have p187 : 0 ≤ ((ji3) : Int) := of_decide_eq_true (by first | (with_reducible assumption) | assumption); have q187 : (ji3) < (l0_1.length : Int) := of_decide_eq_true (by first | (with_reducible assumption) | assumption); obtain ⟨ad187, e187, hx187_0⟩ := Kd.at_int HR0_1.out (ji3) p187 q187; cases e187; replace hx187_0 := (HB.out.cell (World.block_lt_of_cell? w _ hx187_0)).trans hx187_0; replace p187 := eq_true p187; replace q187 := eq_true q187))
    go_ret
    exact ⟨by first | rfl | (simp [errW_none, errW_some] <;> rfl) | (simp only [← hji3, ← hji6, ← hji8]; first | rfl | (simp [errW_none, errW_some] <;> rfl)) | (simp [*, errW_none, errW_some] <;> rfl), by repeat (first | (with_reducible first | exact HB.out | apply Al_ | apply Dn_ | apply D1_ | refine Bs_ ?_ GE186.out) | exact HB.out)⟩
   ·
    rw [if_neg c7] at H
    exact absurd H (by simp)
  ·
   rw [if_neg c5] at H
   exact absurd H (by simp)
 ·
  rw [if_neg c4] at H
  exact absurd H (by simp)
mutual
def r02Check.j0 : Nat → Bool → Int → List Int → Option (Int)
 | 0, _, _, _ => none
 | k + 1, x21, x189000, x189001 => if x21 = true then (some 3) else (r02Check.l0 k x189000 x189000 x189001)
def r02Check.l0 : Nat → Int → Int → List Int → Option (Int)
 | 0, _, _, _ => none
 | k + 1, x3, x189000, x189001 => if x3 < (wrap64 (64 * (x189001.length : Int))) then ((r02bit.f x189000 x189001 x3).bind fun t189 => (if t189 = true then (some 3) else (r02Check.l0 k (wrap64 (x3 + 1)) x189000 x189001))) else (some 0)
end
def r02Check.f (k : Nat) (a0_0 : Int) (l0_1 : List Int) : Option (Int) := if a0_0 < 0 then (r02Check.j0 k true a0_0 l0_1) else (if a0_0 > 4096 then (r02Check.j0 k true a0_0 l0_1) else (r02Check.j0 k ((l0_1.length : Int) != (wrap64 (Int.tdiv (wrap64 (a0_0 + 63)) 64))) a0_0 l0_1))
set_option maxHeartbeats 8000000 in
set_option maxRecDepth 100000 in
theorem r02Check.calls (k : Nat) (a0_0 : Int) (A0_1 : Option Addr) (c0_1 : Nat) (l0_1 : List Int) (r : Int) (w : World) (hr0_1 : Kd.C (Kd.int .u64) w A0_1 l0_1.length l0_1) (hc0_1 : l0_1.length ≤ c0_1) (h : r02Check.f k a0_0 l0_1 = some r) :
  Calls Tryd.prog 51 #[.agg #[.int .i64 a0_0, .slice A0_1 l0_1.length c0_1]] w fun e w' => e = .returned (.int .i64 r) ∧ Below w.heap.size w w' := by
 have hu26 := Tryd.underlying26
 have HR0_1 := A0_ hr0_1
 have HC0_1 := A0_ hc0_1
 clear hr0_1 hc0_1
 have HB := A0_ (Below.refl w.heap.size w)
 have H : (if a0_0 < 0 then (r02Check.j0 k true a0_0 l0_1) else (if a0_0 > 4096 then (r02Check.j0 k true a0_0 l0_1) else (r02Check.j0 k ((l0_1.length : Int) != (wrap64 (Int.tdiv (wrap64 (a0_0 + 63)) 64))) a0_0 l0_1))) = some r := h
 clear h
 have HC2 := A0_ H
 clear H
 go_enter Tryd.func51, Tryd.ntmps51
 go_upto_region 1 with (first | ((with_reducible refine gate_dst (N := 1) rfl ?_); (try (refine gate_guard (by rfl) ?_; dsimp only)); refine box_event ?hg (N := 1) ?hd (cs := #[.int .i64 a0_0, .slice A0_1 l0_1.length c0_1]) (t := 26) ?hr ?_; (case hd => rfl); (case hg => rfl); (case hr => first | (go_simp; done) | (go_simp; rfl)); intro gb188 hg w3 hbox hb; have n0_ := A0_ (below_step (by repeat (first | (with_reducible first | exact HB.out | apply Al_ | apply Dn_ | apply D1_) | exact HB.out)) hb); have n1_ := A0_ (hbox); have n2_ := A0_ ((by rw [hg]; exact (below_size (by repeat (first | (with_reducible first | exact HB.out | apply Al_ | apply Dn_ | apply D1_) | exact HB.out))) : w.heap.size ≤ gb188)); have n3_ := A0_ ((by rw [hg]; exact (below_size (by repeat (first | (with_reducible first | exact HB.out | apply Al_ | apply Dn_ | apply D1_) | exact HB.out))) : w.heap.size ≤ gb188)); clear HB; have HB := n0_; have BK188 := n1_; have GW188 := n2_; have GE188 := n3_; clear n0_ n1_ n2_ n3_ hb hbox hg))
 (try simp only [Act.put, Sa_, Sz_, Ss_])
 go_cut [21] (fun v21 wc => ∃ (kq : Nat) (x21_1 : Bool), v21 = .bool x21_1 ∧ Aside0 (r02Check.j0 kq x21_1 a0_0 l0_1 = some r) ∧ Aside0 (kq ≤ k) ∧ Aside0 (wc.heap[gb188]? = some (.cells #[.int .i64 a0_0, (.slice A0_1 l0_1.length c0_1)] 26 (0, 0))) ∧ Aside0 (Below w.heap.size w wc))
 case first =>
  have H := HC2.out
  clear HC2
  by_cases c4 : a0_0 < 0
  ·
   rw [if_pos c4] at H
   have c4b0 : decide (a0_0 < 0) = true := decide_eq_true c4
   clear c4
   (first | rw [c4b0] | (simp only [i64_w, i32_w]; rw [c4b0]) | skip)
   have H' := A0_ H
   clear H
   have hcz5_0 : w3.cell? ⟨gb188, 0, none⟩ = some (.int .i64 a0_0) := (Bc_ BK188.out 0).trans rfl
   have hcz5_1 : w3.cell? ⟨gb188, 1, none⟩ = some (.slice A0_1 l0_1.length c0_1) := (Bc_ BK188.out 1).trans rfl
   have hfz5_0 := Bf_ BK188.out 0
   have hfz5_1 := Bf_ BK188.out 1
   go_wp2
   go_meet
   case rel => exact ⟨_, (true), (by first | rfl | (simp; done) | (simp [*]; done)), H', ⟨by first | omega | exact Nat.le_refl _⟩, ⟨by (with_reducible repeat (first | refine Bn_ ?_ _ | refine Bd_ ?_ | refine Ba_ ?_ _)); exact BK188.out⟩, ⟨by repeat (first | (with_reducible first | exact HB.out | apply Al_ | apply Dn_ | apply D1_ | refine Bs_ ?_ GE188.out) | exact HB.out)⟩⟩
  ·
   rw [if_neg c4] at H
   have c4b0 : decide (a0_0 < 0) = false := decide_eq_false c4
   clear c4
   (first | rw [c4b0] | (simp only [i64_w, i32_w]; rw [c4b0]) | skip)
   by_cases c6 : a0_0 > 4096
   ·
    rw [if_pos c6] at H
    have c6b0 : decide (4096 < a0_0) = true := decide_eq_true c6
    clear c6
    have H' := A0_ H
    clear H
    have hcz7_0 : w3.cell? ⟨gb188, 0, none⟩ = some (.int .i64 a0_0) := (Bc_ BK188.out 0).trans rfl
    have hcz7_1 : w3.cell? ⟨gb188, 1, none⟩ = some (.slice A0_1 l0_1.length c0_1) := (Bc_ BK188.out 1).trans rfl
    have hfz7_0 := Bf_ BK188.out 0
    have hfz7_1 := Bf_ BK188.out 1
    go_wp2
    go_meet
    case rel => exact ⟨_, (true), (by first | rfl | (simp; done) | (simp [*]; done)), H', ⟨by first | omega | exact Nat.le_refl _⟩, ⟨by (with_reducible repeat (first | refine Bn_ ?_ _ | refine Bd_ ?_ | refine Ba_ ?_ _)); exact BK188.out⟩, ⟨by repeat (first | (with_reducible first | exact HB.out | apply Al_ | apply Dn_ | apply D1_ | refine Bs_ ?_ GE188.out) | exact HB.out)⟩⟩
   ·
    rw [if_neg c6] at H
    have c6b0 : decide (4096 < a0_0) = false := decide_eq_false c6
    clear c6
    have H' := A0_ H
    clear H
    have hcz8_0 : w3.cell? ⟨gb188, 0, none⟩ = some (.int .i64 a0_0) := (Bc_ BK188.out 0).trans rfl
    have hcz8_1 : w3.cell? ⟨gb188, 1, none⟩ = some (.slice A0_1 l0_1.length c0_1) := (Bc_ BK188.out 1).trans rfl
    have hfz8_0 := Bf_ BK188.out 0
    have hfz8_1 := Bf_ BK188.out 1
    go_wp2
    go_meet
    case rel => exact ⟨_, (((l0_1.length : Int) != (wrap64 (Int.tdiv (wrap64 (a0_0 + 63)) 64)))), (by first | rfl | (simp; done) | (simp [*]; done)), H', ⟨by first | omega | exact Nat.le_refl _⟩, ⟨by (with_reducible repeat (first | refine Bn_ ?_ _ | refine Bd_ ?_ | refine Ba_ ?_ _)); exact BK188.out⟩, ⟨by repeat (first | (with_reducible first | exact HB.out | apply Al_ | apply Dn_ | apply D1_ | refine Bs_ ?_ GE188.out) | exact HB.out)⟩⟩
 case rest =>
  clear HC2
  try clear p2
  try clear c4
  try clear c4b0
  try clear c5
  try clear c6
  try clear c6b0
  try clear p6
  try clear hcz5_0
  try clear hcz5_1
  try clear hcz7_0
  try clear hcz7_1
  try clear hcz8_0
  try clear hcz8_1
  try clear hfz5_0
  try clear hfz5_1
  try clear hfz7_0
  try clear hfz7_1
  try clear hfz8_0
  try clear hfz8_1
  obtain ⟨kq, x21_1, rfl, HA, HJ1, BK188, HB⟩ := hcut
  cases kq with
  | zero => exact absurd HA.out (by simp [r02Check.j0])
  | succ kj1 =>
   have H := HA.out
   clear HA
   simp only [r02Check.j0] at H
   by_cases c9 : x21_1 = true
   ·
    subst c9
    have H1 : (some 3) = some r := by rw [if_pos rfl] at H; exact H
    clear H
    have H := H1
    clear H1
    obtain rfl := Option.some.inj H
    go_wp2
    go_ret
    exact ⟨by first | rfl | (simp [errW_none, errW_some] <;> rfl) | (simp [*, errW_none, errW_some] <;> rfl), by repeat (first | (with_reducible first | exact HB.out | apply Al_ | apply Dn_ | apply D1_ | refine Bs_ ?_ GE188.out) | exact HB.out)⟩
   ·
    replace c9 := Bool.eq_false_iff.mpr c9
    subst c9
    have H1 : (r02Check.l0 kj1 a0_0 a0_0 l0_1) = some r := by rw [if_neg (show ¬ (false = true) by decide)] at H; exact H
    clear H
    have H := H1
    clear H1
    have H' := A0_ H
    clear H
    have hcz10_0 : wc.cell? ⟨gb188, 0, none⟩ = some (.int .i64 a0_0) := (Bc_ BK188.out 0).trans rfl
    have hcz10_1 : wc.cell? ⟨gb188, 1, none⟩ = some (.slice A0_1 l0_1.length c0_1) := (Bc_ BK188.out 1).trans rfl
    have hfz10_0 := Bf_ BK188.out 0
    have hfz10_1 := Bf_ BK188.out 1
    go_wp2
    go_loopg [3] kj1 (fun kq v3 w' => ∃ (x3_2 : Int), v3 = .int .i64 x3_2 ∧ Aside0 (r02Check.l0 kq x3_2 a0_0 l0_1 = some r) ∧ Aside0 (kq ≤ kj1) ∧ Aside0 (w'.heap[gb188]? = some (.cells #[.int .i64 a0_0, (.slice A0_1 l0_1.length c0_1)] 26 (0, 0))) ∧ Aside0 (Below w.heap.size w w'))
    case atStart => exact ⟨(a0_0), (by first | rfl | (simp; done) | (simp [*]; done)), H', ⟨Nat.le_refl _⟩, ⟨by (with_reducible repeat (first | refine Bn_ ?_ _ | refine Bd_ ?_ | refine Ba_ ?_ _)); exact BK188.out⟩, ⟨by repeat (first | (with_reducible first | exact HB.out | apply Al_ | apply Dn_ | apply D1_ | refine Bs_ ?_ GE188.out) | exact HB.out)⟩⟩
    case round =>
     clear H'
     try clear p2
     try clear c4
     try clear c4b0
     try clear c5
     try clear c6
     try clear c6b0
     try clear p6
     try clear c9
     try clear hcz10_0
     try clear hcz10_1
     try clear hcz5_0
     try clear hcz5_1
     try clear hcz7_0
     try clear hcz7_1
     try clear hcz8_0
     try clear hcz8_1
     try clear hfz10_0
     try clear hfz10_1
     try clear hfz5_0
     try clear hfz5_1
     try clear hfz7_0
     try clear hfz7_1
     try clear hfz8_0
     try clear hfz8_1
     try clear p2
     try clear p6
     try clear BK188
     obtain ⟨x3_2, rfl, HA, HK2, BK188, HB⟩ := hrel
     cases gk with
     | zero => exact absurd HA.out (by simp [r02Check.l0])
     | succ k2 =>
      have H := HA.out
      clear HA
      simp only [r02Check.l0] at H
      by_cases c11 : x3_2 < (wrap64 (64 * (l0_1.length : Int)))
      ·
       rw [if_pos c11] at H
       have c11b0 : decide (x3_2 < (wrap64 (64 * (l0_1.length : Int)))) = true := decide_eq_true c11
       clear c11
       replace H := Option.bind_eq_some_iff.mp H
       obtain ⟨t189, A120, H⟩ := H
       replace H : (if t189 = true then (some 3) else (r02Check.l0 k2 (wrap64 (x3_2 + 1)) a0_0 l0_1)) = some r := H
       have A12 := A0_ A120
       clear A120
       by_cases c13 : t189 = true
       ·
        subst c13
        have H1 : (some 3) = some r := by rw [if_pos rfl] at H; exact H
        clear H
        have H := H1
        clear H1
        obtain rfl := Option.some.inj H
        have hcz14_0 : wr.cell? ⟨gb188, 0, none⟩ = some (.int .i64 a0_0) := (Bc_ BK188.out 0).trans rfl
        have hcz14_1 : wr.cell? ⟨gb188, 1, none⟩ = some (.slice A0_1 l0_1.length c0_1) := (Bc_ BK188.out 1).trans rfl
        have hfz14_0 := Bf_ BK188.out 0
        have hfz14_1 := Bf_ BK188.out 1
        go_wp2_with (first | ((with_reducible refine gate_callee (f := 52) rfl ?_); refine goesL_ (some 34) rfl rfl Tryd.func52 (by kernel_rfl) rfl #[.agg #[.int .i64 a0_0, .slice A0_1 l0_1.length c0_1], .int .i64 x3_2] rfl (by (try simp only [List.map_toArray, List.map_cons, List.map_nil]); first | done | rfl | (simp only [List.length_drop, List.length_take]; rfl)) ?_; (with_reducible refine (r02bit.calls a0_0 _ _ l0_1 x3_2 true _ ?side1 ?side2 A12.out).mono ?_); (case side1 => repeat (first | exact (Kd.C_below HR0_1.out HB.out) | (with_reducible first | refine Kd.C_alloc ?_ _ | refine Kd.C_drewN ?_ _ | refine Kd.C_drew ?_))); (case side2 => exact HC0_1.out); rintro e w15 ⟨rfl, hb⟩; refine ⟨_, rfl, ?_⟩; have n0_ := A0_ (blk_below (g := gb188) (o := .cells #[.int .i64 a0_0, .slice A0_1 l0_1.length c0_1] 26 (0, 0)) (by (with_reducible repeat (first | refine Bn_ ?_ _ | refine Bd_ ?_ | refine Ba_ ?_ _)); exact BK188.out) hb); have n1_ := A0_ (below_step (by repeat (first | (with_reducible first | exact HB.out | apply Al_ | apply Dn_ | apply D1_ | refine Bs_ ?_ GE188.out) | exact HB.out)) hb); clear BK188 HB; have BK188 := n0_; have HB := n1_; clear n0_ n1_; (try clear hb); (try clear hb2); (try clear hk); (try clear hi)))
        go_ret
        exact ⟨by first | rfl | (simp [errW_none, errW_some] <;> rfl) | (simp [*, errW_none, errW_some] <;> rfl), by repeat (first | (with_reducible first | exact HB.out | apply Al_ | apply Dn_ | apply D1_ | refine Bs_ ?_ GE188.out) | exact HB.out)⟩
       ·
        replace c13 := Bool.eq_false_iff.mpr c13
        subst c13
        have H1 : (r02Check.l0 k2 (wrap64 (x3_2 + 1)) a0_0 l0_1) = some r := by rw [if_neg (show ¬ (false = true) by decide)] at H; exact H
        clear H
        have H := H1
        clear H1
        have H' := A0_ H
        clear H
        have hcz16_0 : wr.cell? ⟨gb188, 0, none⟩ = some (.int .i64 a0_0) := (Bc_ BK188.out 0).trans rfl
        have hcz16_1 : wr.cell? ⟨gb188, 1, none⟩ = some (.slice A0_1 l0_1.length c0_1) := (Bc_ BK188.out 1).trans rfl
        have hfz16_0 := Bf_ BK188.out 0
        have hfz16_1 := Bf_ BK188.out 1
        go_wp2_with (first | ((with_reducible refine gate_callee (f := 52) rfl ?_); refine goesL_ (some 34) rfl rfl Tryd.func52 (by kernel_rfl) rfl #[.agg #[.int .i64 a0_0, .slice A0_1 l0_1.length c0_1], .int .i64 x3_2] rfl (by (try simp only [List.map_toArray, List.map_cons, List.map_nil]); first | done | rfl | (simp only [List.length_drop, List.length_take]; rfl)) ?_; (with_reducible refine (r02bit.calls a0_0 _ _ l0_1 x3_2 false _ ?side1 ?side2 A12.out).mono ?_); (case side1 => repeat (first | exact (Kd.C_below HR0_1.out HB.out) | (with_reducible first | refine Kd.C_alloc ?_ _ | refine Kd.C_drewN ?_ _ | refine Kd.C_drew ?_))); (case side2 => exact HC0_1.out); rintro e w17 ⟨rfl, hb⟩; refine ⟨_, rfl, ?_⟩; have n0_ := A0_ (blk_below (g := gb188) (o := .cells #[.int .i64 a0_0, .slice A0_1 l0_1.length c0_1] 26 (0, 0)) (by (with_reducible repeat (first | refine Bn_ ?_ _ | refine Bd_ ?_ | refine Ba_ ?_ _)); exact BK188.out) hb); have n1_ := A0_ (below_step (by repeat (first | (with_reducible first | exact HB.out | apply Al_ | apply Dn_ | apply D1_ | refine Bs_ ?_ GE188.out) | exact HB.out)) hb); clear BK188 HB; have BK188 := n0_; have HB := n1_; clear n0_ n1_; (try clear hb); (try clear hb2); (try clear hk); (try clear hi)))
        go_roundg k2
        case measure => have := HJ1.out; have := HK2.out; omega
        case rel => exact ⟨(wrap64 (x3_2 + 1)), (by first | rfl | (simp; done) | (simp [*]; done)), H', ⟨by have := HJ1.out; have := HK2.out; omega⟩, ⟨by (with_reducible repeat (first | refine Bn_ ?_ _ | refine Bd_ ?_ | refine Ba_ ?_ _)); exact BK188.out⟩, ⟨by repeat (first | (with_reducible first | exact HB.out | apply Al_ | apply Dn_ | apply D1_ | refine Bs_ ?_ GE188.out) | exact HB.out)⟩⟩
      ·
       rw [if_neg c11] at H
       have c11b0 : decide (x3_2 < (wrap64 (64 * (l0_1.length : Int)))) = false := decide_eq_false c11
       clear c11
       obtain rfl := Option.some.inj H
       have hcz18_0 : wr.cell? ⟨gb188, 0, none⟩ = some (.int .i64 a0_0) := (Bc_ BK188.out 0).trans rfl
       have hcz18_1 : wr.cell? ⟨gb188, 1, none⟩ = some (.slice A0_1 l0_1.length c0_1) := (Bc_ BK188.out 1).trans rfl
       have hfz18_0 := Bf_ BK188.out 0
       have hfz18_1 := Bf_ BK188.out 1
       go_wp2
       go_ret
       exact ⟨by first | rfl | (simp [errW_none, errW_some] <;> rfl) | (simp [*, errW_none, errW_some] <;> rfl), by repeat (first | (with_reducible first | exact HB.out | apply Al_ | apply Dn_ | apply D1_ | refine Bs_ ?_ GE188.out) | exact HB.out)⟩
def r02Extents.l0 : Nat → List (S49) → Int → Int → List Int → Option ((List (S49)))
 | 0, _, _, _, _ => none
 | k + 1, x3, x4, x191000, x191001 => if x4 < x191000 then ((r02bit.f x191000 x191001 x4).bind fun t192 => (if t192 = true then (if (x3.length : Int) > 0 then (if 0 ≤ (wrap64 ((x3.length : Int) - 1)) then (if (wrap64 ((x3.length : Int) - 1)) < (x3.length : Int) then (if (wrap64 (((rd_T49 x3 (wrap64 ((x3.length : Int) - 1))).f0) + ((rd_T49 x3 (wrap64 ((x3.length : Int) - 1))).f1))) = x4 then (r02Extents.l0 k (x3.set ((wrap64 ((x3.length : Int) - 1)) : Int).toNat (⟨(rd_T49 x3 (wrap64 ((x3.length : Int) - 1))).f0, wrap64 (((rd_T49 x3 (wrap64 ((x3.length : Int) - 1))).f1) + 1)⟩ : S49)) (wrap64 (x4 + 1)) x191000 x191001) else (if x3.length < 8796093022208 then (r02Extents.l0 k (x3 ++ [(⟨x4, 1⟩ : S49)]) (wrap64 (x4 + 1)) x191000 x191001) else (none))) else (none)) else (none)) else (if x3.length < 8796093022208 then (r02Extents.l0 k (x3 ++ [(⟨x4, 1⟩ : S49)]) (wrap64 (x4 + 1)) x191000 x191001) else (none))) else (r02Extents.l0 k x3 (wrap64 (x4 + 1)) x191000 x191001))) else (some x3)
def r02Extents.f (k : Nat) (a0_0 : Int) (l0_1 : List Int) : Option ((List (S49))) := (r02Check.f k a0_0 l0_1).bind fun t191 => (if t191 = 0 then (r02Extents.l0 k ([] : List (S49)) 0 a0_0 l0_1) else (some ([] : List (S49))))
set_option maxHeartbeats 8000000 in
set_option maxRecDepth 100000 in
theorem r02Extents.calls (k : Nat) (a0_0 : Int) (A0_1 : Option Addr) (c0_1 : Nat) (l0_1 : List Int) (r : List (S49)) (w : World) (hr0_1 : Kd.C (Kd.int .u64) w A0_1 l0_1.length l0_1) (hc0_1 : l0_1.length ≤ c0_1) (h : r02Extents.f k a0_0 l0_1 = some r) :
  Calls Tryd.prog 26 #[.agg #[.int .i64 a0_0, .slice A0_1 l0_1.length c0_1]] w fun e w' => ∃ v0_ : Value, e = .returned (v0_) ∧ Kd.R k49 49 w' w.heap.size (fun _ => True) v0_ r ∧ Below w.heap.size w w' := by
 have hu26 := Tryd.underlying26
 have hu49 := Tryd.underlying49
 have HR0_1 := A0_ hr0_1
 have HC0_1 := A0_ hc0_1
 clear hr0_1 hc0_1
 have HB := A0_ (Below.refl w.heap.size w)
 have H : ((r02Check.f k a0_0 l0_1).bind fun t191 => (if t191 = 0 then (r02Extents.l0 k ([] : List (S49)) 0 a0_0 l0_1) else (some ([] : List (S49))))) = some r := h
 clear h
 replace H := Option.bind_eq_some_iff.mp H
 obtain ⟨t191, A20, H⟩ := H
 replace H : (if t191 = 0 then (r02Extents.l0 k ([] : List (S49)) 0 a0_0 l0_1) else (some ([] : List (S49)))) = some r := H
 have A2 := A0_ A20
 clear A20
 by_cases c3 : t191 = 0
 ·
  rw [if_pos c3] at H
  have c3b0 : (t191 == 0) = true := beq_iff_eq.mpr c3
  have c3b1 : (t191 != 0) = false := bne_eq_false_iff_eq.mpr c3
  clear c3
  have H' := A0_ H
  clear H
  go_enter Tryd.func26, Tryd.ntmps26
  go_wp2_with (first | ((with_reducible refine gate_dst (N := 1) rfl ?_); refine box_event ?hg (N := 1) ?hd (cs := #[.int .i64 a0_0, .slice A0_1 l0_1.length c0_1]) (t := 26) ?hr ?_; (case hd => rfl); (case hg => rfl); (case hr => first | (go_simp; done) | (go_simp; rfl)); intro gb190 hg w4 hbox hb; have n0_ := A0_ (below_step (by repeat (first | (with_reducible first | exact HB.out | apply Al_ | apply Dn_ | apply D1_) | exact HB.out)) hb); have n1_ := A0_ (hbox); have n2_ := A0_ ((by rw [hg]; exact (below_size (by repeat (first | (with_reducible first | exact HB.out | apply Al_ | apply Dn_ | apply D1_) | exact HB.out))) : w.heap.size ≤ gb190)); have n3_ := A0_ ((by rw [hg]; exact (below_size (by repeat (first | (with_reducible first | exact HB.out | apply Al_ | apply Dn_ | apply D1_) | exact HB.out))) : w.heap.size ≤ gb190)); clear HB; have HB := n0_; have BK190 := n1_; have GW190 := n2_; have GE190 := n3_; clear n0_ n1_ n2_ n3_ hb hbox hg; have hcz5_0 : w4.cell? ⟨gb190, 0, none⟩ = some (.int .i64 a0_0) := (Bc_ BK190.out 0).trans rfl; have hcz5_1 : w4.cell? ⟨gb190, 1, none⟩ = some (.slice A0_1 l0_1.length c0_1) := (Bc_ BK190.out 1).trans rfl; have hfz5_0 := Bf_ BK190.out 0; have hfz5_1 := Bf_ BK190.out 1) | (go_at_call 51; (with_reducible refine (r02Check.calls k a0_0 _ _ l0_1 t191 _ ?side1 ?side2 A2.out).mono ?_); (case side1 => repeat (first | exact (Kd.C_below HR0_1.out HB.out) | (with_reducible first | refine Kd.C_alloc ?_ _ | refine Kd.C_drewN ?_ _ | refine Kd.C_drew ?_))); (case side2 => exact HC0_1.out); rintro e w6 ⟨rfl, hb⟩; have n0_ := A0_ (blk_below (g := gb190) (o := .cells #[.int .i64 a0_0, .slice A0_1 l0_1.length c0_1] 26 (0, 0)) (by (with_reducible repeat (first | refine Bn_ ?_ _ | refine Bd_ ?_ | refine Ba_ ?_ _)); exact BK190.out) hb); have n1_ := A0_ (below_step (by repeat (first | (with_reducible first | exact HB.out | apply Al_ | apply Dn_ | apply D1_ | refine Bs_ ?_ GE190.out) | exact HB.out)) hb); clear BK190 HB; have BK190 := n0_; have HB := n1_; clear n0_ n1_; (try clear hb); (try clear hb2); (try clear hk); (try clear hi)))
  repeat (go_quiet (first | ((with_reducible refine gate_dst (N := 1) rfl ?_); refine box_event ?hg (N := 1) ?hd (cs := #[.int .i64 a0_0, .slice A0_1 l0_1.length c0_1]) (t := 26) ?hr ?_; (case hd => rfl); (case hg => rfl); (case hr => first | (go_simp; done) | (go_simp; rfl)); intro gb190 hg w4 hbox hb; have n0_ := A0_ (below_step (by repeat (first | (with_reducible first | exact HB.out | apply Al_ | apply Dn_ | apply D1_) | exact HB.out)) hb); have n1_ := A0_ (hbox); have n2_ := A0_ ((by rw [hg]; exact (below_size (by repeat (first | (with_reducible first | exact HB.out | apply Al_ | apply Dn_ | apply D1_) | exact HB.out))) : w.heap.size ≤ gb190)); have n3_ := A0_ ((by rw [hg]; exact (below_size (by repeat (first | (with_reducible first | exact HB.out | apply Al_ | apply Dn_ | apply D1_) | exact HB.out))) : w.heap.size ≤ gb190)); clear HB; have HB := n0_; have BK190 := n1_; have GW190 := n2_; have GE190 := n3_; clear n0_ n1_ n2_ n3_ hb hbox hg; have hcz5_0 : w4.cell? ⟨gb190, 0, none⟩ = some (.int .i64 a0_0) := (Bc_ BK190.out 0).trans rfl; have hcz5_1 : w4.cell? ⟨gb190, 1, none⟩ = some (.slice A0_1 l0_1.length c0_1) := (Bc_ BK190.out 1).trans rfl; have hfz5_0 := Bf_ BK190.out 0; have hfz5_1 := Bf_ BK190.out 1) | (go_at_call 51; (with_reducible refine (r02Check.calls k a0_0 _ _ l0_1 t191 _ ?side1 ?side2 A2.out).mono ?_); (case side1 => repeat (first | exact (Kd.C_below HR0_1.out HB.out) | (with_reducible first | refine Kd.C_alloc ?_ _ | refine Kd.C_drewN ?_ _ | refine Kd.C_drew ?_))); (case side2 => exact HC0_1.out); rintro e w6 ⟨rfl, hb⟩; have n0_ := A0_ (blk_below (g := gb190) (o := .cells #[.int .i64 a0_0, .slice A0_1 l0_1.length c0_1] 26 (0, 0)) (by (with_reducible repeat (first | refine Bn_ ?_ _ | refine Bd_ ?_ | refine Ba_ ?_ _)); exact BK190.out) hb); have n1_ := A0_ (below_step (by repeat (first | (with_reducible first | exact HB.out | apply Al_ | apply Dn_ | apply D1_ | refine Bs_ ?_ GE190.out) | exact HB.out)) hb); clear BK190 HB; have BK190 := n0_; have HB := n1_; clear n0_ n1_; (try clear hb); (try clear hb2); (try clear hk); (try clear hi))); try go_wp2_with (first | ((with_reducible refine gate_dst (N := 1) rfl ?_); refine box_event ?hg (N := 1) ?hd (cs := #[.int .i64 a0_0, .slice A0_1 l0_1.length c0_1]) (t := 26) ?hr ?_; (case hd => rfl); (case hg => rfl); (case hr => first | (go_simp; done) | (go_simp; rfl)); intro gb190 hg w4 hbox hb; have n0_ := A0_ (below_step (by repeat (first | (with_reducible first | exact HB.out | apply Al_ | apply Dn_ | apply D1_) | exact HB.out)) hb); have n1_ := A0_ (hbox); have n2_ := A0_ ((by rw [hg]; exact (below_size (by repeat (first | (with_reducible first | exact HB.out | apply Al_ | apply Dn_ | apply D1_) | exact HB.out))) : w.heap.size ≤ gb190)); have n3_ := A0_ ((by rw [hg]; exact (below_size (by repeat (first | (with_reducible first | exact HB.out | apply Al_ | apply Dn_ | apply D1_) | exact HB.out))) : w.heap.size ≤ gb190)); clear HB; have HB := n0_; have BK190 := n1_; have GW190 := n2_; have GE190 := n3_; clear n0_ n1_ n2_ n3_ hb hbox hg; have hcz5_0 : w4.cell? ⟨gb190, 0, none⟩ = some (.int .i64 a0_0) := (Bc_ BK190.out 0).trans rfl; have hcz5_1 : w4.cell? ⟨gb190, 1, none⟩ = some (.slice A0_1 l0_1.length c0_1) := (Bc_ BK190.out 1).trans rfl; have hfz5_0 := Bf_ BK190.out 0; have hfz5_1 := Bf_ BK190.out 1) | (go_at_call 51; (with_reducible refine (r02Check.calls k a0_0 _ _ l0_1 t191 _ ?side1 ?side2 A2.out).mono ?_); (case side1 => repeat (first | exact (Kd.C_below HR0_1.out HB.out) | (with_reducible first | refine Kd.C_alloc ?_ _ | refine Kd.C_drewN ?_ _ | refine Kd.C_drew ?_))); (case side2 => exact HC0_1.out); rintro e w6 ⟨rfl, hb⟩; have n0_ := A0_ (blk_below (g := gb190) (o := .cells #[.int .i64 a0_0, .slice A0_1 l0_1.length c0_1] 26 (0, 0)) (by (with_reducible repeat (first | refine Bn_ ?_ _ | refine Bd_ ?_ | refine Ba_ ?_ _)); exact BK190.out) hb); have n1_ := A0_ (below_step (by repeat (first | (with_reducible first | exact HB.out | apply Al_ | apply Dn_ | apply D1_ | refine Bs_ ?_ GE190.out) | exact HB.out)) hb); clear BK190 HB; have BK190 := n0_; have HB := n1_; clear n0_ n1_; (try clear hb); (try clear hb2); (try clear hk); (try clear hi))))
  go_loopg [3, 4] k (fun kq v3 v4 w' => ∃ (x3_1 : List (S49)) (x4_1 : Int), v4 = .int .i64 x4_1 ∧ Aside0 (r02Extents.l0 kq x3_1 x4_1 a0_0 l0_1 = some r) ∧ Aside0 (kq ≤ k) ∧ Aside0 (Kd.R k49 49 w' w.heap.size (fun _ => True) v3 x3_1) ∧ Aside0 (w'.heap[gb190]? = some (.cells #[.int .i64 a0_0, (.slice A0_1 l0_1.length c0_1)] 26 (0, 0))) ∧ Aside0 (Below w.heap.size w w'))
  case atStart => exact ⟨(([] : List (S49))), (0), (by first | rfl | (simp; done) | (simp [*]; done)), H', ⟨Nat.le_refl _⟩, ⟨by first | exact Kd.R_nil _ _ _ _ _ | exact Kd.N_nil _ _ _ _ _ | exact Kd.V_nil _ _ _ _ _ | exact Kd.Q_nil _ _ _ _ _ | exact Kd.S_nil _ _ _ _ _⟩, ⟨by (with_reducible repeat (first | refine Bn_ ?_ _ | refine Bd_ ?_ | refine Ba_ ?_ _)); exact BK190.out⟩, ⟨by repeat (first | (with_reducible first | exact HB.out | apply Al_ | apply Dn_ | apply D1_ | refine Bs_ ?_ GE190.out) | exact HB.out)⟩⟩
  case round =>
   clear H'
   try clear c2
   try clear p2
   try clear c3
   try clear c3b0
   try clear c3b1
   try clear hcz5_0
   try clear hcz5_1
   try clear hfz5_0
   try clear hfz5_1
   try clear HO_3
   try clear BK190
   obtain ⟨x3_1, x4_1, rfl, HA, HK1, HO_3, BK190, HB⟩ := hrel
   cases gk with
   | zero => exact absurd HA.out (by simp [r02Extents.l0])
   | succ k1 =>
    have H := HA.out
    clear HA
    simp only [r02Extents.l0] at H
    by_cases c7 : x4_1 < a0_0
    ·
     rw [if_pos c7] at H
     have c7b0 : decide (x4_1 < a0_0) = true := decide_eq_true c7
     clear c7
     replace H := Option.bind_eq_some_iff.mp H
     obtain ⟨t192, A80, H⟩ := H
     replace H : (if t192 = true then (if (x3_1.length : Int) > 0 then (if 0 ≤ (wrap64 ((x3_1.length : Int) - 1)) then (if (wrap64 ((x3_1.length : Int) - 1)) < (x3_1.length : Int) then (if (wrap64 (((rd_T49 x3_1 (wrap64 ((x3_1.length : Int) - 1))).f0) + ((rd_T49 x3_1 (wrap64 ((x3_1.length : Int) - 1))).f1))) = x4_1 then (r02Extents.l0 k1 (x3_1.set ((wrap64 ((x3_1.length : Int) - 1)) : Int).toNat (⟨(rd_T49 x3_1 (wrap64 ((x3_1.length : Int) - 1))).f0, wrap64 (((rd_T49 x3_1 (wrap64 ((x3_1.length : Int) - 1))).f1) + 1)⟩ : S49)) (wrap64 (x4_1 + 1)) a0_0 l0_1) else (if x3_1.length < 8796093022208 then (r02Extents.l0 k1 (x3_1 ++ [(⟨x4_1, 1⟩ : S49)]) (wrap64 (x4_1 + 1)) a0_0 l0_1) else (none))) else (none)) else (none)) else (if x3_1.length < 8796093022208 then (r02Extents.l0 k1 (x3_1 ++ [(⟨x4_1, 1⟩ : S49)]) (wrap64 (x4_1 + 1)) a0_0 l0_1) else (none))) else (r02Extents.l0 k1 x3_1 (wrap64 (x4_1 + 1)) a0_0 l0_1)) = some r := H
     have A8 := A0_ A80
     clear A80
     by_cases c9 : t192 = true
     ·
      subst c9
      have H1 : (if (x3_1.length : Int) > 0 then (if 0 ≤ (wrap64 ((x3_1.length : Int) - 1)) then (if (wrap64 ((x3_1.length : Int) - 1)) < (x3_1.length : Int) then (if (wrap64 (((rd_T49 x3_1 (wrap64 ((x3_1.length : Int) - 1))).f0) + ((rd_T49 x3_1 (wrap64 ((x3_1.length : Int) - 1))).f1))) = x4_1 then (r02Extents.l0 k1 (x3_1.set ((wrap64 ((x3_1.length : Int) - 1)) : Int).toNat (⟨(rd_T49 x3_1 (wrap64 ((x3_1.length : Int) - 1))).f0, wrap64 (((rd_T49 x3_1 (wrap64 ((x3_1.length : Int) - 1))).f1) + 1)⟩ : S49)) (wrap64 (x4_1 + 1)) a0_0 l0_1) else (if x3_1.length < 8796093022208 then (r02Extents.l0 k1 (x3_1 ++ [(⟨x4_1, 1⟩ : S49)]) (wrap64 (x4_1 + 1)) a0_0 l0_1) else (none))) else (none)) else (none)) else (if x3_1.length < 8796093022208 then (r02Extents.l0 k1 (x3_1 ++ [(⟨x4_1, 1⟩ : S49)]) (wrap64 (x4_1 + 1)) a0_0 l0_1) else (none))) = some r := by rw [if_pos rfl] at H; exact H
      clear H
      have H := H1
      clear H1
      by_cases c10 : (x3_1.length : Int) > 0
      ·
       rw [if_pos c10] at H
       have c10b0 : decide (0 < (x3_1.length : Int)) = true := decide_eq_true c10
       have c10b1 : decide (0 < x3_1.length) = true := decide_eq_true (by omega)
       clear c10
       obtain ⟨ji11, hji11⟩ : ∃ j_ : Int, (wrap64 ((x3_1.length : Int) - 1)) = j_ := ⟨_, rfl⟩
       replace H : (if 0 ≤ (ji11) then (if (ji11) < (x3_1.length : Int) then (if (wrap64 (((rd_T49 x3_1 (ji11)).f0) + ((rd_T49 x3_1 (ji11)).f1))) = x4_1 then (r02Extents.l0 k1 (x3_1.set ((ji11) : Int).toNat (⟨(rd_T49 x3_1 (ji11)).f0, wrap64 (((rd_T49 x3_1 (ji11)).f1) + 1)⟩ : S49)) (wrap64 (x4_1 + 1)) a0_0 l0_1) else (if x3_1.length < 8796093022208 then (r02Extents.l0 k1 (x3_1 ++ [(⟨x4_1, 1⟩ : S49)]) (wrap64 (x4_1 + 1)) a0_0 l0_1) else (none))) else (none)) else (none)) = some r := by first | (rw [hji11] at H; exact H) | (simp only [hji11] at H ⊢; exact H)
       (try rw [hji11] at A8)
       have hji11w : (IntKind.i64.wrap ((x3_1.length : Int) - 1)) = ji11 := (i64_w _).trans hji11
       by_cases c12 : 0 ≤ (ji11)
       ·
        rw [if_pos c12] at H
        have c12b0 : decide (0 ≤ (ji11)) = true := decide_eq_true c12
        clear c12
        by_cases c13 : (ji11) < (x3_1.length : Int)
        ·
         rw [if_pos c13] at H
         have c13b0 : decide ((ji11) < (x3_1.length : Int)) = true := decide_eq_true c13
         clear c13
         by_cases c14 : (wrap64 (((rd_T49 x3_1 (ji11)).f0) + ((rd_T49 x3_1 (ji11)).f1))) = x4_1
         ·
          rw [if_pos c14] at H
          have c14b0 : ((wrap64 (((rd_T49 x3_1 (ji11)).f0) + ((rd_T49 x3_1 (ji11)).f1))) == x4_1) = true := beq_iff_eq.mpr c14
          have c14b1 : ((wrap64 (((rd_T49 x3_1 (ji11)).f0) + ((rd_T49 x3_1 (ji11)).f1))) != x4_1) = false := bne_eq_false_iff_eq.mpr c14
          clear c14
          obtain ⟨y196, hy196⟩ : ∃ y_ : List (S49), y_ = (x3_1.set ((ji11) : Int).toNat (⟨(rd_T49 x3_1 (ji11)).f0, wrap64 (((rd_T49 x3_1 (ji11)).f1) + 1)⟩ : S49)) := ⟨_, rfl⟩
          replace H : (r02Extents.l0 k1 y196 (wrap64 (x4_1 + 1)) a0_0 l0_1) = some r := by first | (rw [hy196]; with_reducible exact H) | (have H2_ := (Option.bind_some _ _).symm.trans H; rw [hy196]; with_reducible exact H2_) | (have H2_ := (Option.bind_some _ _).symm.trans H; with_reducible exact H2_) | with_reducible exact H | (rw [hy196]; exact H) | exact H
          have Ny196 := A0_ hy196
          clear hy196
          have H' := A0_ H
          clear H
          have hcz16_0 : wr.cell? ⟨gb190, 0, none⟩ = some (.int .i64 a0_0) := (Bc_ BK190.out 0).trans rfl
          have hcz16_1 : wr.cell? ⟨gb190, 1, none⟩ = some (.slice A0_1 l0_1.length c0_1) := (Bc_ BK190.out 1).trans rfl
          have hfz16_0 := Bf_ BK190.out 0
          have hfz16_1 := Bf_ BK190.out 1
          go_wp2_with (first | (go_at_call 52; (with_reducible refine (r02bit.calls a0_0 _ _ l0_1 x4_1 true _ ?side1 ?side2 A8.out).mono ?_); (case side1 => repeat (first | exact (Kd.C_below HR0_1.out HB.out) | (with_reducible first | refine Kd.C_alloc ?_ _ | refine Kd.C_drewN ?_ _ | refine Kd.C_drew ?_))); (case side2 => exact HC0_1.out); rintro e w17 ⟨rfl, hb⟩; have n0_ := A0_ (Kd.R_below (by (with_reducible repeat (first | apply Ra_ | apply Rn_ | apply Rd_)); exact HO_3.out) hb); have n1_ := A0_ (blk_below (g := gb190) (o := .cells #[.int .i64 a0_0, .slice A0_1 l0_1.length c0_1] 26 (0, 0)) (by (with_reducible repeat (first | refine Bn_ ?_ _ | refine Bd_ ?_ | refine Ba_ ?_ _)); exact BK190.out) hb); have n2_ := A0_ (below_step (by repeat (first | (with_reducible first | exact HB.out | apply Al_ | apply Dn_ | apply D1_ | refine Bs_ ?_ GE190.out) | exact HB.out)) hb); clear HO_3 BK190 HB; have HO_3 := n0_; have BK190 := n1_; have HB := n2_; clear n0_ n1_ n2_; (try clear hb); (try clear hb2); (try clear hk); (try clear hi); obtain ⟨Ao18, co18, eo18⟩ := Kd.R_slice HO_3.out; subst eo18; have p193 : 0 ≤ ((ji11) : Int) := of_decide_eq_true (by first | (with_reducible assumption) | assumption); have q193 : (ji11) < (x3_1.length : Int) := of_decide_eq_true (by first | (with_reducible assumption) | assumption); obtain ⟨ad193, e193, hx193_0, hx193_1⟩ := at_T49 (Kd.R_reads' HO_3.out).2.2 (ji11) p193 q193; cases e193; replace p193 := eq_true p193; replace q193 := eq_true q193; have p194 : 0 ≤ ((ji11) : Int) := of_decide_eq_true (by first | (with_reducible assumption) | assumption); have q194 : (ji11) < (x3_1.length : Int) := of_decide_eq_true (by first | (with_reducible assumption) | assumption); obtain ⟨ad194, e194, hx194_0, hx194_1⟩ := at_T49 (Kd.R_reads' HO_3.out).2.2 (ji11) p194 q194; obtain rfl : ad193 = ad194 := (by injection e194); replace p194 := eq_true p194; replace q194 := eq_true q194; have p195 : 0 ≤ ((ji11) : Int) := of_decide_eq_true (by first | (with_reducible assumption) | assumption); have q195 : (ji11) < (x3_1.length : Int) := of_decide_eq_true (by first | (with_reducible assumption) | assumption); obtain ⟨ad195, e195, hx195_0, hx195_1⟩ := at_T49 (Kd.R_reads' HO_3.out).2.2 (ji11) p195 q195; obtain rfl : ad193 = ad195 := (by injection e195); replace p195 := eq_true p195; replace q195 := eq_true q195; have p15 : 0 ≤ ((ji11) : Int) := of_decide_eq_true (by first | (with_reducible assumption) | assumption); have q15 : ((ji11) : Int) < ((x3_1.length : Int) : Int) := of_decide_eq_true (by first | (with_reducible assumption) | assumption); obtain ⟨go15, co15, eo15, gb15, gl15, cl15, HG15⟩ := Kd.R_form HO_3.out (by omega); (first | cases eo15 | (injection eo15 with ea_ en_ ec_; (first | subst ea_ | (injection ea_ with ea_; subst ea_)); subst ec_; clear en_)); have GB15 := A0_ gb15; have GG15 := A0_ HG15; clear gb15 gl15 HG15; (first | simp only [add_plain] at hx193_0 | skip); (first | simp only [add_plain] at hx193_1 | skip); (first | simp only [add_plain] at hx194_0 | skip); (first | simp only [add_plain] at hx194_1 | skip); (first | simp only [add_plain] at hx195_0 | skip); (first | simp only [add_plain] at hx195_1 | skip); obtain ⟨ce15, hcl15, hM15, hcc15, hfr15⟩ := Kd.R_elem HO_3.out z49 ((ji11) : Int) p15 q15; obtain rfl := k49_openM hM15; have hx15_0 : w17.cell? ⟨go15, ((ji11) : Int).toNat * 2, none⟩ = some (.int .i64 ((rd_T49 x3_1 (ji11)).f0)) := hcc15 0 _ rfl; have hx15_1 : w17.cell? ⟨go15, ((ji11) : Int).toNat * 2 + 1, none⟩ = some (.int .i64 ((rd_T49 x3_1 (ji11)).f1)) := hcc15 1 _ rfl; have hf15_0 : w17.frozen? ⟨go15, ((ji11) : Int).toNat * 2, none⟩ = false := hfr15 0; have hf15_1 : w17.frozen? ⟨go15, ((ji11) : Int).toNat * 2 + 1, none⟩ = false := hfr15 1; clear hcl15 hcc15 hfr15 hM15; replace p15 := eq_true p15; replace q15 := eq_true q15; have HX19 := A0_ (show Kd.R k49 49 w17 w.heap.size (fun _ => True) (.slice (some ⟨go15, 0, none⟩) x3_1.length co18) x3_1 from (by (with_reducible repeat (first | apply Ra_ | apply Rn_ | apply Rd_)); exact HO_3.out)); obtain ⟨ce19, hcl19, hM19, hcc19, hfr19⟩ := Kd.R_elem HX19.out z49 ((ji11) : Int) (of_decide_eq_true (by first | (with_reducible assumption) | assumption)) (by have h_ : ((ji11) : Int) < ((x3_1.length : Int) : Int) := of_decide_eq_true (by first | (with_reducible assumption) | assumption); first | exact h_ | (have e_ := (Kd.R_reads' HO_3.out).1; omega) | simpa using h_); obtain rfl := k49_openM hM19; have HP19 := Kd.R_seg HX19.out ((ji11) : Int) (of_decide_eq_true (by first | (with_reducible assumption) | assumption)) (by have h_ : ((ji11) : Int) < ((x3_1.length : Int) : Int) := of_decide_eq_true (by first | (with_reducible assumption) | assumption); first | exact h_ | (have e_ := (Kd.R_reads' HO_3.out).1; omega) | simpa using h_) (seg := [.int .i64 (wrap64 (((rd_T49 x3_1 (ji11)).f1) + 1))]) (j := 1) hcl19 hcc19 (show 2 ≤ 2 from by decide) (x' := (⟨(rd_T49 x3_1 (ji11)).f0, wrap64 (((rd_T49 x3_1 (ji11)).f1) + 1)⟩ : S49)) (k49_mkM _ _ _ (⟨(rd_T49 x3_1 (ji11)).f0, wrap64 (((rd_T49 x3_1 (ji11)).f1) + 1)⟩ : S49) ) (fun _ hk => hk); have hx19_1 := hcc19 1 _ rfl; (try simp only [show (k49).sz = 2 from rfl, Nat.mul_one, Nat.add_zero] at hx19_1); have hf19_1 := hfr19 1; (try simp only [show (k49).sz = 2 from rfl, Nat.mul_one, Nat.add_zero] at hf19_1); clear hcl19 hcc19 hfr19 hM19) | ((with_reducible refine gate_store (t := 3) (p := 48) rfl ?_); (try (rw [drewN_self w17]; generalize hq_ : World.drewN w17 _ = w17; have n0_ := A0_ (Kd.R_at hq_ HO_3.out); have n1_ := A0_ (blk_at hq_ BK190.out); have n2_ := A0_ (below_at hq_ HB.out); clear hq_ HO_3 BK190 HB; have HO_3 := n0_; have BK190 := n1_; have HB := n2_; clear n0_ n1_ n2_; (try (have HX19 := A0_ (show Kd.R k49 49 w17 w.heap.size (fun _ => True) (.slice (some ⟨go15, 0, none⟩) x3_1.length co18) x3_1 from (by (with_reducible repeat (first | apply Ra_ | apply Rn_ | apply Rd_)); exact HO_3.out)))); (try (obtain ⟨ce19, hcl19, hM19, hcc19, hfr19⟩ := Kd.R_elem HX19.out z49 ((ji11) : Int) (of_decide_eq_true (by first | (with_reducible assumption) | assumption)) (by have h_ : ((ji11) : Int) < ((x3_1.length : Int) : Int) := of_decide_eq_true (by first | (with_reducible assumption) | assumption); first | exact h_ | (have e_ := (Kd.R_reads' HO_3.out).1; omega) | simpa using h_))); (try (obtain rfl := k49_openM hM19)); (try (have HP19 := Kd.R_seg HX19.out ((ji11) : Int) (of_decide_eq_true (by first | (with_reducible assumption) | assumption)) (by have h_ : ((ji11) : Int) < ((x3_1.length : Int) : Int) := of_decide_eq_true (by first | (with_reducible assumption) | assumption); first | exact h_ | (have e_ := (Kd.R_reads' HO_3.out).1; omega) | simpa using h_) (seg := [.int .i64 (wrap64 (((rd_T49 x3_1 (ji11)).f1) + 1))]) (j := 1) hcl19 hcc19 (show 2 ≤ 2 from by decide) (x' := (⟨(rd_T49 x3_1 (ji11)).f0, wrap64 (((rd_T49 x3_1 (ji11)).f1) + 1)⟩ : S49)) (k49_mkM _ _ _ (⟨(rd_T49 x3_1 (ji11)).f0, wrap64 (((rd_T49 x3_1 (ji11)).f1) + 1)⟩ : S49) ) (fun _ hk => hk))); (try (have hx19_1 := hcc19 1 _ rfl)); (try (try simp only [show (k49).sz = 2 from rfl, Nat.mul_one, Nat.add_zero] at hx19_1)); (try (have hf19_1 := hfr19 1)); (try (try simp only [show (k49).sz = 2 from rfl, Nat.mul_one, Nat.add_zero] at hf19_1)); (try (clear hcl19 hcc19 hfr19 hM19)))); refine store_event (t := 3) (p := 48) (v := ?vo_w20) (w1 := (w17.setCell ⟨go15, ((ji11) : Int).toNat * 2 + 1, none⟩ (.int .i64 (wrap64 (((rd_T49 x3_1 (ji11)).f1) + 1))))) ?hg ?ho ?hn ?hr ?_; (case ho => rfl); (case hg => rfl); (case hn => rfl); (case hr => first | (go_simp; done) | (go_simp; rfl)); intro w20 hw; have hg : w17.grownBy w20 (some go15) := (by rw [hw]; exact HP19.2); have hp_ : Kd.R k49 49 w20 w.heap.size (fun _ => True) (.slice (some ⟨go15, 0, none⟩) x3_1.length co18) y196 := (by rw [hw, Ny196.out]; exact HP19.1); clear HP19; have n0_ := A0_ (hp_); have n1_ := A0_ (blk_grown (g := gb190) (o := .cells #[.int .i64 a0_0, .slice A0_1 l0_1.length c0_1] 26 (0, 0)) (by (with_reducible repeat (first | refine Bn_ ?_ _ | refine Bd_ ?_ | refine Ba_ ?_ _)); exact BK190.out) hg (Kd.R_ne HO_3.out BK190.out (by decide))); have n2_ := A0_ ((by rw [hw]; exact Bs_ (HB.out) GB15.out : Below w.heap.size w w20)); clear HO_3 BK190 HB; have HO_3 := n0_; have BK190 := n1_; have HB := n2_; clear n0_ n1_ n2_ hg hw hp_))
          repeat (go_quiet (first | (go_at_call 52; (with_reducible refine (r02bit.calls a0_0 _ _ l0_1 x4_1 true _ ?side1 ?side2 A8.out).mono ?_); (case side1 => repeat (first | exact (Kd.C_below HR0_1.out HB.out) | (with_reducible first | refine Kd.C_alloc ?_ _ | refine Kd.C_drewN ?_ _ | refine Kd.C_drew ?_))); (case side2 => exact HC0_1.out); rintro e w17 ⟨rfl, hb⟩; have n0_ := A0_ (Kd.R_below (by (with_reducible repeat (first | apply Ra_ | apply Rn_ | apply Rd_)); exact HO_3.out) hb); have n1_ := A0_ (blk_below (g := gb190) (o := .cells #[.int .i64 a0_0, .slice A0_1 l0_1.length c0_1] 26 (0, 0)) (by (with_reducible repeat (first | refine Bn_ ?_ _ | refine Bd_ ?_ | refine Ba_ ?_ _)); exact BK190.out) hb); have n2_ := A0_ (below_step (by repeat (first | (with_reducible first | exact HB.out | apply Al_ | apply Dn_ | apply D1_ | refine Bs_ ?_ GE190.out) | exact HB.out)) hb); clear HO_3 BK190 HB; have HO_3 := n0_; have BK190 := n1_; have HB := n2_; clear n0_ n1_ n2_; (try clear hb); (try clear hb2); (try clear hk); (try clear hi); obtain ⟨Ao18, co18, eo18⟩ := Kd.R_slice HO_3.out; subst eo18; have p193 : 0 ≤ ((ji11) : Int) := of_decide_eq_true (by first | (with_reducible assumption) | assumption); have q193 : (ji11) < (x3_1.length : Int) := of_decide_eq_true (by first | (with_reducible assumption) | assumption); obtain ⟨ad193, e193, hx193_0, hx193_1⟩ := at_T49 (Kd.R_reads' HO_3.out).2.2 (ji11) p193 q193; cases e193; replace p193 := eq_true p193; replace q193 := eq_true q193; have p194 : 0 ≤ ((ji11) : Int) := of_decide_eq_true (by first | (with_reducible assumption) | assumption); have q194 : (ji11) < (x3_1.length : Int) := of_decide_eq_true (by first | (with_reducible assumption) | assumption); obtain ⟨ad194, e194, hx194_0, hx194_1⟩ := at_T49 (Kd.R_reads' HO_3.out).2.2 (ji11) p194 q194; obtain rfl : ad193 = ad194 := (by injection e194); replace p194 := eq_true p194; replace q194 := eq_true q194; have p195 : 0 ≤ ((ji11) : Int) := of_decide_eq_true (by first | (with_reducible assumption) | assumption); have q195 : (ji11) < (x3_1.length : Int) := of_decide_eq_true (by first | (with_reducible assumption) | assumption); obtain ⟨ad195, e195, hx195_0, hx195_1⟩ := at_T49 (Kd.R_reads' HO_3.out).2.2 (ji11) p195 q195; obtain rfl : ad193 = ad195 := (by injection e195); replace p195 := eq_true p195; replace q195 := eq_true q195; have p15 : 0 ≤ ((ji11) : Int) := of_decide_eq_true (by first | (with_reducible assumption) | assumption); have q15 : ((ji11) : Int) < ((x3_1.length : Int) : Int) := of_decide_eq_true (by first | (with_reducible assumption) | assumption); obtain ⟨go15, co15, eo15, gb15, gl15, cl15, HG15⟩ := Kd.R_form HO_3.out (by omega); (first | cases eo15 | (injection eo15 with ea_ en_ ec_; (first | subst ea_ | (injection ea_ with ea_; subst ea_)); subst ec_; clear en_)); have GB15 := A0_ gb15; have GG15 := A0_ HG15; clear gb15 gl15 HG15; (first | simp only [add_plain] at hx193_0 | skip); (first | simp only [add_plain] at hx193_1 | skip); (first | simp only [add_plain] at hx194_0 | skip); (first | simp only [add_plain] at hx194_1 | skip); (first | simp only [add_plain] at hx195_0 | skip); (first | simp only [add_plain] at hx195_1 | skip); obtain ⟨ce15, hcl15, hM15, hcc15, hfr15⟩ := Kd.R_elem HO_3.out z49 ((ji11) : Int) p15 q15; obtain rfl := k49_openM hM15; have hx15_0 : w17.cell? ⟨go15, ((ji11) : Int).toNat * 2, none⟩ = some (.int .i64 ((rd_T49 x3_1 (ji11)).f0)) := hcc15 0 _ rfl; have hx15_1 : w17.cell? ⟨go15, ((ji11) : Int).toNat * 2 + 1, none⟩ = some (.int .i64 ((rd_T49 x3_1 (ji11)).f1)) := hcc15 1 _ rfl; have hf15_0 : w17.frozen? ⟨go15, ((ji11) : Int).toNat * 2, none⟩ = false := hfr15 0; have hf15_1 : w17.frozen? ⟨go15, ((ji11) : Int).toNat * 2 + 1, none⟩ = false := hfr15 1; clear hcl15 hcc15 hfr15 hM15; replace p15 := eq_true p15; replace q15 := eq_true q15; have HX19 := A0_ (show Kd.R k49 49 w17 w.heap.size (fun _ => True) (.slice (some ⟨go15, 0, none⟩) x3_1.length co18) x3_1 from (by (with_reducible repeat (first | apply Ra_ | apply Rn_ | apply Rd_)); exact HO_3.out)); obtain ⟨ce19, hcl19, hM19, hcc19, hfr19⟩ := Kd.R_elem HX19.out z49 ((ji11) : Int) (of_decide_eq_true (by first | (with_reducible assumption) | assumption)) (by have h_ : ((ji11) : Int) < ((x3_1.length : Int) : Int) := of_decide_eq_true (by first | (with_reducible assumption) | assumption); first | exact h_ | (have e_ := (Kd.R_reads' HO_3.out).1; omega) | simpa using h_); obtain rfl := k49_openM hM19; have HP19 := Kd.R_seg HX19.out ((ji11) : Int) (of_decide_eq_true (by first | (with_reducible assumption) | assumption)) (by have h_ : ((ji11) : Int) < ((x3_1.length : Int) : Int) := of_decide_eq_true (by first | (with_reducible assumption) | assumption); first | exact h_ | (have e_ := (Kd.R_reads' HO_3.out).1; omega) | simpa using h_) (seg := [.int .i64 (wrap64 (((rd_T49 x3_1 (ji11)).f1) + 1))]) (j := 1) hcl19 hcc19 (show 2 ≤ 2 from by decide) (x' := (⟨(rd_T49 x3_1 (ji11)).f0, wrap64 (((rd_T49 x3_1 (ji11)).f1) + 1)⟩ : S49)) (k49_mkM _ _ _ (⟨(rd_T49 x3_1 (ji11)).f0, wrap64 (((rd_T49 x3_1 (ji11)).f1) + 1)⟩ : S49) ) (fun _ hk => hk); have hx19_1 := hcc19 1 _ rfl; (try simp only [show (k49).sz = 2 from rfl, Nat.mul_one, Nat.add_zero] at hx19_1); have hf19_1 := hfr19 1; (try simp only [show (k49).sz = 2 from rfl, Nat.mul_one, Nat.add_zero] at hf19_1); clear hcl19 hcc19 hfr19 hM19) | ((with_reducible refine gate_store (t := 3) (p := 48) rfl ?_); (try (rw [drewN_self w17]; generalize hq_ : World.drewN w17 _ = w17; have n0_ := A0_ (Kd.R_at hq_ HO_3.out); have n1_ := A0_ (blk_at hq_ BK190.out); have n2_ := A0_ (below_at hq_ HB.out); clear hq_ HO_3 BK190 HB; have HO_3 := n0_; have BK190 := n1_; have HB := n2_; clear n0_ n1_ n2_; (try (have HX19 := A0_ (show Kd.R k49 49 w17 w.heap.size (fun _ => True) (.slice (some ⟨go15, 0, none⟩) x3_1.length co18) x3_1 from (by (with_reducible repeat (first | apply Ra_ | apply Rn_ | apply Rd_)); exact HO_3.out)))); (try (obtain ⟨ce19, hcl19, hM19, hcc19, hfr19⟩ := Kd.R_elem HX19.out z49 ((ji11) : Int) (of_decide_eq_true (by first | (with_reducible assumption) | assumption)) (by have h_ : ((ji11) : Int) < ((x3_1.length : Int) : Int) := of_decide_eq_true (by first | (with_reducible assumption) | assumption); first | exact h_ | (have e_ := (Kd.R_reads' HO_3.out).1; omega) | simpa using h_))); (try (obtain rfl := k49_openM hM19)); (try (have HP19 := Kd.R_seg HX19.out ((ji11) : Int) (of_decide_eq_true (by first | (with_reducible assumption) | assumption)) (by have h_ : ((ji11) : Int) < ((x3_1.length : Int) : Int) := of_decide_eq_true (by first | (with_reducible assumption) | assumption); first | exact h_ | (have e_ := (Kd.R_reads' HO_3.out).1; omega) | simpa using h_) (seg := [.int .i64 (wrap64 (((rd_T49 x3_1 (ji11)).f1) + 1))]) (j := 1) hcl19 hcc19 (show 2 ≤ 2 from by decide) (x' := (⟨(rd_T49 x3_1 (ji11)).f0, wrap64 (((rd_T49 x3_1 (ji11)).f1) + 1)⟩ : S49)) (k49_mkM _ _ _ (⟨(rd_T49 x3_1 (ji11)).f0, wrap64 (((rd_T49 x3_1 (ji11)).f1) + 1)⟩ : S49) ) (fun _ hk => hk))); (try (have hx19_1 := hcc19 1 _ rfl)); (try (try simp only [show (k49).sz = 2 from rfl, Nat.mul_one, Nat.add_zero] at hx19_1)); (try (have hf19_1 := hfr19 1)); (try (try simp only [show (k49).sz = 2 from rfl, Nat.mul_one, Nat.add_zero] at hf19_1)); (try (clear hcl19 hcc19 hfr19 hM19)))); refine store_event (t := 3) (p := 48) (v := ?vo_w20) (w1 := (w17.setCell ⟨go15, ((ji11) : Int).toNat * 2 + 1, none⟩ (.int .i64 (wrap64 (((rd_T49 x3_1 (ji11)).f1) + 1))))) ?hg ?ho ?hn ?hr ?_; (case ho => rfl); (case hg => rfl); (case hn => rfl); (case hr => first | (go_simp; done) | (go_simp; rfl)); intro w20 hw; have hg : w17.grownBy w20 (some go15) := (by rw [hw]; exact HP19.2); have hp_ : Kd.R k49 49 w20 w.heap.size (fun _ => True) (.slice (some ⟨go15, 0, none⟩) x3_1.length co18) y196 := (by rw [hw, Ny196.out]; exact HP19.1); clear HP19; have n0_ := A0_ (hp_); have n1_ := A0_ (blk_grown (g := gb190) (o := .cells #[.int .i64 a0_0, .slice A0_1 l0_1.length c0_1] 26 (0, 0)) (by (with_reducible repeat (first | refine Bn_ ?_ _ | refine Bd_ ?_ | refine Ba_ ?_ _)); exact BK190.out) hg (Kd.R_ne HO_3.out BK190.out (by decide))); have n2_ := A0_ ((by rw [hw]; exact Bs_ (HB.out) GB15.out : Below w.heap.size w w20)); clear HO_3 BK190 HB; have HO_3 := n0_; have BK190 := n1_; have HB := n2_; clear n0_ n1_ n2_ hg hw hp_)); try go_wp2_with (first | (go_at_call 52; (with_reducible refine (r02bit.calls a0_0 _ _ l0_1 x4_1 true _ ?side1 ?side2 A8.out).mono ?_); (case side1 => repeat (first | exact (Kd.C_below HR0_1.out HB.out) | (with_reducible first | refine Kd.C_alloc ?_ _ | refine Kd.C_drewN ?_ _ | refine Kd.C_drew ?_))); (case side2 => exact HC0_1.out); rintro e w17 ⟨rfl, hb⟩; have n0_ := A0_ (Kd.R_below (by (with_reducible repeat (first | apply Ra_ | apply Rn_ | apply Rd_)); exact HO_3.out) hb); have n1_ := A0_ (blk_below (g := gb190) (o := .cells #[.int .i64 a0_0, .slice A0_1 l0_1.length c0_1] 26 (0, 0)) (by (with_reducible repeat (first | refine Bn_ ?_ _ | refine Bd_ ?_ | refine Ba_ ?_ _)); exact BK190.out) hb); have n2_ := A0_ (below_step (by repeat (first | (with_reducible first | exact HB.out | apply Al_ | apply Dn_ | apply D1_ | refine Bs_ ?_ GE190.out) | exact HB.out)) hb); clear HO_3 BK190 HB; have HO_3 := n0_; have BK190 := n1_; have HB := n2_; clear n0_ n1_ n2_; (try clear hb); (try clear hb2); (try clear hk); (try clear hi); obtain ⟨Ao18, co18, eo18⟩ := Kd.R_slice HO_3.out; subst eo18; have p193 : 0 ≤ ((ji11) : Int) := of_decide_eq_true (by first | (with_reducible assumption) | assumption); have q193 : (ji11) < (x3_1.length : Int) := of_decide_eq_true (by first | (with_reducible assumption) | assumption); obtain ⟨ad193, e193, hx193_0, hx193_1⟩ := at_T49 (Kd.R_reads' HO_3.out).2.2 (ji11) p193 q193; cases e193; replace p193 := eq_true p193; replace q193 := eq_true q193; have p194 : 0 ≤ ((ji11) : Int) := of_decide_eq_true (by first | (with_reducible assumption) | assumption); have q194 : (ji11) < (x3_1.length : Int) := of_decide_eq_true (by first | (with_reducible assumption) | assumption); obtain ⟨ad194, e194, hx194_0, hx194_1⟩ := at_T49 (Kd.R_reads' HO_3.out).2.2 (ji11) p194 q194; obtain rfl : ad193 = ad194 := (by injection e194); replace p194 := eq_true p194; replace q194 := eq_true q194; have p195 : 0 ≤ ((ji11) : Int) := of_decide_eq_true (by first | (with_reducible assumption) | assumption); have q195 : (ji11) < (x3_1.length : Int) := of_decide_eq_true (by first | (with_reducible assumption) | assumption); obtain ⟨ad195, e195, hx195_0, hx195_1⟩ := at_T49 (Kd.R_reads' HO_3.out).2.2 (ji11) p195 q195; obtain rfl : ad193 = ad195 := (by injection e195); replace p195 := eq_true p195; replace q195 := eq_true q195; have p15 : 0 ≤ ((ji11) : Int) := of_decide_eq_true (by first | (with_reducible assumption) | assumption); have q15 : ((ji11) : Int) < ((x3_1.length : Int) : Int) := of_decide_eq_true (by first | (with_reducible assumption) | assumption); obtain ⟨go15, co15, eo15, gb15, gl15, cl15, HG15⟩ := Kd.R_form HO_3.out (by omega); (first | cases eo15 | (injection eo15 with ea_ en_ ec_; (first | subst ea_ | (injection ea_ with ea_; subst ea_)); subst ec_; clear en_)); have GB15 := A0_ gb15; have GG15 := A0_ HG15; clear gb15 gl15 HG15; (first | simp only [add_plain] at hx193_0 | skip); (first | simp only [add_plain] at hx193_1 | skip); (first | simp only [add_plain] at hx194_0 | skip); (first | simp only [add_plain] at hx194_1 | skip); (first | simp only [add_plain] at hx195_0 | skip); (first | simp only [add_plain] at hx195_1 | skip); obtain ⟨ce15, hcl15, hM15, hcc15, hfr15⟩ := Kd.R_elem HO_3.out z49 ((ji11) : Int) p15 q15; obtain rfl := k49_openM hM15; have hx15_0 : w17.cell? ⟨go15, ((ji11) : Int).toNat * 2, none⟩ = some (.int .i64 ((rd_T49 x3_1 (ji11)).f0)) := hcc15 0 _ rfl; have hx15_1 : w17.cell? ⟨go15, ((ji11) : Int).toNat * 2 + 1, none⟩ = some (.int .i64 ((rd_T49 x3_1 (ji11)).f1)) := hcc15 1 _ rfl; have hf15_0 : w17.frozen? ⟨go15, ((ji11) : Int).toNat * 2, none⟩ = false := hfr15 0; have hf15_1 : w17.frozen? ⟨go15, ((ji11) : Int).toNat * 2 + 1, none⟩ = false := hfr15 1; clear hcl15 hcc15 hfr15 hM15; replace p15 := eq_true p15; replace q15 := eq_true q15; have HX19 := A0_ (show Kd.R k49 49 w17 w.heap.size (fun _ => True) (.slice (some ⟨go15, 0, none⟩) x3_1.length co18) x3_1 from (by (with_reducible repeat (first | apply Ra_ | apply Rn_ | apply Rd_)); exact HO_3.out)); obtain ⟨ce19, hcl19, hM19, hcc19, hfr19⟩ := Kd.R_elem HX19.out z49 ((ji11) : Int) (of_decide_eq_true (by first | (with_reducible assumption) | assumption)) (by have h_ : ((ji11) : Int) < ((x3_1.length : Int) : Int) := of_decide_eq_true (by first | (with_reducible assumption) | assumption); first | exact h_ | (have e_ := (Kd.R_reads' HO_3.out).1; omega) | simpa using h_); obtain rfl := k49_openM hM19; have HP19 := Kd.R_seg HX19.out ((ji11) : Int) (of_decide_eq_true (by first | (with_reducible assumption) | assumption)) (by have h_ : ((ji11) : Int) < ((x3_1.length : Int) : Int) := of_decide_eq_true (by first | (with_reducible assumption) | assumption); first | exact h_ | (have e_ := (Kd.R_reads' HO_3.out).1; omega) | simpa using h_) (seg := [.int .i64 (wrap64 (((rd_T49 x3_1 (ji11)).f1) + 1))]) (j := 1) hcl19 hcc19 (show 2 ≤ 2 from by decide) (x' := (⟨(rd_T49 x3_1 (ji11)).f0, wrap64 (((rd_T49 x3_1 (ji11)).f1) + 1)⟩ : S49)) (k49_mkM _ _ _ (⟨(rd_T49 x3_1 (ji11)).f0, wrap64 (((rd_T49 x3_1 (ji11)).f1) + 1)⟩ : S49) ) (fun _ hk => hk); have hx19_1 := hcc19 1 _ rfl; (try simp only [show (k49).sz = 2 from rfl, Nat.mul_one, Nat.add_zero] at hx19_1); have hf19_1 := hfr19 1; (try simp only [show (k49).sz = 2 from rfl, Nat.mul_one, Nat.add_zero] at hf19_1); clear hcl19 hcc19 hfr19 hM19) | ((with_reducible refine gate_store (t := 3) (p := 48) rfl ?_); (try (rw [drewN_self w17]; generalize hq_ : World.drewN w17 _ = w17; have n0_ := A0_ (Kd.R_at hq_ HO_3.out); have n1_ := A0_ (blk_at hq_ BK190.out); have n2_ := A0_ (below_at hq_ HB.out); clear hq_ HO_3 BK190 HB; have HO_3 := n0_; have BK190 := n1_; have HB := n2_; clear n0_ n1_ n2_; (try (have HX19 := A0_ (show Kd.R k49 49 w17 w.heap.size (fun _ => True) (.slice (some ⟨go15, 0, none⟩) x3_1.length co18) x3_1 from (by (with_reducible repeat (first | apply Ra_ | apply Rn_ | apply Rd_)); exact HO_3.out)))); (try (obtain ⟨ce19, hcl19, hM19, hcc19, hfr19⟩ := Kd.R_elem HX19.out z49 ((ji11) : Int) (of_decide_eq_true (by first | (with_reducible assumption) | assumption)) (by have h_ : ((ji11) : Int) < ((x3_1.length : Int) : Int) := of_decide_eq_true (by first | (with_reducible assumption) | assumption); first | exact h_ | (have e_ := (Kd.R_reads' HO_3.out).1; omega) | simpa using h_))); (try (obtain rfl := k49_openM hM19)); (try (have HP19 := Kd.R_seg HX19.out ((ji11) : Int) (of_decide_eq_true (by first | (with_reducible assumption) | assumption)) (by have h_ : ((ji11) : Int) < ((x3_1.length : Int) : Int) := of_decide_eq_true (by first | (with_reducible assumption) | assumption); first | exact h_ | (have e_ := (Kd.R_reads' HO_3.out).1; omega) | simpa using h_) (seg := [.int .i64 (wrap64 (((rd_T49 x3_1 (ji11)).f1) + 1))]) (j := 1) hcl19 hcc19 (show 2 ≤ 2 from by decide) (x' := (⟨(rd_T49 x3_1 (ji11)).f0, wrap64 (((rd_T49 x3_1 (ji11)).f1) + 1)⟩ : S49)) (k49_mkM _ _ _ (⟨(rd_T49 x3_1 (ji11)).f0, wrap64 (((rd_T49 x3_1 (ji11)).f1) + 1)⟩ : S49) ) (fun _ hk => hk))); (try (have hx19_1 := hcc19 1 _ rfl)); (try (try simp only [show (k49).sz = 2 from rfl, Nat.mul_one, Nat.add_zero] at hx19_1)); (try (have hf19_1 := hfr19 1)); (try (try simp only [show (k49).sz = 2 from rfl, Nat.mul_one, Nat.add_zero] at hf19_1)); (try (clear hcl19 hcc19 hfr19 hM19)))); refine store_event (t := 3) (p := 48) (v := ?vo_w20) (w1 := (w17.setCell ⟨go15, ((ji11) : Int).toNat * 2 + 1, none⟩ (.int .i64 (wrap64 (((rd_T49 x3_1 (ji11)).f1) + 1))))) ?hg ?ho ?hn ?hr ?_; (case ho => rfl); (case hg => rfl); (case hn => rfl); (case hr => first | (go_simp; done) | (go_simp; rfl)); intro w20 hw; have hg : w17.grownBy w20 (some go15) := (by rw [hw]; exact HP19.2); have hp_ : Kd.R k49 49 w20 w.heap.size (fun _ => True) (.slice (some ⟨go15, 0, none⟩) x3_1.length co18) y196 := (by rw [hw, Ny196.out]; exact HP19.1); clear HP19; have n0_ := A0_ (hp_); have n1_ := A0_ (blk_grown (g := gb190) (o := .cells #[.int .i64 a0_0, .slice A0_1 l0_1.length c0_1] 26 (0, 0)) (by (with_reducible repeat (first | refine Bn_ ?_ _ | refine Bd_ ?_ | refine Ba_ ?_ _)); exact BK190.out) hg (Kd.R_ne HO_3.out BK190.out (by decide))); have n2_ := A0_ ((by rw [hw]; exact Bs_ (HB.out) GB15.out : Below w.heap.size w w20)); clear HO_3 BK190 HB; have HO_3 := n0_; have BK190 := n1_; have HB := n2_; clear n0_ n1_ n2_ hg hw hp_)))
          go_roundg k1
          case measure => have := HK1.out; omega
          case rel => exact ⟨(y196), (wrap64 (x4_1 + 1)), (by first | rfl | (simp; done) | (simp [*]; done)), H', ⟨by have := HK1.out; omega⟩, ⟨by (with_reducible repeat (first | apply Ra_ | apply Rn_ | apply Rd_)); exact HO_3.out⟩, ⟨by (with_reducible repeat (first | refine Bn_ ?_ _ | refine Bd_ ?_ | refine Ba_ ?_ _)); exact BK190.out⟩, ⟨by repeat (first | (with_reducible first | exact HB.out | apply Al_ | apply Dn_ | apply D1_ | refine Bs_ ?_ GE190.out) | exact HB.out)⟩⟩
         ·
          rw [if_neg c14] at H
          have c14b0 : ((wrap64 (((rd_T49 x3_1 (ji11)).f0) + ((rd_T49 x3_1 (ji11)).f1))) == x4_1) = false := beq_eq_false_iff_ne.mpr c14
          have c14b1 : ((wrap64 (((rd_T49 x3_1 (ji11)).f0) + ((rd_T49 x3_1 (ji11)).f1))) != x4_1) = true := bne_iff_ne.mpr c14
          by_cases c21 : x3_1.length < 8796093022208
          ·
           rw [if_pos c21] at H
           have LMc21 := A0_ c21
           clear c21
           obtain ⟨y197, hy197⟩ : ∃ y_ : List (S49), y_ = (x3_1 ++ [(⟨x4_1, 1⟩ : S49)]) := ⟨_, rfl⟩
           replace H : (r02Extents.l0 k1 y197 (wrap64 (x4_1 + 1)) a0_0 l0_1) = some r := by first | (rw [hy197]; with_reducible exact H) | (have H2_ := (Option.bind_some _ _).symm.trans H; rw [hy197]; with_reducible exact H2_) | (have H2_ := (Option.bind_some _ _).symm.trans H; with_reducible exact H2_) | with_reducible exact H | (rw [hy197]; exact H) | exact H
           have Ny197 := A0_ hy197
           clear hy197
           have H' := A0_ H
           clear H
           have hcz22_0 : wr.cell? ⟨gb190, 0, none⟩ = some (.int .i64 a0_0) := (Bc_ BK190.out 0).trans rfl
           have hcz22_1 : wr.cell? ⟨gb190, 1, none⟩ = some (.slice A0_1 l0_1.length c0_1) := (Bc_ BK190.out 1).trans rfl
           have hfz22_0 := Bf_ BK190.out 0
           have hfz22_1 := Bf_ BK190.out 1
           go_wp2_with (first | (go_at_call 52; (with_reducible refine (r02bit.calls a0_0 _ _ l0_1 x4_1 true _ ?side1 ?side2 A8.out).mono ?_); (case side1 => repeat (first | exact (Kd.C_below HR0_1.out HB.out) | (with_reducible first | refine Kd.C_alloc ?_ _ | refine Kd.C_drewN ?_ _ | refine Kd.C_drew ?_))); (case side2 => exact HC0_1.out); rintro e w23 ⟨rfl, hb⟩; have n0_ := A0_ (Kd.R_below (by (with_reducible repeat (first | apply Ra_ | apply Rn_ | apply Rd_)); exact HO_3.out) hb); have n1_ := A0_ (blk_below (g := gb190) (o := .cells #[.int .i64 a0_0, .slice A0_1 l0_1.length c0_1] 26 (0, 0)) (by (with_reducible repeat (first | refine Bn_ ?_ _ | refine Bd_ ?_ | refine Ba_ ?_ _)); exact BK190.out) hb); have n2_ := A0_ (below_step (by repeat (first | (with_reducible first | exact HB.out | apply Al_ | apply Dn_ | apply D1_ | refine Bs_ ?_ GE190.out) | exact HB.out)) hb); clear HO_3 BK190 HB; have HO_3 := n0_; have BK190 := n1_; have HB := n2_; clear n0_ n1_ n2_; (try clear hb); (try clear hb2); (try clear hk); (try clear hi); obtain ⟨Ao24, co24, eo24⟩ := Kd.R_slice HO_3.out; subst eo24; have p193 : 0 ≤ ((ji11) : Int) := of_decide_eq_true (by first | (with_reducible assumption) | assumption); have q193 : (ji11) < (x3_1.length : Int) := of_decide_eq_true (by first | (with_reducible assumption) | assumption); obtain ⟨ad193, e193, hx193_0, hx193_1⟩ := at_T49 (Kd.R_reads' HO_3.out).2.2 (ji11) p193 q193; cases e193; replace p193 := eq_true p193; replace q193 := eq_true q193; have p194 : 0 ≤ ((ji11) : Int) := of_decide_eq_true (by first | (with_reducible assumption) | assumption); have q194 : (ji11) < (x3_1.length : Int) := of_decide_eq_true (by first | (with_reducible assumption) | assumption); obtain ⟨ad194, e194, hx194_0, hx194_1⟩ := at_T49 (Kd.R_reads' HO_3.out).2.2 (ji11) p194 q194; obtain rfl : ad193 = ad194 := (by injection e194); replace p194 := eq_true p194; replace q194 := eq_true q194) | ((with_reducible refine gate_builtin (b := .append) (xs := #[.tmp 49, .tmp 52]) rfl ?_); at_builtin; refine Kd.R_append k49 (w0 := w) w.heap.size rfl (.tmp 49) (.tmp 52) 56 49 (.agg #[(.int .i64 0), (.int .i64 0)]) 16 rfl Tryd.underlying56 info49 rfl (by decide) (by omega) (.slice (some ad193) x3_1.length co24) x3_1 (⟨x4_1, 1⟩ : S49) [.int .i64 x4_1, .int .i64 1] (fun _ => True) (fun _ => False) rfl rfl ?aP (fun _ hk => hk.elim) ?aF ?aO ?aB ?aS ?aL ?_; (case aP => exact k49_mkM _ _ _ (⟨x4_1, 1⟩ : S49)); (case aB => exact (by repeat (first | (with_reducible first | exact HB.out | apply Al_ | apply Dn_ | apply D1_ | refine Bs_ ?_ GE190.out) | exact HB.out))); (case aF => exact (fun _ _ => trivial)); (case aO => exact (by (with_reducible repeat (first | apply Ra_ | apply Rn_ | apply Rd_)); exact HO_3.out)); (case aS => exact (below_size (by repeat (first | (with_reducible first | exact HB.out | apply Al_ | apply Dn_ | apply D1_ | refine Bs_ ?_ GE190.out) | exact HB.out)))); (case aL => have := LMc21.out; omega); intro v198 w25 ho hb hg hat; rw [← Ny197.out] at ho; have n0_ := A0_ (blk_grown (g := gb190) (o := .cells #[.int .i64 a0_0, .slice A0_1 l0_1.length c0_1] 26 (0, 0)) (by (with_reducible repeat (first | refine Bn_ ?_ _ | refine Bd_ ?_ | refine Ba_ ?_ _)); exact BK190.out) hg (Kd.R_ne HO_3.out BK190.out (by decide))); have n1_ := A0_ (hb); have n2_ := A0_ (ho); clear BK190 HB HO_3; have BK190 := n0_; have HB := n1_; have HO199 := n2_; clear n0_ n1_ n2_ ho hb hg hat))
           repeat (go_quiet (first | (go_at_call 52; (with_reducible refine (r02bit.calls a0_0 _ _ l0_1 x4_1 true _ ?side1 ?side2 A8.out).mono ?_); (case side1 => repeat (first | exact (Kd.C_below HR0_1.out HB.out) | (with_reducible first | refine Kd.C_alloc ?_ _ | refine Kd.C_drewN ?_ _ | refine Kd.C_drew ?_))); (case side2 => exact HC0_1.out); rintro e w23 ⟨rfl, hb⟩; have n0_ := A0_ (Kd.R_below (by (with_reducible repeat (first | apply Ra_ | apply Rn_ | apply Rd_)); exact HO_3.out) hb); have n1_ := A0_ (blk_below (g := gb190) (o := .cells #[.int .i64 a0_0, .slice A0_1 l0_1.length c0_1] 26 (0, 0)) (by (with_reducible repeat (first | refine Bn_ ?_ _ | refine Bd_ ?_ | refine Ba_ ?_ _)); exact BK190.out) hb); have n2_ := A0_ (below_step (by repeat (first | (with_reducible first | exact HB.out | apply Al_ | apply Dn_ | apply D1_ | refine Bs_ ?_ GE190.out) | exact HB.out)) hb); clear HO_3 BK190 HB; have HO_3 := n0_; have BK190 := n1_; have HB := n2_; clear n0_ n1_ n2_; (try clear hb); (try clear hb2); (try clear hk); (try clear hi); obtain ⟨Ao24, co24, eo24⟩ := Kd.R_slice HO_3.out; subst eo24; have p193 : 0 ≤ ((ji11) : Int) := of_decide_eq_true (by first | (with_reducible assumption) | assumption); have q193 : (ji11) < (x3_1.length : Int) := of_decide_eq_true (by first | (with_reducible assumption) | assumption); obtain ⟨ad193, e193, hx193_0, hx193_1⟩ := at_T49 (Kd.R_reads' HO_3.out).2.2 (ji11) p193 q193; cases e193; replace p193 := eq_true p193; replace q193 := eq_true q193; have p194 : 0 ≤ ((ji11) : Int) := of_decide_eq_true (by first | (with_reducible assumption) | assumption); have q194 : (ji11) < (x3_1.length : Int) := of_decide_eq_true (by first | (with_reducible assumption) | assumption); obtain ⟨ad194, e194, hx194_0, hx194_1⟩ := at_T49 (Kd.R_reads' HO_3.out).2.2 (ji11) p194 q194; obtain rfl : ad193 = ad194 := (by injection e194); replace p194 := eq_true p194; replace q194 := eq_true q194) | ((with_reducible refine gate_builtin (b := .append) (xs := #[.tmp 49, .tmp 52]) rfl ?_); at_builtin; refine Kd.R_append k49 (w0 := w) w.heap.size rfl (.tmp 49) (.tmp 52) 56 49 (.agg #[(.int .i64 0), (.int .i64 0)]) 16 rfl Tryd.underlying56 info49 rfl (by decide) (by omega) (.slice (some ad193) x3_1.length co24) x3_1 (⟨x4_1, 1⟩ : S49) [.int .i64 x4_1, .int .i64 1] (fun _ => True) (fun _ => False) rfl rfl ?aP (fun _ hk => hk.elim) ?aF ?aO ?aB ?aS ?aL ?_; (case aP => exact k49_mkM _ _ _ (⟨x4_1, 1⟩ : S49)); (case aB => exact (by repeat (first | (with_reducible first | exact HB.out | apply Al_ | apply Dn_ | apply D1_ | refine Bs_ ?_ GE190.out) | exact HB.out))); (case aF => exact (fun _ _ => trivial)); (case aO => exact (by (with_reducible repeat (first | apply Ra_ | apply Rn_ | apply Rd_)); exact HO_3.out)); (case aS => exact (below_size (by repeat (first | (with_reducible first | exact HB.out | apply Al_ | apply Dn_ | apply D1_ | refine Bs_ ?_ GE190.out) | exact HB.out)))); (case aL => have := LMc21.out; omega); intro v198 w25 ho hb hg hat; rw [← Ny197.out] at ho; have n0_ := A0_ (blk_grown (g := gb190) (o := .cells #[.int .i64 a0_0, .slice A0_1 l0_1.length c0_1] 26 (0, 0)) (by (with_reducible repeat (first | refine Bn_ ?_ _ | refine Bd_ ?_ | refine Ba_ ?_ _)); exact BK190.out) hg (Kd.R_ne HO_3.out BK190.out (by decide))); have n1_ := A0_ (hb); have n2_ := A0_ (ho); clear BK190 HB HO_3; have BK190 := n0_; have HB := n1_; have HO199 := n2_; clear n0_ n1_ n2_ ho hb hg hat)); try go_wp2_with (first | (go_at_call 52; (with_reducible refine (r02bit.calls a0_0 _ _ l0_1 x4_1 true _ ?side1 ?side2 A8.out).mono ?_); (case side1 => repeat (first | exact (Kd.C_below HR0_1.out HB.out) | (with_reducible first | refine Kd.C_alloc ?_ _ | refine Kd.C_drewN ?_ _ | refine Kd.C_drew ?_))); (case side2 => exact HC0_1.out); rintro e w23 ⟨rfl, hb⟩; have n0_ := A0_ (Kd.R_below (by (with_reducible repeat (first | apply Ra_ | apply Rn_ | apply Rd_)); exact HO_3.out) hb); have n1_ := A0_ (blk_below (g := gb190) (o := .cells #[.int .i64 a0_0, .slice A0_1 l0_1.length c0_1] 26 (0, 0)) (by (with_reducible repeat (first | refine Bn_ ?_ _ | refine Bd_ ?_ | refine Ba_ ?_ _)); exact BK190.out) hb); have n2_ := A0_ (below_step (by repeat (first | (with_reducible first | exact HB.out | apply Al_ | apply Dn_ | apply D1_ | refine Bs_ ?_ GE190.out) | exact HB.out)) hb); clear HO_3 BK190 HB; have HO_3 := n0_; have BK190 := n1_; have HB := n2_; clear n0_ n1_ n2_; (try clear hb); (try clear hb2); (try clear hk); (try clear hi); obtain ⟨Ao24, co24, eo24⟩ := Kd.R_slice HO_3.out; subst eo24; have p193 : 0 ≤ ((ji11) : Int) := of_decide_eq_true (by first | (with_reducible assumption) | assumption); have q193 : (ji11) < (x3_1.length : Int) := of_decide_eq_true (by first | (with_reducible assumption) | assumption); obtain ⟨ad193, e193, hx193_0, hx193_1⟩ := at_T49 (Kd.R_reads' HO_3.out).2.2 (ji11) p193 q193; cases e193; replace p193 := eq_true p193; replace q193 := eq_true q193; have p194 : 0 ≤ ((ji11) : Int) := of_decide_eq_true (by first | (with_reducible assumption) | assumption); have q194 : (ji11) < (x3_1.length : Int) := of_decide_eq_true (by first | (with_reducible assumption) | assumption); obtain ⟨ad194, e194, hx194_0, hx194_1⟩ := at_T49 (Kd.R_reads' HO_3.out).2.2 (ji11) p194 q194; obtain rfl : ad193 = ad194 := (by injection e194); replace p194 := eq_true p194; replace q194 := eq_true q194) | ((with_reducible refine gate_builtin (b := .append) (xs := #[.tmp 49, .tmp 52]) rfl ?_); at_builtin; refine Kd.R_append k49 (w0 := w) w.heap.size rfl (.tmp 49) (.tmp 52) 56 49 (.agg #[(.int .i64 0), (.int .i64 0)]) 16 rfl Tryd.underlying56 info49 rfl (by decide) (by omega) (.slice (some ad193) x3_1.length co24) x3_1 (⟨x4_1, 1⟩ : S49) [.int .i64 x4_1, .int .i64 1] (fun _ => True) (fun _ => False) rfl rfl ?aP (fun _ hk => hk.elim) ?aF ?aO ?aB ?aS ?aL ?_; (case aP => exact k49_mkM _ _ _ (⟨x4_1, 1⟩ : S49)); (case aB => exact (by repeat (first | (with_reducible first | exact HB.out | apply Al_ | apply Dn_ | apply D1_ | refine Bs_ ?_ GE190.out) | exact HB.out))); (case aF => exact (fun _ _ => trivial)); (case aO => exact (by (with_reducible repeat (first | apply Ra_ | apply Rn_ | apply Rd_)); exact HO_3.out)); (case aS => exact (below_size (by repeat (first | (with_reducible first | exact HB.out | apply Al_ | apply Dn_ | apply D1_ | refine Bs_ ?_ GE190.out) | exact HB.out)))); (case aL => have := LMc21.out; omega); intro v198 w25 ho hb hg hat; rw [← Ny197.out] at ho; have n0_ := A0_ (blk_grown (g := gb190) (o := .cells #[.int .i64 a0_0, .slice A0_1 l0_1.length c0_1] 26 (0, 0)) (by (with_reducible repeat (first | refine Bn_ ?_ _ | refine Bd_ ?_ | refine Ba_ ?_ _)); exact BK190.out) hg (Kd.R_ne HO_3.out BK190.out (by decide))); have n1_ := A0_ (hb); have n2_ := A0_ (ho); clear BK190 HB HO_3; have BK190 := n0_; have HB := n1_; have HO199 := n2_; clear n0_ n1_ n2_ ho hb hg hat)))
           go_roundg k1
           case measure => have := HK1.out; omega
           case rel => exact ⟨(y197), (wrap64 (x4_1 + 1)), (by first | rfl | (simp; done) | (simp [*]; done)), H', ⟨by have := HK1.out; omega⟩, ⟨by (with_reducible repeat (first | apply Ra_ | apply Rn_ | apply Rd_)); exact HO199.out⟩, ⟨by (with_reducible repeat (first | refine Bn_ ?_ _ | refine Bd_ ?_ | refine Ba_ ?_ _)); exact BK190.out⟩, ⟨by repeat (first | (with_reducible first | exact HB.out | apply Al_ | apply Dn_ | apply D1_ | refine Bs_ ?_ GE190.out) | exact HB.out)⟩⟩
          ·
           rw [if_neg c21] at H
           exact absurd H (by simp)
        ·
         rw [if_neg c13] at H
         exact absurd H (by simp)
       ·
        rw [if_neg c12] at H
        exact absurd H (by simp)
      ·
       rw [if_neg c10] at H
       have c10b0 : decide (0 < (x3_1.length : Int)) = false := decide_eq_false c10
       have c10b1 : decide (0 < x3_1.length) = false := decide_eq_false (by omega)
       clear c10
       by_cases c26 : x3_1.length < 8796093022208
       ·
        rw [if_pos c26] at H
        have LMc26 := A0_ c26
        clear c26
        obtain ⟨y200, hy200⟩ : ∃ y_ : List (S49), y_ = (x3_1 ++ [(⟨x4_1, 1⟩ : S49)]) := ⟨_, rfl⟩
        replace H : (r02Extents.l0 k1 y200 (wrap64 (x4_1 + 1)) a0_0 l0_1) = some r := by first | (rw [hy200]; with_reducible exact H) | (have H2_ := (Option.bind_some _ _).symm.trans H; rw [hy200]; with_reducible exact H2_) | (have H2_ := (Option.bind_some _ _).symm.trans H; with_reducible exact H2_) | with_reducible exact H | (rw [hy200]; exact H) | exact H
        have Ny200 := A0_ hy200
        clear hy200
        have H' := A0_ H
        clear H
        have hcz27_0 : wr.cell? ⟨gb190, 0, none⟩ = some (.int .i64 a0_0) := (Bc_ BK190.out 0).trans rfl
        have hcz27_1 : wr.cell? ⟨gb190, 1, none⟩ = some (.slice A0_1 l0_1.length c0_1) := (Bc_ BK190.out 1).trans rfl
        have hfz27_0 := Bf_ BK190.out 0
        have hfz27_1 := Bf_ BK190.out 1
        go_wp2_with (first | (go_at_call 52; (with_reducible refine (r02bit.calls a0_0 _ _ l0_1 x4_1 true _ ?side1 ?side2 A8.out).mono ?_); (case side1 => repeat (first | exact (Kd.C_below HR0_1.out HB.out) | (with_reducible first | refine Kd.C_alloc ?_ _ | refine Kd.C_drewN ?_ _ | refine Kd.C_drew ?_))); (case side2 => exact HC0_1.out); rintro e w28 ⟨rfl, hb⟩; have n0_ := A0_ (Kd.R_below (by (with_reducible repeat (first | apply Ra_ | apply Rn_ | apply Rd_)); exact HO_3.out) hb); have n1_ := A0_ (blk_below (g := gb190) (o := .cells #[.int .i64 a0_0, .slice A0_1 l0_1.length c0_1] 26 (0, 0)) (by (with_reducible repeat (first | refine Bn_ ?_ _ | refine Bd_ ?_ | refine Ba_ ?_ _)); exact BK190.out) hb); have n2_ := A0_ (below_step (by repeat (first | (with_reducible first | exact HB.out | apply Al_ | apply Dn_ | apply D1_ | refine Bs_ ?_ GE190.out) | exact HB.out)) hb); clear HO_3 BK190 HB; have HO_3 := n0_; have BK190 := n1_; have HB := n2_; clear n0_ n1_ n2_; (try clear hb); (try clear hb2); (try clear hk); (try clear hi); obtain ⟨Ao29, co29, eo29⟩ := Kd.R_slice HO_3.out; subst eo29) | ((with_reducible refine gate_builtin (b := .append) (xs := #[.tmp 49, .tmp 52]) rfl ?_); at_builtin; refine Kd.R_append k49 (w0 := w) w.heap.size rfl (.tmp 49) (.tmp 52) 56 49 (.agg #[(.int .i64 0), (.int .i64 0)]) 16 rfl Tryd.underlying56 info49 rfl (by decide) (by omega) (.slice Ao29 x3_1.length co29) x3_1 (⟨x4_1, 1⟩ : S49) [.int .i64 x4_1, .int .i64 1] (fun _ => True) (fun _ => False) rfl rfl ?aP (fun _ hk => hk.elim) ?aF ?aO ?aB ?aS ?aL ?_; (case aP => exact k49_mkM _ _ _ (⟨x4_1, 1⟩ : S49)); (case aB => exact (by repeat (first | (with_reducible first | exact HB.out | apply Al_ | apply Dn_ | apply D1_ | refine Bs_ ?_ GE190.out) | exact HB.out))); (case aF => exact (fun _ _ => trivial)); (case aO => exact (by (with_reducible repeat (first | apply Ra_ | apply Rn_ | apply Rd_)); exact HO_3.out)); (case aS => exact (below_size (by repeat (first | (with_reducible first | exact HB.out | apply Al_ | apply Dn_ | apply D1_ | refine Bs_ ?_ GE190.out) | exact HB.out)))); (case aL => have := LMc26.out; omega); intro v201 w30 ho hb hg hat; rw [← Ny200.out] at ho; have n0_ := A0_ (blk_grown (g := gb190) (o := .cells #[.int .i64 a0_0, .slice A0_1 l0_1.length c0_1] 26 (0, 0)) (by (with_reducible repeat (first | refine Bn_ ?_ _ | refine Bd_ ?_ | refine Ba_ ?_ _)); exact BK190.out) hg (Kd.R_ne HO_3.out BK190.out (by decide))); have n1_ := A0_ (hb); have n2_ := A0_ (ho); clear BK190 HB HO_3; have BK190 := n0_; have HB := n1_; have HO202 := n2_; clear n0_ n1_ n2_ ho hb hg hat))
        repeat (go_quiet (first | (go_at_call 52; (with_reducible refine (r02bit.calls a0_0 _ _ l0_1 x4_1 true _ ?side1 ?side2 A8.out).mono ?_); (case side1 => repeat (first | exact (Kd.C_below HR0_1.out HB.out) | (with_reducible first | refine Kd.C_alloc ?_ _ | refine Kd.C_drewN ?_ _ | refine Kd.C_drew ?_))); (case side2 => exact HC0_1.out); rintro e w28 ⟨rfl, hb⟩; have n0_ := A0_ (Kd.R_below (by (with_reducible repeat (first | apply Ra_ | apply Rn_ | apply Rd_)); exact HO_3.out) hb); have n1_ := A0_ (blk_below (g := gb190) (o := .cells #[.int .i64 a0_0, .slice A0_1 l0_1.length c0_1] 26 (0, 0)) (by (with_reducible repeat (first | refine Bn_ ?_ _ | refine Bd_ ?_ | refine Ba_ ?_ _)); exact BK190.out) hb); have n2_ := A0_ (below_step (by repeat (first | (with_reducible first | exact HB.out | apply Al_ | apply Dn_ | apply D1_ | refine Bs_ ?_ GE190.out) | exact HB.out)) hb); clear HO_3 BK190 HB; have HO_3 := n0_; have BK190 := n1_; have HB := n2_; clear n0_ n1_ n2_; (try clear hb); (try clear hb2); (try clear hk); (try clear hi); obtain ⟨Ao29, co29, eo29⟩ := Kd.R_slice HO_3.out; subst eo29) | ((with_reducible refine gate_builtin (b := .append) (xs := #[.tmp 49, .tmp 52]) rfl ?_); at_builtin; refine Kd.R_append k49 (w0 := w) w.heap.size rfl (.tmp 49) (.tmp 52) 56 49 (.agg #[(.int .i64 0), (.int .i64 0)]) 16 rfl Tryd.underlying56 info49 rfl (by decide) (by omega) (.slice Ao29 x3_1.length co29) x3_1 (⟨x4_1, 1⟩ : S49) [.int .i64 x4_1, .int .i64 1] (fun _ => True) (fun _ => False) rfl rfl ?aP (fun _ hk => hk.elim) ?aF ?aO ?aB ?aS ?aL ?_; (case aP => exact k49_mkM _ _ _ (⟨x4_1, 1⟩ : S49)); (case aB => exact (by repeat (first | (with_reducible first | exact HB.out | apply Al_ | apply Dn_ | apply D1_ | refine Bs_ ?_ GE190.out) | exact HB.out))); (case aF => exact (fun _ _ => trivial)); (case aO => exact (by (with_reducible repeat (first | apply Ra_ | apply Rn_ | apply Rd_)); exact HO_3.out)); (case aS => exact (below_size (by repeat (first | (with_reducible first | exact HB.out | apply Al_ | apply Dn_ | apply D1_ | refine Bs_ ?_ GE190.out) | exact HB.out)))); (case aL => have := LMc26.out; omega); intro v201 w30 ho hb hg hat; rw [← Ny200.out] at ho; have n0_ := A0_ (blk_grown (g := gb190) (o := .cells #[.int .i64 a0_0, .slice A0_1 l0_1.length c0_1] 26 (0, 0)) (by (with_reducible repeat (first | refine Bn_ ?_ _ | refine Bd_ ?_ | refine Ba_ ?_ _)); exact BK190.out) hg (Kd.R_ne HO_3.out BK190.out (by decide))); have n1_ := A0_ (hb); have n2_ := A0_ (ho); clear BK190 HB HO_3; have BK190 := n0_; have HB := n1_; have HO202 := n2_; clear n0_ n1_ n2_ ho hb hg hat)); try go_wp2_with (first | (go_at_call 52; (with_reducible refine (r02bit.calls a0_0 _ _ l0_1 x4_1 true _ ?side1 ?side2 A8.out).mono ?_); (case side1 => repeat (first | exact (Kd.C_below HR0_1.out HB.out) | (with_reducible first | refine Kd.C_alloc ?_ _ | refine Kd.C_drewN ?_ _ | refine Kd.C_drew ?_))); (case side2 => exact HC0_1.out); rintro e w28 ⟨rfl, hb⟩; have n0_ := A0_ (Kd.R_below (by (with_reducible repeat (first | apply Ra_ | apply Rn_ | apply Rd_)); exact HO_3.out) hb); have n1_ := A0_ (blk_below (g := gb190) (o := .cells #[.int .i64 a0_0, .slice A0_1 l0_1.length c0_1] 26 (0, 0)) (by (with_reducible repeat (first | refine Bn_ ?_ _ | refine Bd_ ?_ | refine Ba_ ?_ _)); exact BK190.out) hb); have n2_ := A0_ (below_step (by repeat (first | (with_reducible first | exact HB.out | apply Al_ | apply Dn_ | apply D1_ | refine Bs_ ?_ GE190.out) | exact HB.out)) hb); clear HO_3 BK190 HB; have HO_3 := n0_; have BK190 := n1_; have HB := n2_; clear n0_ n1_ n2_; (try clear hb); (try clear hb2); (try clear hk); (try clear hi); obtain ⟨Ao29, co29, eo29⟩ := Kd.R_slice HO_3.out; subst eo29) | ((with_reducible refine gate_builtin (b := .append) (xs := #[.tmp 49, .tmp 52]) rfl ?_); at_builtin; refine Kd.R_append k49 (w0 := w) w.heap.size rfl (.tmp 49) (.tmp 52) 56 49 (.agg #[(.int .i64 0), (.int .i64 0)]) 16 rfl Tryd.underlying56 info49 rfl (by decide) (by omega) (.slice Ao29 x3_1.length co29) x3_1 (⟨x4_1, 1⟩ : S49) [.int .i64 x4_1, .int .i64 1] (fun _ => True) (fun _ => False) rfl rfl ?aP (fun _ hk => hk.elim) ?aF ?aO ?aB ?aS ?aL ?_; (case aP => exact k49_mkM _ _ _ (⟨x4_1, 1⟩ : S49)); (case aB => exact (by repeat (first | (with_reducible first | exact HB.out | apply Al_ | apply Dn_ | apply D1_ | refine Bs_ ?_ GE190.out) | exact HB.out))); (case aF => exact (fun _ _ => trivial)); (case aO => exact (by (with_reducible repeat (first | apply Ra_ | apply Rn_ | apply Rd_)); exact HO_3.out)); (case aS => exact (below_size (by repeat (first | (with_reducible first | exact HB.out | apply Al_ | apply Dn_ | apply D1_ | refine Bs_ ?_ GE190.out) | exact HB.out)))); (case aL => have := LMc26.out; omega); intro v201 w30 ho hb hg hat; rw [← Ny200.out] at ho; have n0_ := A0_ (blk_grown (g := gb190) (o := .cells #[.int .i64 a0_0, .slice A0_1 l0_1.length c0_1] 26 (0, 0)) (by (with_reducible repeat (first | refine Bn_ ?_ _ | refine Bd_ ?_ | refine Ba_ ?_ _)); exact BK190.out) hg (Kd.R_ne HO_3.out BK190.out (by decide))); have n1_ := A0_ (hb); have n2_ := A0_ (ho); clear BK190 HB HO_3; have BK190 := n0_; have HB := n1_; have HO202 := n2_; clear n0_ n1_ n2_ ho hb hg hat)))
        go_roundg k1
        case measure => have := HK1.out; omega
        case rel => exact ⟨(y200), (wrap64 (x4_1 + 1)), (by first | rfl | (simp; done) | (simp [*]; done)), H', ⟨by have := HK1.out; omega⟩, ⟨by (with_reducible repeat (first | apply Ra_ | apply Rn_ | apply Rd_)); exact HO202.out⟩, ⟨by (with_reducible repeat (first | refine Bn_ ?_ _ | refine Bd_ ?_ | refine Ba_ ?_ _)); exact BK190.out⟩, ⟨by repeat (first | (with_reducible first | exact HB.out | apply Al_ | apply Dn_ | apply D1_ | refine Bs_ ?_ GE190.out) | exact HB.out)⟩⟩
       ·
        rw [if_neg c26] at H
        exact absurd H (by simp)
     ·
      replace c9 := Bool.eq_false_iff.mpr c9
      subst c9
      have H1 : (r02Extents.l0 k1 x3_1 (wrap64 (x4_1 + 1)) a0_0 l0_1) = some r := by rw [if_neg (show ¬ (false = true) by decide)] at H; exact H
      clear H
      have H := H1
      clear H1
      have H' := A0_ H
      clear H
      have hcz31_0 : wr.cell? ⟨gb190, 0, none⟩ = some (.int .i64 a0_0) := (Bc_ BK190.out 0).trans rfl
      have hcz31_1 : wr.cell? ⟨gb190, 1, none⟩ = some (.slice A0_1 l0_1.length c0_1) := (Bc_ BK190.out 1).trans rfl
      have hfz31_0 := Bf_ BK190.out 0
      have hfz31_1 := Bf_ BK190.out 1
      go_wp2_with (first | (go_at_call 52; (with_reducible refine (r02bit.calls a0_0 _ _ l0_1 x4_1 false _ ?side1 ?side2 A8.out).mono ?_); (case side1 => repeat (first | exact (Kd.C_below HR0_1.out HB.out) | (with_reducible first | refine Kd.C_alloc ?_ _ | refine Kd.C_drewN ?_ _ | refine Kd.C_drew ?_))); (case side2 => exact HC0_1.out); rintro e w32 ⟨rfl, hb⟩; have n0_ := A0_ (Kd.R_below (by (with_reducible repeat (first | apply Ra_ | apply Rn_ | apply Rd_)); exact HO_3.out) hb); have n1_ := A0_ (blk_below (g := gb190) (o := .cells #[.int .i64 a0_0, .slice A0_1 l0_1.length c0_1] 26 (0, 0)) (by (with_reducible repeat (first | refine Bn_ ?_ _ | refine Bd_ ?_ | refine Ba_ ?_ _)); exact BK190.out) hb); have n2_ := A0_ (below_step (by repeat (first | (with_reducible first | exact HB.out | apply Al_ | apply Dn_ | apply D1_ | refine Bs_ ?_ GE190.out) | exact HB.out)) hb); clear HO_3 BK190 HB; have HO_3 := n0_; have BK190 := n1_; have HB := n2_; clear n0_ n1_ n2_; (try clear hb); (try clear hb2); (try clear hk); (try clear hi)))
      repeat (go_quiet (first | (go_at_call 52; (with_reducible refine (r02bit.calls a0_0 _ _ l0_1 x4_1 false _ ?side1 ?side2 A8.out).mono ?_); (case side1 => repeat (first | exact (Kd.C_below HR0_1.out HB.out) | (with_reducible first | refine Kd.C_alloc ?_ _ | refine Kd.C_drewN ?_ _ | refine Kd.C_drew ?_))); (case side2 => exact HC0_1.out); rintro e w32 ⟨rfl, hb⟩; have n0_ := A0_ (Kd.R_below (by (with_reducible repeat (first | apply Ra_ | apply Rn_ | apply Rd_)); exact HO_3.out) hb); have n1_ := A0_ (blk_below (g := gb190) (o := .cells #[.int .i64 a0_0, .slice A0_1 l0_1.length c0_1] 26 (0, 0)) (by (with_reducible repeat (first | refine Bn_ ?_ _ | refine Bd_ ?_ | refine Ba_ ?_ _)); exact BK190.out) hb); have n2_ := A0_ (below_step (by repeat (first | (with_reducible first | exact HB.out | apply Al_ | apply Dn_ | apply D1_ | refine Bs_ ?_ GE190.out) | exact HB.out)) hb); clear HO_3 BK190 HB; have HO_3 := n0_; have BK190 := n1_; have HB := n2_; clear n0_ n1_ n2_; (try clear hb); (try clear hb2); (try clear hk); (try clear hi))); try go_wp2_with (first | (go_at_call 52; (with_reducible refine (r02bit.calls a0_0 _ _ l0_1 x4_1 false _ ?side1 ?side2 A8.out).mono ?_); (case side1 => repeat (first | exact (Kd.C_below HR0_1.out HB.out) | (with_reducible first | refine Kd.C_alloc ?_ _ | refine Kd.C_drewN ?_ _ | refine Kd.C_drew ?_))); (case side2 => exact HC0_1.out); rintro e w32 ⟨rfl, hb⟩; have n0_ := A0_ (Kd.R_below (by (with_reducible repeat (first | apply Ra_ | apply Rn_ | apply Rd_)); exact HO_3.out) hb); have n1_ := A0_ (blk_below (g := gb190) (o := .cells #[.int .i64 a0_0, .slice A0_1 l0_1.length c0_1] 26 (0, 0)) (by (with_reducible repeat (first | refine Bn_ ?_ _ | refine Bd_ ?_ | refine Ba_ ?_ _)); exact BK190.out) hb); have n2_ := A0_ (below_step (by repeat (first | (with_reducible first | exact HB.out | apply Al_ | apply Dn_ | apply D1_ | refine Bs_ ?_ GE190.out) | exact HB.out)) hb); clear HO_3 BK190 HB; have HO_3 := n0_; have BK190 := n1_; have HB := n2_; clear n0_ n1_ n2_; (try clear hb); (try clear hb2); (try clear hk); (try clear hi))))
      go_roundg k1
      case measure => have := HK1.out; omega
      case rel => exact ⟨(x3_1), (wrap64 (x4_1 + 1)), (by first | rfl | (simp; done) | (simp [*]; done)), H', ⟨by have := HK1.out; omega⟩, ⟨by (with_reducible repeat (first | apply Ra_ | apply Rn_ | apply Rd_)); exact HO_3.out⟩, ⟨by (with_reducible repeat (first | refine Bn_ ?_ _ | refine Bd_ ?_ | refine Ba_ ?_ _)); exact BK190.out⟩, ⟨by repeat (first | (with_reducible first | exact HB.out | apply Al_ | apply Dn_ | apply D1_ | refine Bs_ ?_ GE190.out) | exact HB.out)⟩⟩
    ·
     rw [if_neg c7] at H
     have c7b0 : decide (x4_1 < a0_0) = false := decide_eq_false c7
     clear c7
     obtain rfl := Option.some.inj H
     have hcz33_0 : wr.cell? ⟨gb190, 0, none⟩ = some (.int .i64 a0_0) := (Bc_ BK190.out 0).trans rfl
     have hcz33_1 : wr.cell? ⟨gb190, 1, none⟩ = some (.slice A0_1 l0_1.length c0_1) := (Bc_ BK190.out 1).trans rfl
     have hfz33_0 := Bf_ BK190.out 0
     have hfz33_1 := Bf_ BK190.out 1
     go_wp2
     repeat (go_quiet (fail); try go_wp2)
     go_ret
     exact ⟨_, by first | rfl | (simp [errW_none, errW_some] <;> rfl) | (simp [*, errW_none, errW_some] <;> rfl), by (with_reducible repeat (first | apply Ra_ | apply Rn_ | apply Rd_)); exact HO_3.out, by repeat (first | (with_reducible first | exact HB.out | apply Al_ | apply Dn_ | apply D1_ | refine Bs_ ?_ GE190.out) | exact HB.out)⟩
 ·
  rw [if_neg c3] at H
  have c3b0 : (t191 == 0) = false := beq_eq_false_iff_ne.mpr c3
  have c3b1 : (t191 != 0) = true := bne_iff_ne.mpr c3
  obtain rfl := Option.some.inj H
  go_enter Tryd.func26, Tryd.ntmps26
  go_wp2_with (first | ((with_reducible refine gate_dst (N := 1) rfl ?_); refine box_event ?hg (N := 1) ?hd (cs := #[.int .i64 a0_0, .slice A0_1 l0_1.length c0_1]) (t := 26) ?hr ?_; (case hd => rfl); (case hg => rfl); (case hr => first | (go_simp; done) | (go_simp; rfl)); intro gb190 hg w34 hbox hb; have n0_ := A0_ (below_step (by repeat (first | (with_reducible first | exact HB.out | apply Al_ | apply Dn_ | apply D1_) | exact HB.out)) hb); have n1_ := A0_ (hbox); have n2_ := A0_ ((by rw [hg]; exact (below_size (by repeat (first | (with_reducible first | exact HB.out | apply Al_ | apply Dn_ | apply D1_) | exact HB.out))) : w.heap.size ≤ gb190)); have n3_ := A0_ ((by rw [hg]; exact (below_size (by repeat (first | (with_reducible first | exact HB.out | apply Al_ | apply Dn_ | apply D1_) | exact HB.out))) : w.heap.size ≤ gb190)); clear HB; have HB := n0_; have BK190 := n1_; have GW190 := n2_; have GE190 := n3_; clear n0_ n1_ n2_ n3_ hb hbox hg; have hcz35_0 : w34.cell? ⟨gb190, 0, none⟩ = some (.int .i64 a0_0) := (Bc_ BK190.out 0).trans rfl; have hcz35_1 : w34.cell? ⟨gb190, 1, none⟩ = some (.slice A0_1 l0_1.length c0_1) := (Bc_ BK190.out 1).trans rfl; have hfz35_0 := Bf_ BK190.out 0; have hfz35_1 := Bf_ BK190.out 1) | (go_at_call 51; (with_reducible refine (r02Check.calls k a0_0 _ _ l0_1 t191 _ ?side1 ?side2 A2.out).mono ?_); (case side1 => repeat (first | exact (Kd.C_below HR0_1.out HB.out) | (with_reducible first | refine Kd.C_alloc ?_ _ | refine Kd.C_drewN ?_ _ | refine Kd.C_drew ?_))); (case side2 => exact HC0_1.out); rintro e w36 ⟨rfl, hb⟩; have n0_ := A0_ (blk_below (g := gb190) (o := .cells #[.int .i64 a0_0, .slice A0_1 l0_1.length c0_1] 26 (0, 0)) (by (with_reducible repeat (first | refine Bn_ ?_ _ | refine Bd_ ?_ | refine Ba_ ?_ _)); exact BK190.out) hb); have n1_ := A0_ (below_step (by repeat (first | (with_reducible first | exact HB.out | apply Al_ | apply Dn_ | apply D1_ | refine Bs_ ?_ GE190.out) | exact HB.out)) hb); clear BK190 HB; have BK190 := n0_; have HB := n1_; clear n0_ n1_; (try clear hb); (try clear hb2); (try clear hk); (try clear hi)))
  repeat (go_quiet (first | ((with_reducible refine gate_dst (N := 1) rfl ?_); refine box_event ?hg (N := 1) ?hd (cs := #[.int .i64 a0_0, .slice A0_1 l0_1.length c0_1]) (t := 26) ?hr ?_; (case hd => rfl); (case hg => rfl); (case hr => first | (go_simp; done) | (go_simp; rfl)); intro gb190 hg w34 hbox hb; have n0_ := A0_ (below_step (by repeat (first | (with_reducible first | exact HB.out | apply Al_ | apply Dn_ | apply D1_) | exact HB.out)) hb); have n1_ := A0_ (hbox); have n2_ := A0_ ((by rw [hg]; exact (below_size (by repeat (first | (with_reducible first | exact HB.out | apply Al_ | apply Dn_ | apply D1_) | exact HB.out))) : w.heap.size ≤ gb190)); have n3_ := A0_ ((by rw [hg]; exact (below_size (by repeat (first | (with_reducible first | exact HB.out | apply Al_ | apply Dn_ | apply D1_) | exact HB.out))) : w.heap.size ≤ gb190)); clear HB; have HB := n0_; have BK190 := n1_; have GW190 := n2_; have GE190 := n3_; clear n0_ n1_ n2_ n3_ hb hbox hg; have hcz35_0 : w34.cell? ⟨gb190, 0, none⟩ = some (.int .i64 a0_0) := (Bc_ BK190.out 0).trans rfl; have hcz35_1 : w34.cell? ⟨gb190, 1, none⟩ = some (.slice A0_1 l0_1.length c0_1) := (Bc_ BK190.out 1).trans rfl; have hfz35_0 := Bf_ BK190.out 0; have hfz35_1 := Bf_ BK190.out 1) | (go_at_call 51; (with_reducible refine (r02Check.calls k a0_0 _ _ l0_1 t191 _ ?side1 ?side2 A2.out).mono ?_); (case side1 => repeat (first | exact (Kd.C_below HR0_1.out HB.out) | (with_reducible first | refine Kd.C_alloc ?_ _ | refine Kd.C_drewN ?_ _ | refine Kd.C_drew ?_))); (case side2 => exact HC0_1.out); rintro e w36 ⟨rfl, hb⟩; have n0_ := A0_ (blk_below (g := gb190) (o := .cells #[.int .i64 a0_0, .slice A0_1 l0_1.length c0_1] 26 (0, 0)) (by (with_reducible repeat (first | refine Bn_ ?_ _ | refine Bd_ ?_ | refine Ba_ ?_ _)); exact BK190.out) hb); have n1_ := A0_ (below_step (by repeat (first | (with_reducible first | exact HB.out | apply Al_ | apply Dn_ | apply D1_ | refine Bs_ ?_ GE190.out) | exact HB.out)) hb); clear BK190 HB; have BK190 := n0_; have HB := n1_; clear n0_ n1_; (try clear hb); (try clear hb2); (try clear hk); (try clear hi))); try go_wp2_with (first | ((with_reducible refine gate_dst (N := 1) rfl ?_); refine box_event ?hg (N := 1) ?hd (cs := #[.int .i64 a0_0, .slice A0_1 l0_1.length c0_1]) (t := 26) ?hr ?_; (case hd => rfl); (case hg => rfl); (case hr => first | (go_simp; done) | (go_simp; rfl)); intro gb190 hg w34 hbox hb; have n0_ := A0_ (below_step (by repeat (first | (with_reducible first | exact HB.out | apply Al_ | apply Dn_ | apply D1_) | exact HB.out)) hb); have n1_ := A0_ (hbox); have n2_ := A0_ ((by rw [hg]; exact (below_size (by repeat (first | (with_reducible first | exact HB.out | apply Al_ | apply Dn_ | apply D1_) | exact HB.out))) : w.heap.size ≤ gb190)); have n3_ := A0_ ((by rw [hg]; exact (below_size (by repeat (first | (with_reducible first | exact HB.out | apply Al_ | apply Dn_ | apply D1_) | exact HB.out))) : w.heap.size ≤ gb190)); clear HB; have HB := n0_; have BK190 := n1_; have GW190 := n2_; have GE190 := n3_; clear n0_ n1_ n2_ n3_ hb hbox hg; have hcz35_0 : w34.cell? ⟨gb190, 0, none⟩ = some (.int .i64 a0_0) := (Bc_ BK190.out 0).trans rfl; have hcz35_1 : w34.cell? ⟨gb190, 1, none⟩ = some (.slice A0_1 l0_1.length c0_1) := (Bc_ BK190.out 1).trans rfl; have hfz35_0 := Bf_ BK190.out 0; have hfz35_1 := Bf_ BK190.out 1) | (go_at_call 51; (with_reducible refine (r02Check.calls k a0_0 _ _ l0_1 t191 _ ?side1 ?side2 A2.out).mono ?_); (case side1 => repeat (first | exact (Kd.C_below HR0_1.out HB.out) | (with_reducible first | refine Kd.C_alloc ?_ _ | refine Kd.C_drewN ?_ _ | refine Kd.C_drew ?_))); (case side2 => exact HC0_1.out); rintro e w36 ⟨rfl, hb⟩; have n0_ := A0_ (blk_below (g := gb190) (o := .cells #[.int .i64 a0_0, .slice A0_1 l0_1.length c0_1] 26 (0, 0)) (by (with_reducible repeat (first | refine Bn_ ?_ _ | refine Bd_ ?_ | refine Ba_ ?_ _)); exact BK190.out) hb); have n1_ := A0_ (below_step (by repeat (first | (with_reducible first | exact HB.out | apply Al_ | apply Dn_ | apply D1_ | refine Bs_ ?_ GE190.out) | exact HB.out)) hb); clear BK190 HB; have BK190 := n0_; have HB := n1_; clear n0_ n1_; (try clear hb); (try clear hb2); (try clear hk); (try clear hi))))
  go_ret
  exact ⟨_, by first | rfl | (simp [errW_none, errW_some] <;> rfl) | (simp [*, errW_none, errW_some] <;> rfl), by first | exact Kd.R_nil _ _ _ _ _ | exact Kd.N_nil _ _ _ _ _ | exact Kd.V_nil _ _ _ _ _ | exact Kd.Q_nil _ _ _ _ _ | exact Kd.S_nil _ _ _ _ _, by repeat (first | (with_reducible first | exact HB.out | apply Al_ | apply Dn_ | apply D1_ | refine Bs_ ?_ GE190.out) | exact HB.out)⟩
end Go.Proofs.YtnjbdcnefienhaaDoor.P

namespace Go.Proofs.YtnjbdcnefienhaaDoor.P
open Go.RowKit Go.Proofs.YtnjbdcnefienhaaDoorW.PrintWords Go.Proofs.YtnjbdcnefienhaaDoorW.PrintLast Go.Proofs.YtnjbdcnefienhaaDoorW.PrintMore
def l17awake.f : Option Bool := some true
structure IW (w : World) (g : Nat) (sz gr : Int) (A : Option Addr) (c : Nat) (act : List Int) (ms : Int) (B : Option Addr) (d : Nat) (mw : List Int) (W : World) : Prop where
  box : W.heap[g]? = some (.cells #[.int .i64 sz, .int .i64 gr, .slice A act.length c, .int .i64 ms, .slice B mw.length d] 28 (0, 0))
  ra : Kd.V (Kd.int .i64) 3 W 0 (fun k => k ≠ g) (.slice A act.length c) act
  rm : Kd.V (Kd.int .u64) 90 W 0 (fun k => k ≠ g) (.slice B mw.length d) mw
  below : Below w.heap.size w W
  ge : w.heap.size ≤ g
theorem IW.step {w : World} {g : Nat} {sz gr : Int} {A : Option Addr} {c : Nat} {act : List Int} {ms : Int} {B : Option Addr} {d : Nat} {mw : List Int} {W X : World} (h : IW w g sz gr A c act ms B d mw W) (hb : Below W.heap.size W X) : IW w g sz gr A c act ms B d mw X :=
  ⟨blk_of_below h.box hb, Kd.V_below h.ra hb, Kd.V_below h.rm hb, below_step h.below hb, h.ge⟩
theorem IW.put {w : World} {g : Nat} {sz gr : Int} {A : Option Addr} {c : Nat} {act : List Int} {ms : Int} {B : Option Addr} {d : Nat} {mw : List Int} {W : World} (h : IW w g sz gr A c act ms B d mw W)
    {sz' gr' : Int} {A' : Option Addr} {c' : Nat} {act' : List Int} {ms' : Int} {B' : Option Addr} {d' : Nat} {mw' : List Int} (ra : Kd.V (Kd.int .i64) 3 W 0 (fun k => k ≠ g) (.slice A' act'.length c') act') (rm : Kd.V (Kd.int .u64) 90 W 0 (fun k => k ≠ g) (.slice B' mw'.length d') mw') :
    IW w g sz' gr' A' c' act' ms' B' d' mw' (((((W.setCell ⟨g, 0, none⟩ (.int .i64 sz')).setCell ⟨g, 1, none⟩ (.int .i64 gr')).setCell ⟨g, 2, none⟩ (.slice A' act'.length c')).setCell ⟨g, 3, none⟩ (.int .i64 ms')).setCell ⟨g, 4, none⟩ (.slice B' mw'.length d')) := by
  refine ⟨?_, ?_, ?_, ?_, h.ge⟩
  · exact blkPut (cs := #[.int .i64 sz', .int .i64 gr', .slice A' act'.length c', .int .i64 ms', .slice B mw.length d]) (blkPut (cs := #[.int .i64 sz', .int .i64 gr', .slice A' act'.length c', .int .i64 ms, .slice B mw.length d]) (blkPut (cs := #[.int .i64 sz', .int .i64 gr', .slice A act.length c, .int .i64 ms, .slice B mw.length d]) (blkPut (cs := #[.int .i64 sz', .int .i64 gr, .slice A act.length c, .int .i64 ms, .slice B mw.length d]) (blkPut h.box rfl) rfl) rfl) rfl) rfl
  · iterate 5 refine Kd.V_far ?_ (fun _ hk => hk) _
    exact ra
  · iterate 5 refine Kd.V_far ?_ (fun _ hk => hk) _
    exact rm
  · iterate 5 refine setC ?_ h.ge _
    exact h.below
theorem R_off {α : Type} {d : Kd α} {e base base' g t : Nat} {W : World} {ok : Nat → Prop} {v : Value} {xs : List α} {cells : Array Value} (h : d.R e W base ok v xs) (hb : W.heap[g]? = some (.cells cells t (0, 0))) (ht : ∀ q, q ∈ e :: d.E → q ≠ t) : Kd.V d e W base' (fun k => k ≠ g) v xs :=
  Kd.V_mono (Kd.R_V (Kd.R_types h hb ht)) (fun _ hk => hk.2)
theorem IW.new {w W : World} (hB : Below w.heap.size w W) {sz gr : Int} {A : Option Addr} {c : Nat} {act : List Int} {ms : Int} {B : Option Addr} {d : Nat} {mw : List Int} {b b' : Nat} {p p' : Nat → Prop} (ra : Kd.R (Kd.int .i64) 3 W b p (.slice A act.length c) act) (rm : Kd.R (Kd.int .u64) 90 W b' p' (.slice B mw.length d) mw) :
    IW w W.heap.size sz gr A c act ms B d mw (W.alloc (.cells #[.int .i64 sz, .int .i64 gr, .slice A act.length c, .int .i64 ms, .slice B mw.length d] 28)) :=
  ⟨heap_alloc_new W _, Kd.V_mono (Kd.V_alloc (Kd.R_V (Kd.R_bound ra)) _) (fun k hk => by have := hk.2.2.1; omega), Kd.V_mono (Kd.V_alloc (Kd.R_V (Kd.R_bound rm)) _) (fun k hk => by have := hk.2.2.1; omega), below_alloc hB _, hB.size⟩
theorem V_base {α : Type} {d : Kd α} {e b b' : Nat} {W : World} {ok : Nat → Prop} {v : Value} {xs : List α} (h : Kd.V d e W b ok v xs) : Kd.V d e W b' ok v xs := Kd.V_map h (fun _ hf => hf)
theorem drawn_below {w w' : World} (h : Drawn0 w w') : Below w.heap.size w w' := h.below
theorem one_ext (W : World) (a b : Int) : Kd.C k49 (W.alloc (.cells #[.int .i64 a, .int .i64 b] 49)) (some ⟨W.heap.size, 0, none⟩) 1 [⟨a, b⟩] := by
  refine ⟨rfl, by decide, fun _ => ⟨_, rfl, fun j p hj => ?_⟩⟩
  have hjl : j = 0 := by
    have := (List.getElem?_eq_some_iff.1 hj).1
    simp at this
    exact this
  subst hjl
  obtain rfl : (⟨a, b⟩ : S49) = p := by simpa using hj
  refine ⟨[.int .i64 a, .int .i64 b], rfl, k49_mk _ _, fun i u hu => ?_⟩
  have := cells_two_new W (.int .i64 a) (.int .i64 b) 49 i u hu
  simpa using this
theorem ints_at {W : World} {A : Option Addr} {l : List Int} (h : Kd.C (Kd.int .i64) W A l.length l) (h0 : 0 < l.length) : ∃ ad, A = some ad ∧ ∀ (j : Nat) (hj : j < l.length), W.cell? (ad.add j) = some (.int .i64 l[j]) := by
  obtain ⟨ad, e, hc⟩ := h.2.2 h0
  refine ⟨ad, e, fun j hj => ?_⟩
  obtain ⟨cs, hl, hk, hcell⟩ := hc j _ (List.getElem?_eq_getElem hj)
  have hcs : cs = [Value.int .i64 l[j]] := hk
  subst hcs
  have := hcell 0 _ rfl
  simpa [show (Kd.int .i64).sz = 1 from rfl] using this
set_option maxHeartbeats 8000000 in
set_option maxRecDepth 100000 in
theorem l17awake.calls  (r : Bool) (w : World) (hG : TabOK w) (h : l17awake.f  = some r) :
  Calls Tryd.prog 8 #[] w fun e w' => e = .returned (.bool r) ∧ Below w.heap.size w w' := by
  obtain rfl : true = r := Option.some.inj h
  clear h
  have HG := Aside0.mk hG
  clear hG
  go_enter Tryd.func8, Tryd.ntmps8
  go_wp2_with fail
  refine (iNew.calls 20 8 20 8 [0, 0, 0] 3 [0] 0 w (by kernel_rfl)).mono ?_
  rintro e w1 ⟨v2, v4, rfl, hR2, hR4, hb1⟩
  obtain ⟨A2, c2, rfl⟩ := Kd.R_slice hR2
  obtain ⟨A4, c4, rfl⟩ := Kd.R_slice hR4
  have I1 := IW.new (sz := 20) (gr := 8) (ms := 3) hb1 hR2 hR4
  have HI1 := Aside0.mk I1
  clear hR2 hR4 hb1 I1
  go_wp2_with fail
  refine (iBegin.calls 20 8 A2 c2 [0, 0, 0] 3 A4 c4 [0] 6 4 20 8 [1, 1, 0] 3 [3] true 0 _ (Kd.V_reads' HI1.out.ra).2.2 (Kd.V_reads' HI1.out.ra).2.1 (Kd.V_reads' HI1.out.rm).2.2 (Kd.V_reads' HI1.out.rm).2.1 (by kernel_rfl)).mono ?_
  rintro e w2 ⟨v2, v4, rfl, hR2, hR4, hb2⟩
  obtain ⟨A2', c2', rfl⟩ := Kd.R_slice hR2
  obtain ⟨A4', c4', rfl⟩ := Kd.R_slice hR4
  have I2 := HI1.out.step hb2
  obtain ⟨e00, e01, e02, e03, e04, f00, f01, f02, f03, f04⟩ := cells5' I2.box
  have HI2 := Aside0.mk (I2.put (sz' := 20) (gr' := 8) (ms' := 3) (R_off hR2 I2.box (by decide)) (R_off hR4 I2.box (by decide)))
  clear hR2 hR4 hb2 I2 HI1
  go_wp2_with fail
  clear e00 e01 e02 e03 e04 f00 f01 f02 f03 f04
  refine (iBegin.calls 20 8 A2' c2' [1, 1, 0] 3 A4' c4' [3] 9 1 20 8 [1, 2, 0] 3 [3] false 0 _ (Kd.V_reads' HI2.out.ra).2.2 (Kd.V_reads' HI2.out.ra).2.1 (Kd.V_reads' HI2.out.rm).2.2 (Kd.V_reads' HI2.out.rm).2.1 (by kernel_rfl)).mono ?_
  rintro e w3 ⟨v2, v4, rfl, hR2, hR4, hb2⟩
  obtain ⟨A5, c5, rfl⟩ := Kd.R_slice hR2
  obtain ⟨A6, c6, rfl⟩ := Kd.R_slice hR4
  have I2 := HI2.out.step hb2
  obtain ⟨e00, e01, e02, e03, e04, f00, f01, f02, f03, f04⟩ := cells5' I2.box
  have HI3 := Aside0.mk (I2.put (sz' := 20) (gr' := 8) (ms' := 3) (R_off hR2 I2.box (by decide)) (R_off hR4 I2.box (by decide)))
  clear hR2 hR4 hb2 I2 HI2
  go_wp2_with fail
  clear e00 e01 e02 e03 e04 f00 f01 f02 f03 f04
  refine (iEncode.calls 300 20 8 A5 c5 [1, 2, 0] 3 A6 c6 [3] [20, 8, 1, 0, 2] _ (HG.out.below HI3.out.below) (Kd.V_reads' HI3.out.ra).2.2 (Kd.V_reads' HI3.out.ra).2.1 (Kd.V_reads' HI3.out.rm).2.2 (Kd.V_reads' HI3.out.rm).2.1 (by kernel_rfl)).mono ?_
  rintro e w4 ⟨v2, rfl, hR2, hb2⟩
  obtain ⟨A7, c7, rfl⟩ := Kd.R_slice hR2
  have HI4 := Aside0.mk (HI3.out.step hb2)
  have HR4 := Aside0.mk hR2
  clear hR2 hb2 HI3
  go_wp2_with fail
  refine (iRecover.calls 300 20 8 A7 c7 [20, 8, 1, 0, 2] 20 8 [0, 0, 0] 3 [3] [⟨0, 16⟩] 0 w4 (Kd.R_reads' HR4.out).2.2 (Kd.R_reads' HR4.out).2.1 (by kernel_rfl)).mono ?_
  rintro e w5 ⟨v2, v4, v5, rfl, hR2, hR4, hR5, hb2⟩
  obtain ⟨A8, c8, rfl⟩ := Kd.R_slice hR2
  obtain ⟨A9, c9, rfl⟩ := Kd.R_slice hR4
  obtain ⟨A10, c10, rfl⟩ := Kd.R_slice hR5
  have HI5 := Aside0.mk (HI4.out.step hb2)
  have HR5 := Aside0.mk hR5
  clear hR2 hR4 hR5 hb2 HI4 HR4
  go_wp2_with fail
  have hC := one_ext (w5.alloc (.cells #[.int .i64 20, .int .i64 8, .slice A8 3 c8, .int .i64 3, .slice A9 1 c9] 28)) 0 16
  rw [World.size_alloc] at hC
  have HI6 := Aside0.mk ((HI5.out.step (below_alloc (Below.refl _ _) (.cells #[.int .i64 20, .int .i64 8, .slice A8 3 c8, .int .i64 3, .slice A9 1 c9] 28))).step (below_alloc (Below.refl _ _) (.cells #[.int .i64 0, .int .i64 16] 49)))
  refine (r02SameExtents.calls 300 A10 c10 [⟨0, 16⟩] _ 1 [⟨0, 16⟩] true _ (Kd.R_reads' (Kd.R_alloc (Kd.R_alloc HR5.out _) _)).2.2 (Kd.R_reads' HR5.out).2.1 hC (Nat.le_refl _) (by kernel_rfl)).mono ?_
  rintro e w6 ⟨rfl, hd⟩
  have HI7 := Aside0.mk (HI6.out.step (drawn_below hd))
  obtain ⟨e00, e01, e02, e03, e04, f00, f01, f02, f03, f04⟩ := cells5' HI7.out.box
  clear hC HI6 hd HR5 HI5
  go_wp2_with fail
  clear e00 e01 e02 e03 e04 f00 f01 f02 f03 f04
  refine (iEnd.calls 20 8 A5 c5 [1, 2, 0] 3 (fun k => k ≠ w1.heap.size) A6 c6 [3] 6 4 20 8 [0, 1, 0] 3 [3] 0 w6 (Kd.V_reads' HI7.out.ra).2.2 (Kd.V_reads' HI7.out.ra).2.1 (V_base HI7.out.rm) (by kernel_rfl)).mono ?_
  rintro e w7 ⟨v2, v4, rfl, hR2, hV4, hb2⟩
  obtain ⟨A11, c11, rfl⟩ := Kd.R_slice hR2
  obtain ⟨A12, c12, rfl⟩ := Kd.V_slice hV4
  have I2 := HI7.out.step hb2
  have hg7 := (Array.getElem?_eq_some_iff.1 HI7.out.box).1
  obtain ⟨e00, e01, e02, e03, e04, f00, f01, f02, f03, f04⟩ := cells5' I2.box
  have HI8 := Aside0.mk (I2.put (sz' := 20) (gr' := 8) (ms' := 3) (R_off hR2 I2.box (by decide)) (V_base (Kd.V_mono hV4 (fun k hk => by rcases hk.1 with h | h <;> omega))))
  clear hR2 hV4 hb2 I2 HI7 hg7
  go_wp2_with fail
  clear e00 e01 e02 e03 e04 f00 f01 f02 f03 f04
  refine (iClean.calls 300 20 8 (fun k => k ≠ w1.heap.size) A11 c11 [0, 1, 0] 3 (fun k => k ≠ w1.heap.size) A12 c12 [3] 20 8 [0, 1, 0] 3 [2] true _ (V_base HI8.out.ra) (V_base HI8.out.rm) (by kernel_rfl)).mono ?_
  rintro e w8 ⟨v2, v4, rfl, hV2, hV4, hb2⟩
  obtain ⟨A13, c13, rfl⟩ := Kd.V_slice hV2
  obtain ⟨A14, c14, rfl⟩ := Kd.V_slice hV4
  have I2 := HI8.out.step hb2
  have hg8 := (Array.getElem?_eq_some_iff.1 HI8.out.box).1
  obtain ⟨e00, e01, e02, e03, e04, f00, f01, f02, f03, f04⟩ := cells5' I2.box
  have I3 := I2.put (sz' := 20) (gr' := 8) (ms' := 3) (V_base (Kd.V_mono hV2 (fun k hk => by rcases hk with (h | h) | h <;> omega))) (V_base (Kd.V_mono hV4 (fun k hk => by rcases hk with (h | h) | h <;> omega)))
  have HI9 := Aside0.mk I3
  clear hV2 hV4 hb2 I2 HI8 hg8 I3
  go_upto_region 9 with fail
  generalize hZ : World.setCell _ _ _ = Z
  have I3 : IW w w1.heap.size 20 8 A13 c13 [0, 1, 0] 3 A14 c14 [2] Z := by rw [← hZ]; exact HI9.out
  have HI10 := Aside0.mk I3
  obtain ⟨ad, rfl, hcells⟩ := ints_at (Kd.V_reads' I3.ra).2.2 (by decide)
  have q0 := hcells 0 (by decide)
  have q1 := hcells 1 (by decide)
  simp only [Addr.add, if_pos, Nat.one_ne_zero, if_false, List.getElem_cons_zero, List.getElem_cons_succ] at q0 q1
  obtain ⟨g00, g01, g02, g03, g04, -, -, -, -, -⟩ := cells5' I3.box
  clear hZ HI9 hcells I3 e00 e01 e02 e03 e04 f00 f01 f02 f03 f04
  go_wp2_with fail
  refine (r02Extents.calls 300 3 A14 c14 [2] [⟨1, 1⟩] Z (Kd.V_reads' HI10.out.rm).2.2 (Kd.V_reads' HI10.out.rm).2.1 (by kernel_rfl)).mono ?_
  rintro e w9 ⟨v, rfl, hR, hb9⟩
  obtain ⟨A15, c15, rfl⟩ := Kd.R_slice hR
  have HB9 := Aside0.mk (below_step HI10.out.below hb9)
  have HR9 := Aside0.mk hR
  clear hR hb9 g00 g01 g02 g03 g04 q0 q1
  go_wp2_with fail
  refine (r02SameExtents.calls 300 A15 c15 [⟨1, 1⟩] _ 1 [⟨1, 1⟩] true _ (Kd.R_reads' (Kd.R_alloc HR9.out _)).2.2 (Kd.R_reads' HR9.out).2.1 (one_ext w9 1 1) (Nat.le_refl _) (by kernel_rfl)).mono ?_
  rintro e w10 ⟨rfl, hd⟩
  have HB10 := Aside0.mk (below_step (below_alloc HB9.out _) (drawn_below hd))
  clear hd
  go_wp2
  go_ret
  exact ⟨rfl, HB10.out⟩
end Go.Proofs.YtnjbdcnefienhaaDoor.P

namespace Go.Proofs.YtnjbdcnefienhaaDoor.P
open Go.RowKit Go.Proofs.YtnjbdcnefienhaaDoorW.PrintWords Go.Proofs.YtnjbdcnefienhaaDoorW.PrintLast Go.Proofs.YtnjbdcnefienhaaDoorW.PrintMore
def U1 (x : Int) : Prop := 0 ≤ x ∧ x < 18446744073709551616
def U (ws : List Int) : Prop := ∀ x ∈ ws, U1 x
def wbit (x : Int) (j : Nat) : Bool := x.toNat.testBit j
def tb (ws : List Int) (i : Nat) : Bool := wbit (ws.getD (i / 64) 0) (i % 64)
theorem getD_U {ws : List Int} (h : U ws) (i : Nat) : U1 (ws.getD i 0) := by
  rw [List.getD_eq_getElem?_getD]
  cases e : ws[i]? with
  | none => exact ⟨by decide, by decide⟩
  | some x => exact h x (List.mem_of_getElem? e)
theorem wbit_zero (j : Nat) : wbit 0 j = false := by simp [wbit]
theorem tb_ge {ws : List Int} {i : Nat} (h : 64 * ws.length ≤ i) : tb ws i = false := by
  unfold tb
  rw [List.getD_eq_getElem?_getD, List.getElem?_eq_none (by omega)]
  exact wbit_zero _
theorem rd_nat (ws : List Int) (i : Nat) : rd ws (i : Int) = ws.getD i 0 := rfl
end Go.Proofs.YtnjbdcnefienhaaDoor.P

namespace Go.Proofs.YtnjbdcnefienhaaDoor.P
open Go.RowKit Go.Proofs.YtnjbdcnefienhaaDoorW.PrintWords Go.Proofs.YtnjbdcnefienhaaDoorW.PrintLast Go.Proofs.YtnjbdcnefienhaaDoorW.PrintMore
theorem wsucc (i : Nat) (h : i < 1000000) : wrap64 ((i : Int) + 1) = ((i + 1 : Nat) : Int) := by rw [w64 _ (by omega) (by omega)]; rfl
theorem div_zero_iff {x : Int} (h : U1 x) (s : Nat) : x / 2 ^ s = 0 ↔ ∀ j, s ≤ j → j < 64 → wbit x j = false := by
  obtain ⟨n, rfl⟩ : ∃ n : Nat, x = n := ⟨x.toNat, by have := h.1; omega⟩
  have h2 : n < 2 ^ 64 := by have := h.2; omega
  rw [show (2 : Int) ^ s = ((2 ^ s : Nat) : Int) by simp, ← Int.natCast_ediv]
  unfold wbit
  rw [Int.toNat_natCast]
  have hp : 0 < 2 ^ s := Nat.pow_pos (by decide)
  constructor
  · intro e j hj _
    have hlt : n < 2 ^ s := by
      have : n / 2 ^ s = 0 := by omega
      exact (Nat.div_eq_zero_iff_lt hp).1 this
    exact Nat.testBit_lt_two_pow (Nat.lt_of_lt_of_le hlt (Nat.pow_le_pow_right (by decide) hj))
  · intro hj
    have hlt : n < 2 ^ s := Nat.lt_pow_two_of_testBit n fun j hs' => by
      rcases Nat.lt_or_ge j 64 with h | h
      · exact hj j hs' h
      · exact Nat.testBit_lt_two_pow (Nat.lt_of_lt_of_le h2 (Nat.pow_le_pow_right (by decide) h))
    have : n / 2 ^ s = 0 := (Nat.div_eq_zero_iff_lt hp).2 hlt
    omega
theorem Good.clear {size : Int} {ws : List Int} (hU : U ws) (h : Good size ws) {i : Nat} (hi : size.toNat ≤ i) : tb ws i = false := by
  rcases Nat.lt_or_ge i (64 * ws.length) with hlt | hge
  · have h1 := h.lo
    have h3 := h.len
    have hm : 0 < size % 64 := by omega
    have hl := h.last hm
    rw [show (ws.length : Int) - 1 = ((ws.length - 1 : Nat) : Int) by omega, rd_nat] at hl
    have := (div_zero_iff (getD_U hU _) _).1 hl
    unfold tb
    rw [show i / 64 = ws.length - 1 by omega]
    exact this _ (by omega) (by omega)
  · exact tb_ge hge
end Go.Proofs.YtnjbdcnefienhaaDoor.P

namespace Go.Proofs.YtnjbdcnefienhaaDoor.P
open Go.RowKit Go.Proofs.YtnjbdcnefienhaaDoorW.PrintWords Go.Proofs.YtnjbdcnefienhaaDoorW.PrintLast Go.Proofs.YtnjbdcnefienhaaDoorW.PrintMore
attribute [local go_sem] max2_int min2_int max_two min_two max_three min_three max_four min_four   -- for this text's walks alone
set_option linter.unusedVariables false
set_option linter.unusedSimpArgs false
def r17sizes.f (a0 : Int) (a1 : Int) : Option (Bool) := if a0 ≥ 1 then (if a0 ≤ 4096 then (if a1 ≥ 1 then (some (decide (a1 ≤ 4096))) else (some false)) else (some false)) else (some false)
set_option maxHeartbeats 8000000 in
set_option maxRecDepth 100000 in
theorem r17sizes.calls (a0 : Int) (a1 : Int) (r : Bool) (w : World) (h : r17sizes.f a0 a1 = some r) :
  Calls Tryd.prog 30 #[.int .i64 a0, .int .i64 a1] w fun e w' => e = .returned (.bool r) ∧ Drawn0 w w' := by
 have H : (if a0 ≥ 1 then (if a0 ≤ 4096 then (if a1 ≥ 1 then (some (decide (a1 ≤ 4096))) else (some false)) else (some false)) else (some false)) = some r := h
 clear h
 by_cases c3 : a0 ≥ 1
 ·
  rw [if_pos c3] at H
  have c3b0 : decide (1 ≤ a0) = true := decide_eq_true c3
  clear c3
  by_cases c4 : a0 ≤ 4096
  ·
   rw [if_pos c4] at H
   have c4b0 : decide (a0 ≤ 4096) = true := decide_eq_true c4
   clear c4
   by_cases c5 : a1 ≥ 1
   ·
    rw [if_pos c5] at H
    have c5b0 : decide (1 ≤ a1) = true := decide_eq_true c5
    clear c5
    obtain rfl := Option.some.inj H
    go_enter Tryd.func30, Tryd.ntmps30
    go_wp2
    go_ret
    exact ⟨by first | rfl | (simp; done) | (simp [*]; done), by repeat (first | exact Drawn0.refl _ | apply Drawn0.step)⟩
   ·
    rw [if_neg c5] at H
    have c5b0 : decide (1 ≤ a1) = false := decide_eq_false c5
    clear c5
    obtain rfl := Option.some.inj H
    go_enter Tryd.func30, Tryd.ntmps30
    go_wp2
    go_ret
    exact ⟨by first | rfl | (simp; done) | (simp [*]; done), by repeat (first | exact Drawn0.refl _ | apply Drawn0.step)⟩
  ·
   rw [if_neg c4] at H
   have c4b0 : decide (a0 ≤ 4096) = false := decide_eq_false c4
   clear c4
   obtain rfl := Option.some.inj H
   go_enter Tryd.func30, Tryd.ntmps30
   go_wp2
   go_ret
   exact ⟨by first | rfl | (simp; done) | (simp [*]; done), by repeat (first | exact Drawn0.refl _ | apply Drawn0.step)⟩
 ·
  rw [if_neg c3] at H
  have c3b0 : decide (1 ≤ a0) = false := decide_eq_false c3
  clear c3
  obtain rfl := Option.some.inj H
  go_enter Tryd.func30, Tryd.ntmps30
  go_wp2
  go_ret
  exact ⟨by first | rfl | (simp; done) | (simp [*]; done), by repeat (first | exact Drawn0.refl _ | apply Drawn0.step)⟩
def r17Granules.f (a0 : Int) (a1 : Int) : Option (Int) := if a1 = 0 then (none) else (some (wrap64 (Int.tdiv (wrap64 ((wrap64 (a0 + a1)) - 1)) a1)))
set_option maxHeartbeats 8000000 in
set_option maxRecDepth 100000 in
theorem r17Granules.calls (a0 : Int) (a1 : Int) (r : Int) (w : World) (h : r17Granules.f a0 a1 = some r) :
  Calls Tryd.prog 31 #[.int .i64 a0, .int .i64 a1] w fun e w' => e = .returned (.int .i64 r) ∧ Drawn0 w w' := by
 have H : (if a1 = 0 then (none) else (some (wrap64 (Int.tdiv (wrap64 ((wrap64 (a0 + a1)) - 1)) a1)))) = some r := h
 clear h
 by_cases c3 : a1 = 0
 ·
  rw [if_pos c3] at H
  exact absurd H (by simp)
 ·
  rw [if_neg c3] at H
  have c3b0 : (a1 == 0) = false := beq_eq_false_iff_ne.mpr c3
  have c3b1 : (a1 != 0) = true := bne_iff_ne.mpr c3
  obtain rfl := Option.some.inj H
  go_enter Tryd.func31, Tryd.ntmps31
  go_wp2
  go_ret
  exact ⟨by first | rfl | (simp; done) | (simp [*]; done), by repeat (first | exact Drawn0.refl _ | apply Drawn0.step)⟩
def r02New.f (a0 : Int) : Option (Int × List Int × Int) := if a0 < 0 then (some (0, ([] : List Int), 2)) else (if a0 > 4096 then (some (0, ([] : List Int), 2)) else (if 0 ≤ (wrap64 (Int.tdiv (wrap64 (a0 + 63)) 64)) then (if (wrap64 (Int.tdiv (wrap64 (a0 + 63)) 64) : Int).toNat ≤ 35184372088832 then (some (a0, (List.replicate (wrap64 (Int.tdiv (wrap64 (a0 + 63)) 64) : Int).toNat 0), 0)) else (none)) else (none)))
set_option maxHeartbeats 8000000 in
set_option maxRecDepth 100000 in
theorem r02New.calls (a0 : Int) (r1 : Int) (r2 : List Int) (r3 : Int) (w : World) (h : r02New.f a0 = some (r1, r2, r3)) :
  Calls Tryd.prog 32 #[.int .i64 a0] w fun e w' => ∃ v1_ : Value, e = .returned (.tuple #[.agg #[.int .i64 r1, v1_], .int .i64 r3]) ∧ Kd.R (Kd.int .u64) 90 w' w.heap.size (fun _ => True) v1_ r2 ∧ Below w.heap.size w w' := by
 have hu26 := Tryd.underlying26
 have HB := A0_ (Below.refl w.heap.size w)
 have H : (if a0 < 0 then (some (0, ([] : List Int), 2)) else (if a0 > 4096 then (some (0, ([] : List Int), 2)) else (if 0 ≤ (wrap64 (Int.tdiv (wrap64 (a0 + 63)) 64)) then (if (wrap64 (Int.tdiv (wrap64 (a0 + 63)) 64) : Int).toNat ≤ 35184372088832 then (some (a0, (List.replicate (wrap64 (Int.tdiv (wrap64 (a0 + 63)) 64) : Int).toNat 0), 0)) else (none)) else (none)))) = some (r1, r2, r3) := h
 clear h
 by_cases c2 : a0 < 0
 ·
  rw [if_pos c2] at H
  have c2b0 : decide (a0 < 0) = true := decide_eq_true c2
  clear c2
  simp only [Option.some.injEq, Prod.mk.injEq] at H
  obtain ⟨rfl, rfl, rfl⟩ := H
  go_enter Tryd.func32, Tryd.ntmps32
  go_wp2_with (first | ((with_reducible refine gate_dst (N := 2) rfl ?_); refine box_event ?hg (N := 2) ?hd (cs := #[.int .i64 0, .slice none 0 0]) (t := 26) ?hr ?_; (case hd => rfl); (case hg => rfl); (case hr => first | (go_simp; done) | (go_simp; rfl)); intro gb376 hg w3 hbox hb; have n0_ := A0_ (below_step (by repeat (first | (with_reducible first | exact HB.out | apply Al_ | apply Dn_ | apply D1_) | exact HB.out)) hb); have n1_ := A0_ (hbox); have n2_ := A0_ ((by rw [hg]; exact (below_size (by repeat (first | (with_reducible first | exact HB.out | apply Al_ | apply Dn_ | apply D1_) | exact HB.out))) : w.heap.size ≤ gb376)); have n3_ := A0_ ((by rw [hg]; exact (below_size (by repeat (first | (with_reducible first | exact HB.out | apply Al_ | apply Dn_ | apply D1_) | exact HB.out))) : w.heap.size ≤ gb376)); clear HB; have HB := n0_; have BK376 := n1_; have GW376 := n2_; have GE376 := n3_; clear n0_ n1_ n2_ n3_ hb hbox hg; have hcz4_0 : w3.cell? ⟨gb376, 0, none⟩ = some (.int .i64 0) := (Bc_ BK376.out 0).trans rfl; have hcz4_1 : w3.cell? ⟨gb376, 1, none⟩ = some (.slice none 0 0) := (Bc_ BK376.out 1).trans rfl; have hfz4_0 := Bf_ BK376.out 0; have hfz4_1 := Bf_ BK376.out 1))
  refine bodyPost_ret (results_ct rfl _ _ gb376 26 #[.int .i64 0, .slice none 0 0] (0, 0) _ rfl (by (with_reducible repeat (first | refine Bn_ ?_ _ | refine Bd_ ?_ | refine Ba_ ?_ _)); refine blk_put (cs := #[.int .i64 0, .slice none 0 0]) ?_ 1 _ rfl; (with_reducible repeat (first | refine Bn_ ?_ _ | refine Bd_ ?_ | refine Ba_ ?_ _)); refine blk_put (cs := #[.int .i64 0, .slice none 0 0]) ?_ 0 _ rfl; (with_reducible repeat (first | refine Bn_ ?_ _ | refine Bd_ ?_ | refine Ba_ ?_ _)); exact BK376.out) Tryd.underlying26 rfl (by kernel_rfl)) rfl ?_
  exact ⟨_, by first | rfl | (simp [errW_none, errW_some] <;> rfl) | (simp [*, errW_none, errW_some] <;> rfl), by first | exact Kd.R_nil _ _ _ _ _ | exact Kd.N_nil _ _ _ _ _ | exact Kd.V_nil _ _ _ _ _ | exact Kd.Q_nil _ _ _ _ _ | exact Kd.S_nil _ _ _ _ _, by repeat (first | (with_reducible first | exact HB.out | apply Al_ | apply Dn_ | apply D1_ | refine Bs_ ?_ GE376.out) | exact HB.out)⟩
 ·
  rw [if_neg c2] at H
  have c2b0 : decide (a0 < 0) = false := decide_eq_false c2
  clear c2
  by_cases c5 : a0 > 4096
  ·
   rw [if_pos c5] at H
   have c5b0 : decide (4096 < a0) = true := decide_eq_true c5
   clear c5
   simp only [Option.some.injEq, Prod.mk.injEq] at H
   obtain ⟨rfl, rfl, rfl⟩ := H
   go_enter Tryd.func32, Tryd.ntmps32
   go_wp2_with (first | ((with_reducible refine gate_dst (N := 2) rfl ?_); refine box_event ?hg (N := 2) ?hd (cs := #[.int .i64 0, .slice none 0 0]) (t := 26) ?hr ?_; (case hd => rfl); (case hg => rfl); (case hr => first | (go_simp; done) | (go_simp; rfl)); intro gb376 hg w6 hbox hb; have n0_ := A0_ (below_step (by repeat (first | (with_reducible first | exact HB.out | apply Al_ | apply Dn_ | apply D1_) | exact HB.out)) hb); have n1_ := A0_ (hbox); have n2_ := A0_ ((by rw [hg]; exact (below_size (by repeat (first | (with_reducible first | exact HB.out | apply Al_ | apply Dn_ | apply D1_) | exact HB.out))) : w.heap.size ≤ gb376)); have n3_ := A0_ ((by rw [hg]; exact (below_size (by repeat (first | (with_reducible first | exact HB.out | apply Al_ | apply Dn_ | apply D1_) | exact HB.out))) : w.heap.size ≤ gb376)); clear HB; have HB := n0_; have BK376 := n1_; have GW376 := n2_; have GE376 := n3_; clear n0_ n1_ n2_ n3_ hb hbox hg; have hcz7_0 : w6.cell? ⟨gb376, 0, none⟩ = some (.int .i64 0) := (Bc_ BK376.out 0).trans rfl; have hcz7_1 : w6.cell? ⟨gb376, 1, none⟩ = some (.slice none 0 0) := (Bc_ BK376.out 1).trans rfl; have hfz7_0 := Bf_ BK376.out 0; have hfz7_1 := Bf_ BK376.out 1))
   refine bodyPost_ret (results_ct rfl _ _ gb376 26 #[.int .i64 0, .slice none 0 0] (0, 0) _ rfl (by (with_reducible repeat (first | refine Bn_ ?_ _ | refine Bd_ ?_ | refine Ba_ ?_ _)); refine blk_put (cs := #[.int .i64 0, .slice none 0 0]) ?_ 1 _ rfl; (with_reducible repeat (first | refine Bn_ ?_ _ | refine Bd_ ?_ | refine Ba_ ?_ _)); refine blk_put (cs := #[.int .i64 0, .slice none 0 0]) ?_ 0 _ rfl; (with_reducible repeat (first | refine Bn_ ?_ _ | refine Bd_ ?_ | refine Ba_ ?_ _)); exact BK376.out) Tryd.underlying26 rfl (by kernel_rfl)) rfl ?_
   exact ⟨_, by first | rfl | (simp [errW_none, errW_some] <;> rfl) | (simp [*, errW_none, errW_some] <;> rfl), by first | exact Kd.R_nil _ _ _ _ _ | exact Kd.N_nil _ _ _ _ _ | exact Kd.V_nil _ _ _ _ _ | exact Kd.Q_nil _ _ _ _ _ | exact Kd.S_nil _ _ _ _ _, by repeat (first | (with_reducible first | exact HB.out | apply Al_ | apply Dn_ | apply D1_ | refine Bs_ ?_ GE376.out) | exact HB.out)⟩
  ·
   rw [if_neg c5] at H
   have c5b0 : decide (4096 < a0) = false := decide_eq_false c5
   clear c5
   obtain ⟨ji8, hji8⟩ : ∃ j_ : Int, (wrap64 (Int.tdiv (wrap64 (a0 + 63)) 64)) = j_ := ⟨_, rfl⟩
   replace H : (if 0 ≤ (ji8) then (if (ji8 : Int).toNat ≤ 35184372088832 then (some (a0, (List.replicate (ji8 : Int).toNat 0), 0)) else (none)) else (none)) = some (r1, r2, r3) := by first | (rw [hji8] at H; exact H) | (simp only [hji8] at H ⊢; exact H)
   have hji8w : (IntKind.i64.wrap (Int.tdiv (wrap64 (a0 + 63)) 64)) = ji8 := (i64_w _).trans hji8
   by_cases c9 : 0 ≤ (ji8)
   ·
    rw [if_pos c9] at H
    have c9b0 := eq_true c9
    have c9b1 : decide (0 ≤ (ji8)) = true := decide_eq_true c9
    clear c9
    by_cases c10 : (ji8 : Int).toNat ≤ 35184372088832
    ·
     rw [if_pos c10] at H
     have c10b0 := eq_true c10
     have c10b1 : decide ((ji8 : Int).toNat ≤ 35184372088832) = true := decide_eq_true c10
     clear c10
     obtain ⟨y377, hy377⟩ : ∃ y_ : List Int, y_ = (List.replicate (ji8 : Int).toNat 0) := ⟨_, rfl⟩
     replace H : (some (a0, y377, 0)) = some (r1, r2, r3) := by first | (rw [hy377]; with_reducible exact H) | (have H2_ := (Option.bind_some _ _).symm.trans H; rw [hy377]; with_reducible exact H2_) | (have H2_ := (Option.bind_some _ _).symm.trans H; with_reducible exact H2_) | with_reducible exact H | (rw [hy377]; exact H) | exact H
     have Ny377 := A0_ hy377
     clear hy377
     simp only [Option.some.injEq, Prod.mk.injEq] at H
     obtain ⟨rfl, rfl, rfl⟩ := H
     go_enter Tryd.func32, Tryd.ntmps32
     go_wp2_with (first | ((with_reducible refine gate_dst (N := 2) rfl ?_); refine box_event ?hg (N := 2) ?hd (cs := #[.int .i64 0, .slice none 0 0]) (t := 26) ?hr ?_; (case hd => rfl); (case hg => rfl); (case hr => first | (go_simp; done) | (go_simp; rfl)); intro gb376 hg w11 hbox hb; have n0_ := A0_ (below_step (by repeat (first | (with_reducible first | exact HB.out | apply Al_ | apply Dn_ | apply D1_) | exact HB.out)) hb); have n1_ := A0_ (hbox); have n2_ := A0_ ((by rw [hg]; exact (below_size (by repeat (first | (with_reducible first | exact HB.out | apply Al_ | apply Dn_ | apply D1_) | exact HB.out))) : w.heap.size ≤ gb376)); have n3_ := A0_ ((by rw [hg]; exact (below_size (by repeat (first | (with_reducible first | exact HB.out | apply Al_ | apply Dn_ | apply D1_) | exact HB.out))) : w.heap.size ≤ gb376)); clear HB; have HB := n0_; have BK376 := n1_; have GW376 := n2_; have GE376 := n3_; clear n0_ n1_ n2_ n3_ hb hbox hg) | ((with_reducible refine gate_dst (N := 15) rfl ?_); refine Kd.R_make (Kd.int .u64) _ 90 rfl (N := 15) rfl 24 _ _ rfl ji8 rfl rfl Tryd.underlying24 (.int .u64 0) 8 info90 rfl (by decide) (by omega) 0 (ok := fun _ => True) (okp := fun _ => True) rfl (fun _ hk => hk) trivial (of_decide_eq_true (by first | (with_reducible assumption) | assumption)) (Nat.le_trans (Nat.mul_le_mul_right _ (of_decide_eq_true (by first | (with_reducible assumption) | assumption) : ji8.toNat ≤ 35184372088832)) (by omega)) (Below.refl _ _) (Nat.le_refl _) ?_; intro v378 w12 ho13 hb hg_ hnew_; clear hg_ hnew_; (first | rw [← Ny377.out] at ho13 | (simp only [Int.reduceToNat] at ho13; rw [← Ny377.out] at ho13)); have n0_ := A0_ (Kd.R_lower ho13 (below_size (by repeat (first | (with_reducible first | exact HB.out | apply Al_ | apply Dn_ | apply D1_ | refine Bs_ ?_ GE376.out) | exact HB.out)))); have n1_ := A0_ (blk_below (g := gb376) (o := .cells #[.int .i64 0, .slice none 0 0] 26 (0, 0)) (by (with_reducible repeat (first | refine Bn_ ?_ _ | refine Bd_ ?_ | refine Ba_ ?_ _)); exact BK376.out) hb); have n2_ := A0_ (below_step (by repeat (first | (with_reducible first | exact HB.out | apply Al_ | apply Dn_ | apply D1_ | refine Bs_ ?_ GE376.out) | exact HB.out)) hb); clear BK376 HB; have HO379 := n0_; have BK376 := n1_; have HB := n2_; clear n0_ n1_ n2_ hb ho13; obtain ⟨Ao14, co14, eo14⟩ := Kd.R_slice HO379.out; subst eo14; have hcz15_0 : w12.cell? ⟨gb376, 0, none⟩ = some (.int .i64 0) := (Bc_ BK376.out 0).trans rfl; have hcz15_1 : w12.cell? ⟨gb376, 1, none⟩ = some (.slice none 0 0) := (Bc_ BK376.out 1).trans rfl; have hfz15_0 := Bf_ BK376.out 0; have hfz15_1 := Bf_ BK376.out 1))
     refine bodyPost_ret (results_ct rfl _ _ gb376 26 #[.int .i64 a0, .slice Ao14 y377.length co14] (0, 0) _ rfl (by (with_reducible repeat (first | refine Bn_ ?_ _ | refine Bd_ ?_ | refine Ba_ ?_ _)); refine blk_put (cs := #[.int .i64 a0, .slice none 0 0]) ?_ 1 _ rfl; (with_reducible repeat (first | refine Bn_ ?_ _ | refine Bd_ ?_ | refine Ba_ ?_ _)); refine blk_put (cs := #[.int .i64 0, .slice none 0 0]) ?_ 0 _ rfl; (with_reducible repeat (first | refine Bn_ ?_ _ | refine Bd_ ?_ | refine Ba_ ?_ _)); exact BK376.out) Tryd.underlying26 rfl (by kernel_rfl)) rfl ?_
     exact ⟨_, by first | rfl | (simp [errW_none, errW_some] <;> rfl) | (simp only [← hji8]; first | rfl | (simp [errW_none, errW_some] <;> rfl)) | (simp [*, errW_none, errW_some] <;> rfl), by (with_reducible repeat (first | apply Ra_ | apply Rn_ | apply Rd_)); exact Kd.R_mono (Rf_ (p := ⟨gb376, 1, none⟩) (Rf_ (p := ⟨gb376, 0, none⟩) (Kd.R_types HO379.out BK376.out (by decide)) K2_ (.int .i64 a0)) K2_ (.slice Ao14 y377.length co14)) (fun _ hk => trivial), by repeat (first | (with_reducible first | exact HB.out | apply Al_ | apply Dn_ | apply D1_ | refine Bs_ ?_ GE376.out) | exact HB.out)⟩
    ·
     rw [if_neg c10] at H
     exact absurd H (by simp)
   ·
    rw [if_neg c9] at H
    exact absurd H (by simp)
def r17New.f (a0 : Int) (a1 : Int) : Option (Int × Int × List Int × Int × List Int × Int) := (r17sizes.f a0 a1).bind fun t381 => (if t381 = true then ((r17Granules.f a0 a1).bind fun t382 => ((r02New.f t382).bind fun bt383 => (if 0 ≤ t382 then (if (t382 : Int).toNat ≤ 35184372088832 then (some (a0, a1, (List.replicate (t382 : Int).toNat 0), bt383.1, bt383.2.1, 0)) else (none)) else (none)))) else (some (0, 0, ([] : List Int), 0, ([] : List Int), 2)))
def r17New.T5 : Bool × List (List Nat × List Nat) := (true, [([], []), ([], []), ([], []), ([2, 2], [2]), ([], []), ([0, 1, 3, 4], [0, 1, 3, 4]), ([5, 0, 1, 2, 3, 4, 5], [5]), ([6, 0, 1, 2, 3, 4, 5, 6], [])])
def r17New.B5 : List Nat := [0, 0, 0, 4, 0, 31, 63, 127]
theorem r17New.tab5 : rtab .any (opsOf Tryd.f10 5) = r17New.T5 := by kernel_rfl
theorem r17New.bits5 : waitsOk r17New.T5.2 r17New.B5 = true := by kernel_rfl
set_option maxHeartbeats 8000000 in
set_option maxRecDepth 100000 in
theorem r17New.calls (a0 : Int) (a1 : Int) (r1 : Int) (r2 : Int) (r3 : List Int) (r4 : Int) (r5 : List Int) (r6 : Int) (w : World) (h : r17New.f a0 a1 = some (r1, r2, r3, r4, r5, r6)) :
  Calls Tryd.prog 10 #[.int .i64 a0, .int .i64 a1] w fun e w' => ∃ v2_ v4_ : Value, e = .returned (.tuple #[.agg #[.int .i64 r1, .int .i64 r2, v2_, .int .i64 r4, v4_], .int .i64 r6]) ∧ Kd.R (Kd.int .i64) 3 w' w.heap.size (fun _ => True) v2_ r3 ∧ Kd.R (Kd.int .u64) 90 w' w.heap.size (fun _ => True) v4_ r5 ∧ Below w.heap.size w w' := by
 have hu28 := Tryd.underlying28
 have hu26 := Tryd.underlying26
 have HB := A0_ (Below.refl w.heap.size w)
 have H : ((r17sizes.f a0 a1).bind fun t381 => (if t381 = true then ((r17Granules.f a0 a1).bind fun t382 => ((r02New.f t382).bind fun bt383 => (if 0 ≤ t382 then (if (t382 : Int).toNat ≤ 35184372088832 then (some (a0, a1, (List.replicate (t382 : Int).toNat 0), bt383.1, bt383.2.1, 0)) else (none)) else (none)))) else (some (0, 0, ([] : List Int), 0, ([] : List Int), 2)))) = some (r1, r2, r3, r4, r5, r6) := h
 clear h
 replace H := Option.bind_eq_some_iff.mp H
 obtain ⟨t381, A30, H⟩ := H
 replace H : (if t381 = true then ((r17Granules.f a0 a1).bind fun t382 => ((r02New.f t382).bind fun bt383 => (if 0 ≤ t382 then (if (t382 : Int).toNat ≤ 35184372088832 then (some (a0, a1, (List.replicate (t382 : Int).toNat 0), bt383.1, bt383.2.1, 0)) else (none)) else (none)))) else (some (0, 0, ([] : List Int), 0, ([] : List Int), 2))) = some (r1, r2, r3, r4, r5, r6) := H
 have A3 := A0_ A30
 clear A30
 by_cases c4 : t381 = true
 ·
  subst c4
  have H1 : ((r17Granules.f a0 a1).bind fun t382 => ((r02New.f t382).bind fun bt383 => (if 0 ≤ t382 then (if (t382 : Int).toNat ≤ 35184372088832 then (some (a0, a1, (List.replicate (t382 : Int).toNat 0), bt383.1, bt383.2.1, 0)) else (none)) else (none)))) = some (r1, r2, r3, r4, r5, r6) := by rw [if_pos rfl] at H; exact H
  clear H
  have H := H1
  clear H1
  replace H := Option.bind_eq_some_iff.mp H
  obtain ⟨t382, A50, H⟩ := H
  replace H : ((r02New.f t382).bind fun bt383 => (if 0 ≤ t382 then (if (t382 : Int).toNat ≤ 35184372088832 then (some (a0, a1, (List.replicate (t382 : Int).toNat 0), bt383.1, bt383.2.1, 0)) else (none)) else (none))) = some (r1, r2, r3, r4, r5, r6) := H
  have A5 := A0_ A50
  clear A50
  replace H := Option.bind_eq_some_iff.mp H
  obtain ⟨⟨t383, t384, t387⟩, A60, H⟩ := H
  replace H : (if 0 ≤ t382 then (if (t382 : Int).toNat ≤ 35184372088832 then (some (a0, a1, (List.replicate (t382 : Int).toNat 0), t383, t384, 0)) else (none)) else (none)) = some (r1, r2, r3, r4, r5, r6) := H
  have A6 := A0_ A60
  clear A60
  by_cases c7 : 0 ≤ t382
  ·
   rw [if_pos c7] at H
   have c7b0 := eq_true c7
   have c7b1 : decide (0 ≤ t382) = true := decide_eq_true c7
   clear c7
   by_cases c8 : (t382 : Int).toNat ≤ 35184372088832
   ·
    rw [if_pos c8] at H
    have c8b0 := eq_true c8
    have c8b1 : decide ((t382 : Int).toNat ≤ 35184372088832) = true := decide_eq_true c8
    clear c8
    obtain ⟨y389, hy389⟩ : ∃ y_ : List Int, y_ = (List.replicate (t382 : Int).toNat 0) := ⟨_, rfl⟩
    replace H : (some (a0, a1, y389, t383, t384, 0)) = some (r1, r2, r3, r4, r5, r6) := by first | (rw [hy389]; with_reducible exact H) | (have H2_ := (Option.bind_some _ _).symm.trans H; rw [hy389]; with_reducible exact H2_) | (have H2_ := (Option.bind_some _ _).symm.trans H; with_reducible exact H2_) | with_reducible exact H | (rw [hy389]; exact H) | exact H
    have Ny389 := A0_ hy389
    clear hy389
    simp only [Option.some.injEq, Prod.mk.injEq] at H
    obtain ⟨rfl, rfl, rfl, rfl, rfl, rfl⟩ := H
    go_enter Tryd.func10, Tryd.ntmps10
    try go_wp2_with (first | ((with_reducible refine gate_dst (N := 4) rfl ?_); refine box_event ?hg (N := 4) ?hd (cs := #[.int .i64 0, .int .i64 0, .slice none 0 0, .int .i64 0, .slice none 0 0]) (t := 28) ?hr ?_; (case hd => rfl); (case hg => rfl); (case hr => first | (go_simp; done) | (go_simp; rfl)); intro gb380 hg w9 hbox hb; have n0_ := A0_ (below_step (by repeat (first | (with_reducible first | exact HB.out | apply Al_ | apply Dn_ | apply D1_) | exact HB.out)) hb); have n1_ := A0_ (hbox); have n2_ := A0_ ((by rw [hg]; exact (below_size (by repeat (first | (with_reducible first | exact HB.out | apply Al_ | apply Dn_ | apply D1_) | exact HB.out))) : w.heap.size ≤ gb380)); have n3_ := A0_ ((by rw [hg]; exact (below_size (by repeat (first | (with_reducible first | exact HB.out | apply Al_ | apply Dn_ | apply D1_) | exact HB.out))) : w.heap.size ≤ gb380)); clear HB; have HB := n0_; have BK380 := n1_; have GW380 := n2_; have GE380 := n3_; clear n0_ n1_ n2_ n3_ hb hbox hg) | ((with_reducible refine gate_callee (f := 30) rfl ?_); refine goesL_ (some 11) rfl rfl Tryd.func30 (by kernel_rfl) rfl #[.int .i64 a0, .int .i64 a1] rfl (by (try simp only [List.map_toArray, List.map_cons, List.map_nil]); first | done | rfl | (simp only [List.length_drop, List.length_take]; rfl)) ?_; (with_reducible refine (r17sizes.calls a0 a1 true _ A3.out).mono ?_); rintro e w' ⟨rfl, ⟨nd, rfl⟩⟩; refine ⟨_, rfl, ?_⟩; (try (rw [drewN_self w9]; generalize hq_ : World.drewN w9 _ = w9; have n0_ : Aside0 (w9.heap[gb380]? = some (.cells #[.int .i64 0, .int .i64 0, .slice none 0 0, .int .i64 0, .slice none 0 0] 28 (0, 0))) := ⟨by rw [← hq_]; exact (by (with_reducible repeat (first | refine Bn_ ?_ _ | refine Bd_ ?_ | refine Ba_ ?_ _)); exact BK380.out)⟩; have n1_ : Aside0 (Below w.heap.size w w9) := ⟨by rw [← hq_]; exact (by repeat (first | (with_reducible first | exact HB.out | apply Al_ | apply Dn_ | apply D1_ | refine Bs_ ?_ GE380.out) | exact HB.out))⟩; clear BK380 HB hq_; have BK380 := n0_; have HB := n1_; clear n0_ n1_))) | ((with_reducible refine gate_callee (f := 31) rfl ?_); refine goesL_ (some 16) rfl rfl Tryd.func31 (by kernel_rfl) rfl #[.int .i64 a0, .int .i64 a1] rfl (by (try simp only [List.map_toArray, List.map_cons, List.map_nil]); first | done | rfl | (simp only [List.length_drop, List.length_take]; rfl)) ?_; (with_reducible refine (r17Granules.calls a0 a1 t382 _ A5.out).mono ?_); rintro e w' ⟨rfl, ⟨nd, rfl⟩⟩; refine ⟨_, rfl, ?_⟩; (try (rw [drewN_self w9]; generalize hq_ : World.drewN w9 _ = w9; have n0_ : Aside0 (w9.heap[gb380]? = some (.cells #[.int .i64 0, .int .i64 0, .slice none 0 0, .int .i64 0, .slice none 0 0] 28 (0, 0))) := ⟨by rw [← hq_]; exact (by (with_reducible repeat (first | refine Bn_ ?_ _ | refine Bd_ ?_ | refine Ba_ ?_ _)); exact BK380.out)⟩; have n1_ : Aside0 (Below w.heap.size w w9) := ⟨by rw [← hq_]; exact (by repeat (first | (with_reducible first | exact HB.out | apply Al_ | apply Dn_ | apply D1_ | refine Bs_ ?_ GE380.out) | exact HB.out))⟩; clear BK380 HB hq_; have BK380 := n0_; have HB := n1_; clear n0_ n1_))) | ((with_reducible refine gate_callee (f := 32) rfl ?_); refine goesL_ (some 19) rfl rfl Tryd.func32 (by kernel_rfl) rfl #[.int .i64 t382] rfl (by (try simp only [List.map_toArray, List.map_cons, List.map_nil]); first | done | rfl | (simp only [List.length_drop, List.length_take]; rfl)) ?_; (with_reducible refine (r02New.calls t382 t383 t384 t387 _ A6.out).mono ?_); rintro e w10 ⟨v385, rfl, ho0, hb⟩; refine ⟨_, rfl, ?_⟩; have n0_ := A0_ (Kd.R_lower ho0 (below_size (by repeat (first | (with_reducible first | exact HB.out | apply Al_ | apply Dn_ | apply D1_ | refine Bs_ ?_ GE380.out) | exact HB.out)))); have n1_ := A0_ (blk_below (g := gb380) (o := .cells #[.int .i64 0, .int .i64 0, .slice none 0 0, .int .i64 0, .slice none 0 0] 28 (0, 0)) (by (with_reducible repeat (first | refine Bn_ ?_ _ | refine Bd_ ?_ | refine Ba_ ?_ _)); exact BK380.out) hb); have n2_ := A0_ (below_step (by repeat (first | (with_reducible first | exact HB.out | apply Al_ | apply Dn_ | apply D1_ | refine Bs_ ?_ GE380.out) | exact HB.out)) hb); clear BK380 HB; have HO386 := n0_; have BK380 := n1_; have HB := n2_; clear n0_ n1_ n2_; (try clear hb); (try clear hb2); (try clear hk); (try clear hi); (try clear ho0)) | ((with_reducible refine gate_dst (N := 7) rfl ?_); refine box_event ?hg (N := 7) ?hd (cs := #[.int .i64 0, .slice none 0 0]) (t := 26) ?hr ?_; (case hd => rfl); (case hg => rfl); (case hr => first | (go_simp; done) | (go_simp; rfl)); intro gb388 hg w11 hbox hb; have n0_ := A0_ (Kd.R_below (by (with_reducible repeat (first | apply Ra_ | apply Rn_ | apply Rd_)); exact HO386.out) hb); have n1_ := A0_ (blk_below (g := gb380) (o := .cells #[.int .i64 0, .int .i64 0, .slice none 0 0, .int .i64 0, .slice none 0 0] 28 (0, 0)) (by (with_reducible repeat (first | refine Bn_ ?_ _ | refine Bd_ ?_ | refine Ba_ ?_ _)); exact BK380.out) hb); have n2_ := A0_ (below_step (by repeat (first | (with_reducible first | exact HB.out | apply Al_ | apply Dn_ | apply D1_ | refine Bs_ ?_ GE380.out) | exact HB.out)) hb); have n3_ := A0_ (hbox); have n4_ := A0_ ((by rw [hg]; exact (below_size (by repeat (first | (with_reducible first | exact HB.out | apply Al_ | apply Dn_ | apply D1_ | refine Bs_ ?_ GE380.out) | exact HB.out))) : w.heap.size ≤ gb388)); have n5_ := A0_ ((by rw [hg]; exact (below_size (by repeat (first | (with_reducible first | exact HB.out | apply Al_ | apply Dn_ | apply D1_ | refine Bs_ ?_ GE380.out) | exact HB.out))) : w.heap.size ≤ gb388)); have n6_ := A0_ ((by rw [hg]; exact Nat.ne_of_lt (blk_lt (g := gb380) (o := .cells #[.int .i64 0, .int .i64 0, .slice none 0 0, .int .i64 0, .slice none 0 0] 28 (0, 0)) (by (with_reducible repeat (first | refine Bn_ ?_ _ | refine Bd_ ?_ | refine Ba_ ?_ _)); exact BK380.out)) : gb380 ≠ gb388)); have n7_ := A0_ ((by rw [hg]; exact Nat.ne_of_gt (blk_lt (g := gb380) (o := .cells #[.int .i64 0, .int .i64 0, .slice none 0 0, .int .i64 0, .slice none 0 0] 28 (0, 0)) (by (with_reducible repeat (first | refine Bn_ ?_ _ | refine Bd_ ?_ | refine Ba_ ?_ _)); exact BK380.out)) : gb388 ≠ gb380)); clear HO386 BK380 HB; have HO386 := n0_; have BK380 := n1_; have HB := n2_; have BK388 := n3_; have GW388 := n4_; have GE388 := n5_; have NB380_388 := n6_; have NB388_380 := n7_; clear n0_ n1_ n2_ n3_ n4_ n5_ n6_ n7_ hb hbox hg; have hnb12 := NB388_380.out; have hnc12 := NB380_388.out; have hcz13_0 : w11.cell? ⟨gb388, 0, none⟩ = some (.int .i64 0) := (Bc_ BK388.out 0).trans rfl; have hcz13_1 : w11.cell? ⟨gb388, 1, none⟩ = some (.slice none 0 0) := (Bc_ BK388.out 1).trans rfl; have hfz13_0 := Bf_ BK388.out 0; have hfz13_1 := Bf_ BK388.out 1; obtain ⟨Ao14, co14, eo14⟩ := Kd.R_slice HO386.out; subst eo14))
    have n0_ : Aside0 (Kd.R (Kd.int .u64) 90 ((w11.setCell ⟨gb388, 0, none⟩ (.int .i64 t383)).setCell ⟨gb388, 1, none⟩ (.slice Ao14 t384.length co14)) w.heap.size (fun _ => True) (.slice Ao14 t384.length co14) t384) := ⟨by (with_reducible repeat (first | apply Ra_ | apply Rn_ | apply Rd_)); exact Kd.R_mono (Rf_ (p := ⟨gb388, 1, none⟩) (Rf_ (p := ⟨gb388, 0, none⟩) (Kd.R_types HO386.out BK388.out (by decide)) K2_ (.int .i64 t383)) K2_ (.slice Ao14 t384.length co14)) (fun _ hk => trivial)⟩
    have n1_ : Aside0 (((w11.setCell ⟨gb388, 0, none⟩ (.int .i64 t383)).setCell ⟨gb388, 1, none⟩ (.slice Ao14 t384.length co14)).heap[gb380]? = some (.cells #[.int .i64 0, .int .i64 0, .slice none 0 0, .int .i64 0, .slice none 0 0] 28 (0, 0))) := ⟨by (with_reducible repeat (first | refine Bn_ ?_ _ | refine Bd_ ?_ | refine Ba_ ?_ _)); refine Bz_ ?_ NB380_388.out _; (with_reducible repeat (first | refine Bn_ ?_ _ | refine Bd_ ?_ | refine Ba_ ?_ _)); refine Bz_ ?_ NB380_388.out _; (with_reducible repeat (first | refine Bn_ ?_ _ | refine Bd_ ?_ | refine Ba_ ?_ _)); exact BK380.out⟩
    have n2_ : Aside0 (((w11.setCell ⟨gb388, 0, none⟩ (.int .i64 t383)).setCell ⟨gb388, 1, none⟩ (.slice Ao14 t384.length co14)).heap[gb388]? = some (.cells #[.int .i64 t383, .slice Ao14 t384.length co14] 26 (0, 0))) := ⟨by (with_reducible repeat (first | refine Bn_ ?_ _ | refine Bd_ ?_ | refine Ba_ ?_ _)); refine blk_put (cs := #[.int .i64 t383, .slice none 0 0]) ?_ 1 _ rfl; (with_reducible repeat (first | refine Bn_ ?_ _ | refine Bd_ ?_ | refine Ba_ ?_ _)); refine blk_put (cs := #[.int .i64 0, .slice none 0 0]) ?_ 0 _ rfl; (with_reducible repeat (first | refine Bn_ ?_ _ | refine Bd_ ?_ | refine Ba_ ?_ _)); exact BK388.out⟩
    have n3_ : Aside0 (Below w.heap.size w ((w11.setCell ⟨gb388, 0, none⟩ (.int .i64 t383)).setCell ⟨gb388, 1, none⟩ (.slice Ao14 t384.length co14))) := ⟨by repeat (first | (with_reducible first | exact HB.out | apply Al_ | apply Dn_ | apply D1_ | refine Bs_ ?_ GE380.out | refine Bs_ ?_ GE388.out) | exact HB.out)⟩
    (try clear HO386)
    (try clear BK380)
    (try clear BK388)
    (try clear HB)
    generalize ((w11.setCell ⟨gb388, 0, none⟩ (.int .i64 t383)).setCell ⟨gb388, 1, none⟩ (.slice Ao14 t384.length co14)) = w15 at n0_ n1_ n2_ n3_ ⊢
    have HO386 := n0_
    have BK380 := n1_
    have BK388 := n2_
    have HB := n3_
    clear n0_ n1_ n2_ n3_
    have n0_ := A0_ (Kd.R_drew HO386.out)
    have n1_ := A0_ (blk_drew BK380.out)
    have n2_ := A0_ (blk_drew BK388.out)
    have n3_ := A0_ (D1_ HB.out)
    clear HO386
    clear BK380
    clear BK388
    clear HB
    have HO386 := n0_
    have BK380 := n1_
    have BK388 := n2_
    have HB := n3_
    clear n0_ n1_ n2_ n3_
    refine start_ (n := 8) (S := fun w' => w'.cell? ⟨gb388, 0, none⟩ = some (.int .i64 t383) ∧ w'.cell? ⟨gb388, 1, none⟩ = some (.slice Ao14 t384.length co14)) (ds := []) #[false, false, false, false, false, false, false, false] (by kernel_rfl) rfl rfl ⟨(Bc_ BK388.out 0).trans rfl, (Bc_ BK388.out 1).trans rfl⟩ (fun hHeld => ?_); refine with_tabW r17New.tab5 r17New.bits5 (fun HT_ HW_ => ?_)
    generalize w15.drew = w16 at HO386 BK380 BK388 HB hHeld ⊢
    refine pure_ (i := 0) (N := some 22) (v := ?_) (a' := ?_) #[true, false, false, false, false, false, false, false] rfl rfl (any_of HT_.out (by kernel_rfl)) (fun _ _ _ h => h) (Or.inl ⟨by rfl, ?_⟩) ?_ ?_
    rotate_left
    ·
     intro w'
     go_simp
     with_reducible rfl
    rotate_left
    ·
     simp only [Act.put, Sa_, Sz_, Ss_, i64_w, i32_w]
     rfl
    refine pure_ (i := 1) (N := some 23) (v := ?_) (a' := ?_) #[true, true, false, false, false, false, false, false] rfl rfl (any_of HT_.out (by kernel_rfl)) (fun _ _ _ h => h) (Or.inl ⟨by rfl, ?_⟩) ?_ ?_
    rotate_left
    ·
     intro w'
     go_simp
     with_reducible rfl
    rotate_left
    ·
     simp only [Act.put, Sa_, Sz_, Ss_, i64_w, i32_w]
     rfl
    refine pure_ (i := 2) (N := some 24) (v := ?_) (a' := ?_) #[true, true, true, false, false, false, false, false] rfl rfl (any_of HT_.out (by kernel_rfl)) (fun _ _ _ h => h) (Or.inl ⟨by rfl, ?_⟩) ?_ ?_
    rotate_left
    ·
     intro w'
     go_simp
     with_reducible rfl
    rotate_left
    ·
     simp only [Act.put, Sa_, Sz_, Ss_, i64_w, i32_w]
     rfl
    refine take_ (i := 4) (N := some 26) (v := ?_) (a' := ?_) #[true, true, true, false, true, false, false, false] rfl rfl (take_ofW HT_.out HW_.out (by kernel_rfl)) (fun _ _ _ h => h) (Or.inl ⟨by rfl, ?_⟩) hHeld ?_ ?_
    rotate_left
    ·
     rintro w' ⟨s0, s1⟩
     go_simp
     with_reducible rfl
    rotate_left
    ·
     simp only [Act.put, Sa_, Sz_, Ss_, i64_w, i32_w]
     rfl
    refine one_ (i := 3) (N := some 25) #[true, true, true, true, true, false, false, false] rfl rfl (one_of HT_.out (by kernel_rfl)) (by decide) (fun K hK => ?_)
    refine Kd.R_make_step (Kd.int .i64) _ 3 (by rfl) (N := 25) rfl 23 _ _ rfl t382 rfl rfl Tryd.underlying23 (.int .i64 0) 8 info3 rfl (by decide) (by omega) 0 (ok := fun _ => True) (okp := fun _ => True) rfl (fun _ hk => hk) trivial (of_decide_eq_true (by first | (with_reducible assumption) | assumption)) (Nat.le_trans (Nat.mul_le_mul_right _ (of_decide_eq_true (by first | (with_reducible assumption) | assumption) : t382.toNat ≤ 35184372088832)) (by omega)) (Below.refl _ _) (Nat.le_refl _) ?_
    intro v390 w17 ho18 hb hg_ hnew_
    clear hg_ hnew_
    (first | rw [← Ny389.out] at ho18 | (simp only [Int.reduceToNat] at ho18; rw [← Ny389.out] at ho18))
    have n0_ := A0_ (Kd.R_below (by (with_reducible repeat (first | apply Ra_ | apply Rn_ | apply Rd_)); exact HO386.out) hb)
    have n1_ := A0_ (Kd.R_lower ho18 (below_size (by repeat (first | (with_reducible first | exact HB.out | apply Al_ | apply Dn_ | apply D1_ | refine Bs_ ?_ GE380.out | refine Bs_ ?_ GE388.out) | exact HB.out))))
    have n2_ := A0_ (blk_below (g := gb380) (o := .cells #[.int .i64 0, .int .i64 0, .slice none 0 0, .int .i64 0, .slice none 0 0] 28 (0, 0)) (by (with_reducible repeat (first | refine Bn_ ?_ _ | refine Bd_ ?_ | refine Ba_ ?_ _)); exact BK380.out) hb)
    have n3_ := A0_ (blk_below (g := gb388) (o := .cells #[.int .i64 t383, .slice Ao14 t384.length co14] 26 (0, 0)) (by (with_reducible repeat (first | refine Bn_ ?_ _ | refine Bd_ ?_ | refine Ba_ ?_ _)); exact BK388.out) hb)
    have n4_ := A0_ (below_step (by repeat (first | (with_reducible first | exact HB.out | apply Al_ | apply Dn_ | apply D1_ | refine Bs_ ?_ GE380.out | refine Bs_ ?_ GE388.out) | exact HB.out)) hb)
    clear HO386
    clear BK380
    clear BK388
    clear HB
    have HO386 := n0_
    have HO391 := n1_
    have BK380 := n2_
    have BK388 := n3_
    have HB := n4_
    clear n0_ n1_ n2_ n3_ n4_
    clear hb ho18
    obtain ⟨Ao19, co19, eo19⟩ := Kd.R_slice HO391.out
    (first | subst eo19 | (injection eo19 with f1_ f2_ f3_; have f4_ := f1_.symm; have f5_ := f3_.symm; clear f1_ f2_ f3_; subst f4_; subst f5_))
    refine hK.out _ _ ⟨(Bc_ BK388.out 0).trans rfl, (Bc_ BK388.out 1).trans rfl⟩ (fun hHeld => ?_)
    clear hK K
    refine norm_ (a' := ?_) ?_ ?_
    rotate_left
    ·
     show Act.put _ (some 25) _ = _
     simp only [Act.put, Sa_, Sz_, Ss_, i64_w, i32_w]
     rfl
    refine pure_ (i := 5) (N := some 27) (v := ?_) (a' := ?_) #[true, true, true, true, true, true, false, false] rfl rfl (any_of HT_.out (by kernel_rfl)) (fun _ _ _ h => h) (Or.inl ⟨by rfl, ?_⟩) ?_ ?_
    rotate_left
    ·
     intro w'
     go_simp
     with_reducible rfl
    rotate_left
    ·
     simp only [Act.put, Sa_, Sz_, Ss_, i64_w, i32_w]
     rfl
    refine one_ (i := 6) (N := none) #[true, true, true, true, true, true, true, false] rfl rfl (one_of HT_.out (by kernel_rfl)) (by decide) (fun K hK => ?_)
    have hs20 : w17.cell? ⟨gb380, 0, none⟩ = some (.int .i64 0) := (Bc_ BK380.out 0).trans rfl
    have hfs20 := Bf_ BK380.out 0
    have hns20_1 := NB388_380.out
    have hms20_1 := NB380_388.out
    have hs21 : w17.cell? ⟨gb380, 1, none⟩ = some (.int .i64 0) := (Bc_ BK380.out 1).trans rfl
    have hfs21 := Bf_ BK380.out 1
    have hns21_1 := NB388_380.out
    have hms21_1 := NB380_388.out
    have hs22 : w17.cell? ⟨gb380, 2, none⟩ = some (.slice none 0 0) := (Bc_ BK380.out 2).trans rfl
    have hfs22 := Bf_ BK380.out 2
    have hns22_1 := NB388_380.out
    have hms22_1 := NB380_388.out
    have hs23 : w17.cell? ⟨gb380, 3, none⟩ = some (.int .i64 0) := (Bc_ BK380.out 3).trans rfl
    have hfs23 := Bf_ BK380.out 3
    have hns23_1 := NB388_380.out
    have hms23_1 := NB380_388.out
    have hs24 : w17.cell? ⟨gb380, 4, none⟩ = some (.slice none 0 0) := (Bc_ BK380.out 4).trans rfl
    have hfs24 := Bf_ BK380.out 4
    have hns24_1 := NB388_380.out
    have hms24_1 := NB380_388.out
    refine skip_ (w1 := ?_) (by rfl) rfl ?_ ?_
    rotate_left
    ·
     go_simp
     rfl
    refine hK.out _ _ ⟨((cell_far (p := ⟨gb380, _, none⟩) NB388_380.out _).trans (((cell_far (p := ⟨gb380, _, none⟩) NB388_380.out _).trans (((cell_far (p := ⟨gb380, _, none⟩) NB388_380.out _).trans (((cell_far (p := ⟨gb380, _, none⟩) NB388_380.out _).trans (((cell_far (p := ⟨gb380, _, none⟩) NB388_380.out _).trans (hHeld.1)))))))))), ((cell_far (p := ⟨gb380, _, none⟩) NB388_380.out _).trans (((cell_far (p := ⟨gb380, _, none⟩) NB388_380.out _).trans (((cell_far (p := ⟨gb380, _, none⟩) NB388_380.out _).trans (((cell_far (p := ⟨gb380, _, none⟩) NB388_380.out _).trans (((cell_far (p := ⟨gb380, _, none⟩) NB388_380.out _).trans (hHeld.2))))))))))⟩ (fun hHeld => ?_)
    clear hK K
    refine pure_ (i := 7) (N := some 5) (v := ?_) (a' := ?_) #[true, true, true, true, true, true, true, true] rfl rfl (any_of HT_.out (by kernel_rfl)) (fun _ _ _ h => h) (Or.inl ⟨by rfl, ?_⟩) ?_ ?_
    rotate_left
    ·
     intro w'
     go_simp
     with_reducible rfl
    rotate_left
    ·
     simp only [Act.put, Sa_, Sz_, Ss_, i64_w, i32_w]
     rfl
    refine done_ (done_of HT_.out (by kernel_rfl)) ?_
    try go_wp2
    refine bodyPost_ret (results_ct rfl _ _ gb380 28 #[.int .i64 a0, .int .i64 a1, .slice Ao19 y389.length co19, .int .i64 t383, .slice Ao14 t384.length co14] (0, 0) _ rfl (by (with_reducible repeat (first | refine Bn_ ?_ _ | refine Bd_ ?_ | refine Ba_ ?_ _)); refine blk_put (cs := #[.int .i64 a0, .int .i64 a1, .slice Ao19 y389.length co19, .int .i64 t383, .slice none 0 0]) ?_ 4 _ rfl; (with_reducible repeat (first | refine Bn_ ?_ _ | refine Bd_ ?_ | refine Ba_ ?_ _)); refine blk_put (cs := #[.int .i64 a0, .int .i64 a1, .slice Ao19 y389.length co19, .int .i64 0, .slice none 0 0]) ?_ 3 _ rfl; (with_reducible repeat (first | refine Bn_ ?_ _ | refine Bd_ ?_ | refine Ba_ ?_ _)); refine blk_put (cs := #[.int .i64 a0, .int .i64 a1, .slice none 0 0, .int .i64 0, .slice none 0 0]) ?_ 2 _ rfl; (with_reducible repeat (first | refine Bn_ ?_ _ | refine Bd_ ?_ | refine Ba_ ?_ _)); refine blk_put (cs := #[.int .i64 a0, .int .i64 0, .slice none 0 0, .int .i64 0, .slice none 0 0]) ?_ 1 _ rfl; (with_reducible repeat (first | refine Bn_ ?_ _ | refine Bd_ ?_ | refine Ba_ ?_ _)); refine blk_put (cs := #[.int .i64 0, .int .i64 0, .slice none 0 0, .int .i64 0, .slice none 0 0]) ?_ 0 _ rfl; (with_reducible repeat (first | refine Bn_ ?_ _ | refine Bd_ ?_ | refine Ba_ ?_ _)); exact BK380.out) Tryd.underlying28 rfl (by kernel_rfl)) rfl ?_
    exact ⟨_, _, by first | rfl | (simp [errW_none, errW_some] <;> rfl) | (simp [*, errW_none, errW_some] <;> rfl), by (with_reducible repeat (first | apply Ra_ | apply Rn_ | apply Rd_)); exact Kd.R_mono (Rf_ (p := ⟨gb380, 4, none⟩) (Rf_ (p := ⟨gb380, 3, none⟩) (Rf_ (p := ⟨gb380, 2, none⟩) (Rf_ (p := ⟨gb380, 1, none⟩) (Rf_ (p := ⟨gb380, 0, none⟩) (Kd.R_types HO391.out BK380.out (by decide)) K2_ (.int .i64 a0)) K2_ (.int .i64 a1)) K2_ (.slice Ao19 y389.length co19)) K2_ (.int .i64 t383)) K2_ (.slice Ao14 t384.length co14)) (fun _ hk => trivial), by (with_reducible repeat (first | apply Ra_ | apply Rn_ | apply Rd_)); exact Kd.R_mono (Rf_ (p := ⟨gb380, 4, none⟩) (Rf_ (p := ⟨gb380, 3, none⟩) (Rf_ (p := ⟨gb380, 2, none⟩) (Rf_ (p := ⟨gb380, 1, none⟩) (Rf_ (p := ⟨gb380, 0, none⟩) (Kd.R_types HO386.out BK380.out (by decide)) K2_ (.int .i64 a0)) K2_ (.int .i64 a1)) K2_ (.slice Ao19 y389.length co19)) K2_ (.int .i64 t383)) K2_ (.slice Ao14 t384.length co14)) (fun _ hk => trivial), by repeat (first | (with_reducible first | exact HB.out | apply Al_ | apply Dn_ | apply D1_ | refine Bs_ ?_ GE380.out | refine Bs_ ?_ GE388.out) | exact HB.out)⟩
   ·
    rw [if_neg c8] at H
    exact absurd H (by simp)
  ·
   rw [if_neg c7] at H
   exact absurd H (by simp)
 ·
  replace c4 := Bool.eq_false_iff.mpr c4
  subst c4
  have H1 : (some (0, 0, ([] : List Int), 0, ([] : List Int), 2)) = some (r1, r2, r3, r4, r5, r6) := by rw [if_neg (show ¬ (false = true) by decide)] at H; exact H
  clear H
  have H := H1
  clear H1
  simp only [Option.some.injEq, Prod.mk.injEq] at H
  obtain ⟨rfl, rfl, rfl, rfl, rfl, rfl⟩ := H
  go_enter Tryd.func10, Tryd.ntmps10
  go_wp2_with (first | ((with_reducible refine gate_dst (N := 4) rfl ?_); refine box_event ?hg (N := 4) ?hd (cs := #[.int .i64 0, .int .i64 0, .slice none 0 0, .int .i64 0, .slice none 0 0]) (t := 28) ?hr ?_; (case hd => rfl); (case hg => rfl); (case hr => first | (go_simp; done) | (go_simp; rfl)); intro gb380 hg w25 hbox hb; have n0_ := A0_ (below_step (by repeat (first | (with_reducible first | exact HB.out | apply Al_ | apply Dn_ | apply D1_) | exact HB.out)) hb); have n1_ := A0_ (hbox); have n2_ := A0_ ((by rw [hg]; exact (below_size (by repeat (first | (with_reducible first | exact HB.out | apply Al_ | apply Dn_ | apply D1_) | exact HB.out))) : w.heap.size ≤ gb380)); have n3_ := A0_ ((by rw [hg]; exact (below_size (by repeat (first | (with_reducible first | exact HB.out | apply Al_ | apply Dn_ | apply D1_) | exact HB.out))) : w.heap.size ≤ gb380)); clear HB; have HB := n0_; have BK380 := n1_; have GW380 := n2_; have GE380 := n3_; clear n0_ n1_ n2_ n3_ hb hbox hg) | ((with_reducible refine gate_callee (f := 30) rfl ?_); refine goesL_ (some 11) rfl rfl Tryd.func30 (by kernel_rfl) rfl #[.int .i64 a0, .int .i64 a1] rfl (by (try simp only [List.map_toArray, List.map_cons, List.map_nil]); first | done | rfl | (simp only [List.length_drop, List.length_take]; rfl)) ?_; (with_reducible refine (r17sizes.calls a0 a1 false _ A3.out).mono ?_); rintro e w' ⟨rfl, ⟨nd, rfl⟩⟩; refine ⟨_, rfl, ?_⟩; (try (rw [drewN_self w25]; generalize hq_ : World.drewN w25 _ = w25; have n0_ : Aside0 (w25.heap[gb380]? = some (.cells #[.int .i64 0, .int .i64 0, .slice none 0 0, .int .i64 0, .slice none 0 0] 28 (0, 0))) := ⟨by rw [← hq_]; exact (by (with_reducible repeat (first | refine Bn_ ?_ _ | refine Bd_ ?_ | refine Ba_ ?_ _)); exact BK380.out)⟩; have n1_ : Aside0 (Below w.heap.size w w25) := ⟨by rw [← hq_]; exact (by repeat (first | (with_reducible first | exact HB.out | apply Al_ | apply Dn_ | apply D1_ | refine Bs_ ?_ GE380.out) | exact HB.out))⟩; clear BK380 HB hq_; have BK380 := n0_; have HB := n1_; clear n0_ n1_)); have hcz26_0 : w25.cell? ⟨gb380, 0, none⟩ = some (.int .i64 0) := (Bc_ BK380.out 0).trans rfl; have hcz26_1 : w25.cell? ⟨gb380, 1, none⟩ = some (.int .i64 0) := (Bc_ BK380.out 1).trans rfl; have hcz26_2 : w25.cell? ⟨gb380, 2, none⟩ = some (.slice none 0 0) := (Bc_ BK380.out 2).trans rfl; have hcz26_3 : w25.cell? ⟨gb380, 3, none⟩ = some (.int .i64 0) := (Bc_ BK380.out 3).trans rfl; have hcz26_4 : w25.cell? ⟨gb380, 4, none⟩ = some (.slice none 0 0) := (Bc_ BK380.out 4).trans rfl; have hfz26_0 := Bf_ BK380.out 0; have hfz26_1 := Bf_ BK380.out 1; have hfz26_2 := Bf_ BK380.out 2; have hfz26_3 := Bf_ BK380.out 3; have hfz26_4 := Bf_ BK380.out 4))
  refine bodyPost_ret (results_ct rfl _ _ gb380 28 #[.int .i64 0, .int .i64 0, .slice none 0 0, .int .i64 0, .slice none 0 0] (0, 0) _ rfl (by (with_reducible repeat (first | refine Bn_ ?_ _ | refine Bd_ ?_ | refine Ba_ ?_ _)); refine blk_put (cs := #[.int .i64 0, .int .i64 0, .slice none 0 0, .int .i64 0, .slice none 0 0]) ?_ 4 _ rfl; (with_reducible repeat (first | refine Bn_ ?_ _ | refine Bd_ ?_ | refine Ba_ ?_ _)); refine blk_put (cs := #[.int .i64 0, .int .i64 0, .slice none 0 0, .int .i64 0, .slice none 0 0]) ?_ 3 _ rfl; (with_reducible repeat (first | refine Bn_ ?_ _ | refine Bd_ ?_ | refine Ba_ ?_ _)); refine blk_put (cs := #[.int .i64 0, .int .i64 0, .slice none 0 0, .int .i64 0, .slice none 0 0]) ?_ 2 _ rfl; (with_reducible repeat (first | refine Bn_ ?_ _ | refine Bd_ ?_ | refine Ba_ ?_ _)); refine blk_put (cs := #[.int .i64 0, .int .i64 0, .slice none 0 0, .int .i64 0, .slice none 0 0]) ?_ 1 _ rfl; (with_reducible repeat (first | refine Bn_ ?_ _ | refine Bd_ ?_ | refine Ba_ ?_ _)); refine blk_put (cs := #[.int .i64 0, .int .i64 0, .slice none 0 0, .int .i64 0, .slice none 0 0]) ?_ 0 _ rfl; (with_reducible repeat (first | refine Bn_ ?_ _ | refine Bd_ ?_ | refine Ba_ ?_ _)); exact BK380.out) Tryd.underlying28 rfl (by kernel_rfl)) rfl ?_
  exact ⟨_, _, by first | rfl | (simp [errW_none, errW_some] <;> rfl) | (simp [*, errW_none, errW_some] <;> rfl), by first | exact Kd.R_nil _ _ _ _ _ | exact Kd.N_nil _ _ _ _ _ | exact Kd.V_nil _ _ _ _ _ | exact Kd.Q_nil _ _ _ _ _ | exact Kd.S_nil _ _ _ _ _, by first | exact Kd.R_nil _ _ _ _ _ | exact Kd.N_nil _ _ _ _ _ | exact Kd.V_nil _ _ _ _ _ | exact Kd.Q_nil _ _ _ _ _ | exact Kd.S_nil _ _ _ _ _, by repeat (first | (with_reducible first | exact HB.out | apply Al_ | apply Dn_ | apply D1_ | refine Bs_ ?_ GE380.out) | exact HB.out)⟩
mutual
def r02Same.j0 : Nat → Bool → Int → List Int → Int → List Int → Option (Bool)
 | 0, _, _, _, _, _ => none
 | k + 1, x19, x393000, x393001, x394000, x394001 => if x19 = true then (some false) else (r02Same.l0 k 0 x393000 x393001 x394000 x394001)
def r02Same.l0 : Nat → Int → Int → List Int → Int → List Int → Option (Bool)
 | 0, _, _, _, _, _ => none
 | k + 1, x5, x393000, x393001, x394000, x394001 => if x5 < (x393001.length : Int) then (if 0 ≤ x5 then (if x5 < (x394001.length : Int) then (if (rd x393001 x5) = (rd x394001 x5) then (r02Same.l0 k (wrap64 (x5 + 1)) x393000 x393001 x394000 x394001) else (some false)) else (none)) else (none)) else (some true)
end
def r02Same.f (k : Nat) (a0_0 : Int) (l0_1 : List Int) (a1_0 : Int) (l1_1 : List Int) : Option (Bool) := if a0_0 = a1_0 then (r02Same.j0 k ((l0_1.length : Int) != (l1_1.length : Int)) a0_0 l0_1 a1_0 l1_1) else (r02Same.j0 k true a0_0 l0_1 a1_0 l1_1)
set_option maxHeartbeats 8000000 in
set_option maxRecDepth 100000 in
theorem r02Same.calls (k : Nat) (a0_0 : Int) (A0_1 : Option Addr) (c0_1 : Nat) (l0_1 : List Int) (a1_0 : Int) (A1_1 : Option Addr) (c1_1 : Nat) (l1_1 : List Int) (r : Bool) (w : World) (hr0_1 : Kd.C (Kd.int .u64) w A0_1 l0_1.length l0_1) (hc0_1 : l0_1.length ≤ c0_1) (hr1_1 : Kd.C (Kd.int .u64) w A1_1 l1_1.length l1_1) (hc1_1 : l1_1.length ≤ c1_1) (h : r02Same.f k a0_0 l0_1 a1_0 l1_1 = some r) :
  Calls Tryd.prog 20 #[.agg #[.int .i64 a0_0, .slice A0_1 l0_1.length c0_1], .agg #[.int .i64 a1_0, .slice A1_1 l1_1.length c1_1]] w fun e w' => e = .returned (.bool r) ∧ Below w.heap.size w w' := by
 have hu26 := Tryd.underlying26
 have HR0_1 := A0_ hr0_1
 have HC0_1 := A0_ hc0_1
 clear hr0_1 hc0_1
 have HR1_1 := A0_ hr1_1
 have HC1_1 := A0_ hc1_1
 clear hr1_1 hc1_1
 have HB := A0_ (Below.refl w.heap.size w)
 have H : (if a0_0 = a1_0 then (r02Same.j0 k ((l0_1.length : Int) != (l1_1.length : Int)) a0_0 l0_1 a1_0 l1_1) else (r02Same.j0 k true a0_0 l0_1 a1_0 l1_1)) = some r := h
 clear h
 have HC3 := A0_ H
 clear H
 go_enter Tryd.func20, Tryd.ntmps20
 go_upto_region 1 with (first | ((with_reducible refine gate_dst (N := 2) rfl ?_); (try (refine gate_guard (by rfl) ?_; dsimp only)); refine box_event ?hg (N := 2) ?hd (cs := #[.int .i64 a0_0, .slice A0_1 l0_1.length c0_1]) (t := 26) ?hr ?_; (case hd => rfl); (case hg => rfl); (case hr => first | (go_simp; done) | (go_simp; rfl)); intro gb392 hg w4 hbox hb; have n0_ := A0_ (below_step (by repeat (first | (with_reducible first | exact HB.out | apply Al_ | apply Dn_ | apply D1_) | exact HB.out)) hb); have n1_ := A0_ (hbox); have n2_ := A0_ ((by rw [hg]; exact (below_size (by repeat (first | (with_reducible first | exact HB.out | apply Al_ | apply Dn_ | apply D1_) | exact HB.out))) : w.heap.size ≤ gb392)); have n3_ := A0_ ((by rw [hg]; exact (below_size (by repeat (first | (with_reducible first | exact HB.out | apply Al_ | apply Dn_ | apply D1_) | exact HB.out))) : w.heap.size ≤ gb392)); clear HB; have HB := n0_; have BK392 := n1_; have GW392 := n2_; have GE392 := n3_; clear n0_ n1_ n2_ n3_ hb hbox hg) | ((with_reducible refine gate_dst (N := 3) rfl ?_); (try (refine gate_guard (by rfl) ?_; dsimp only)); refine box_event ?hg (N := 3) ?hd (cs := #[.int .i64 a1_0, .slice A1_1 l1_1.length c1_1]) (t := 26) ?hr ?_; (case hd => rfl); (case hg => rfl); (case hr => first | (go_simp; done) | (go_simp; rfl)); intro gb393 hg w5 hbox hb; have n0_ := A0_ (blk_below (g := gb392) (o := .cells #[.int .i64 a0_0, .slice A0_1 l0_1.length c0_1] 26 (0, 0)) (by (with_reducible repeat (first | refine Bn_ ?_ _ | refine Bd_ ?_ | refine Ba_ ?_ _)); exact BK392.out) hb); have n1_ := A0_ (below_step (by repeat (first | (with_reducible first | exact HB.out | apply Al_ | apply Dn_ | apply D1_ | refine Bs_ ?_ GE392.out) | exact HB.out)) hb); have n2_ := A0_ (hbox); have n3_ := A0_ ((by rw [hg]; exact (below_size (by repeat (first | (with_reducible first | exact HB.out | apply Al_ | apply Dn_ | apply D1_ | refine Bs_ ?_ GE392.out) | exact HB.out))) : w.heap.size ≤ gb393)); have n4_ := A0_ ((by rw [hg]; exact (below_size (by repeat (first | (with_reducible first | exact HB.out | apply Al_ | apply Dn_ | apply D1_ | refine Bs_ ?_ GE392.out) | exact HB.out))) : w.heap.size ≤ gb393)); have n5_ := A0_ ((by rw [hg]; exact Nat.ne_of_lt (blk_lt (g := gb392) (o := .cells #[.int .i64 a0_0, .slice A0_1 l0_1.length c0_1] 26 (0, 0)) (by (with_reducible repeat (first | refine Bn_ ?_ _ | refine Bd_ ?_ | refine Ba_ ?_ _)); exact BK392.out)) : gb392 ≠ gb393)); have n6_ := A0_ ((by rw [hg]; exact Nat.ne_of_gt (blk_lt (g := gb392) (o := .cells #[.int .i64 a0_0, .slice A0_1 l0_1.length c0_1] 26 (0, 0)) (by (with_reducible repeat (first | refine Bn_ ?_ _ | refine Bd_ ?_ | refine Ba_ ?_ _)); exact BK392.out)) : gb393 ≠ gb392)); clear BK392 HB; have BK392 := n0_; have HB := n1_; have BK393 := n2_; have GW393 := n3_; have GE393 := n4_; have NB392_393 := n5_; have NB393_392 := n6_; clear n0_ n1_ n2_ n3_ n4_ n5_ n6_ hb hbox hg))
 repeat (go_quiet (first | ((with_reducible refine gate_dst (N := 2) rfl ?_); (try (refine gate_guard (by rfl) ?_; dsimp only)); refine box_event ?hg (N := 2) ?hd (cs := #[.int .i64 a0_0, .slice A0_1 l0_1.length c0_1]) (t := 26) ?hr ?_; (case hd => rfl); (case hg => rfl); (case hr => first | (go_simp; done) | (go_simp; rfl)); intro gb392 hg w4 hbox hb; have n0_ := A0_ (below_step (by repeat (first | (with_reducible first | exact HB.out | apply Al_ | apply Dn_ | apply D1_) | exact HB.out)) hb); have n1_ := A0_ (hbox); have n2_ := A0_ ((by rw [hg]; exact (below_size (by repeat (first | (with_reducible first | exact HB.out | apply Al_ | apply Dn_ | apply D1_) | exact HB.out))) : w.heap.size ≤ gb392)); have n3_ := A0_ ((by rw [hg]; exact (below_size (by repeat (first | (with_reducible first | exact HB.out | apply Al_ | apply Dn_ | apply D1_) | exact HB.out))) : w.heap.size ≤ gb392)); clear HB; have HB := n0_; have BK392 := n1_; have GW392 := n2_; have GE392 := n3_; clear n0_ n1_ n2_ n3_ hb hbox hg) | ((with_reducible refine gate_dst (N := 3) rfl ?_); (try (refine gate_guard (by rfl) ?_; dsimp only)); refine box_event ?hg (N := 3) ?hd (cs := #[.int .i64 a1_0, .slice A1_1 l1_1.length c1_1]) (t := 26) ?hr ?_; (case hd => rfl); (case hg => rfl); (case hr => first | (go_simp; done) | (go_simp; rfl)); intro gb393 hg w5 hbox hb; have n0_ := A0_ (blk_below (g := gb392) (o := .cells #[.int .i64 a0_0, .slice A0_1 l0_1.length c0_1] 26 (0, 0)) (by (with_reducible repeat (first | refine Bn_ ?_ _ | refine Bd_ ?_ | refine Ba_ ?_ _)); exact BK392.out) hb); have n1_ := A0_ (below_step (by repeat (first | (with_reducible first | exact HB.out | apply Al_ | apply Dn_ | apply D1_ | refine Bs_ ?_ GE392.out) | exact HB.out)) hb); have n2_ := A0_ (hbox); have n3_ := A0_ ((by rw [hg]; exact (below_size (by repeat (first | (with_reducible first | exact HB.out | apply Al_ | apply Dn_ | apply D1_ | refine Bs_ ?_ GE392.out) | exact HB.out))) : w.heap.size ≤ gb393)); have n4_ := A0_ ((by rw [hg]; exact (below_size (by repeat (first | (with_reducible first | exact HB.out | apply Al_ | apply Dn_ | apply D1_ | refine Bs_ ?_ GE392.out) | exact HB.out))) : w.heap.size ≤ gb393)); have n5_ := A0_ ((by rw [hg]; exact Nat.ne_of_lt (blk_lt (g := gb392) (o := .cells #[.int .i64 a0_0, .slice A0_1 l0_1.length c0_1] 26 (0, 0)) (by (with_reducible repeat (first | refine Bn_ ?_ _ | refine Bd_ ?_ | refine Ba_ ?_ _)); exact BK392.out)) : gb392 ≠ gb393)); have n6_ := A0_ ((by rw [hg]; exact Nat.ne_of_gt (blk_lt (g := gb392) (o := .cells #[.int .i64 a0_0, .slice A0_1 l0_1.length c0_1] 26 (0, 0)) (by (with_reducible repeat (first | refine Bn_ ?_ _ | refine Bd_ ?_ | refine Ba_ ?_ _)); exact BK392.out)) : gb393 ≠ gb392)); clear BK392 HB; have BK392 := n0_; have HB := n1_; have BK393 := n2_; have GW393 := n3_; have GE393 := n4_; have NB392_393 := n5_; have NB393_392 := n6_; clear n0_ n1_ n2_ n3_ n4_ n5_ n6_ hb hbox hg)); go_upto_region 1 with (first | ((with_reducible refine gate_dst (N := 2) rfl ?_); (try (refine gate_guard (by rfl) ?_; dsimp only)); refine box_event ?hg (N := 2) ?hd (cs := #[.int .i64 a0_0, .slice A0_1 l0_1.length c0_1]) (t := 26) ?hr ?_; (case hd => rfl); (case hg => rfl); (case hr => first | (go_simp; done) | (go_simp; rfl)); intro gb392 hg w4 hbox hb; have n0_ := A0_ (below_step (by repeat (first | (with_reducible first | exact HB.out | apply Al_ | apply Dn_ | apply D1_) | exact HB.out)) hb); have n1_ := A0_ (hbox); have n2_ := A0_ ((by rw [hg]; exact (below_size (by repeat (first | (with_reducible first | exact HB.out | apply Al_ | apply Dn_ | apply D1_) | exact HB.out))) : w.heap.size ≤ gb392)); have n3_ := A0_ ((by rw [hg]; exact (below_size (by repeat (first | (with_reducible first | exact HB.out | apply Al_ | apply Dn_ | apply D1_) | exact HB.out))) : w.heap.size ≤ gb392)); clear HB; have HB := n0_; have BK392 := n1_; have GW392 := n2_; have GE392 := n3_; clear n0_ n1_ n2_ n3_ hb hbox hg) | ((with_reducible refine gate_dst (N := 3) rfl ?_); (try (refine gate_guard (by rfl) ?_; dsimp only)); refine box_event ?hg (N := 3) ?hd (cs := #[.int .i64 a1_0, .slice A1_1 l1_1.length c1_1]) (t := 26) ?hr ?_; (case hd => rfl); (case hg => rfl); (case hr => first | (go_simp; done) | (go_simp; rfl)); intro gb393 hg w5 hbox hb; have n0_ := A0_ (blk_below (g := gb392) (o := .cells #[.int .i64 a0_0, .slice A0_1 l0_1.length c0_1] 26 (0, 0)) (by (with_reducible repeat (first | refine Bn_ ?_ _ | refine Bd_ ?_ | refine Ba_ ?_ _)); exact BK392.out) hb); have n1_ := A0_ (below_step (by repeat (first | (with_reducible first | exact HB.out | apply Al_ | apply Dn_ | apply D1_ | refine Bs_ ?_ GE392.out) | exact HB.out)) hb); have n2_ := A0_ (hbox); have n3_ := A0_ ((by rw [hg]; exact (below_size (by repeat (first | (with_reducible first | exact HB.out | apply Al_ | apply Dn_ | apply D1_ | refine Bs_ ?_ GE392.out) | exact HB.out))) : w.heap.size ≤ gb393)); have n4_ := A0_ ((by rw [hg]; exact (below_size (by repeat (first | (with_reducible first | exact HB.out | apply Al_ | apply Dn_ | apply D1_ | refine Bs_ ?_ GE392.out) | exact HB.out))) : w.heap.size ≤ gb393)); have n5_ := A0_ ((by rw [hg]; exact Nat.ne_of_lt (blk_lt (g := gb392) (o := .cells #[.int .i64 a0_0, .slice A0_1 l0_1.length c0_1] 26 (0, 0)) (by (with_reducible repeat (first | refine Bn_ ?_ _ | refine Bd_ ?_ | refine Ba_ ?_ _)); exact BK392.out)) : gb392 ≠ gb393)); have n6_ := A0_ ((by rw [hg]; exact Nat.ne_of_gt (blk_lt (g := gb392) (o := .cells #[.int .i64 a0_0, .slice A0_1 l0_1.length c0_1] 26 (0, 0)) (by (with_reducible repeat (first | refine Bn_ ?_ _ | refine Bd_ ?_ | refine Ba_ ?_ _)); exact BK392.out)) : gb393 ≠ gb392)); clear BK392 HB; have BK392 := n0_; have HB := n1_; have BK393 := n2_; have GW393 := n3_; have GE393 := n4_; have NB392_393 := n5_; have NB393_392 := n6_; clear n0_ n1_ n2_ n3_ n4_ n5_ n6_ hb hbox hg)))
 (try simp only [Act.put, Sa_, Sz_, Ss_])
 go_cut [19] (fun v19 wc => ∃ (kq : Nat) (x19_2 : Bool), v19 = .bool x19_2 ∧ Aside0 (r02Same.j0 kq x19_2 a0_0 l0_1 a1_0 l1_1 = some r) ∧ Aside0 (kq ≤ k) ∧ Aside0 (wc.heap[gb392]? = some (.cells #[.int .i64 a0_0, (.slice A0_1 l0_1.length c0_1)] 26 (0, 0))) ∧ Aside0 (wc.heap[gb393]? = some (.cells #[.int .i64 a1_0, (.slice A1_1 l1_1.length c1_1)] 26 (0, 0))) ∧ Aside0 (Below w.heap.size w wc))
 case first =>
  have H := HC3.out
  clear HC3
  by_cases c6 : a0_0 = a1_0
  ·
   rw [if_pos c6] at H
   have c6b0 : (a0_0 == a1_0) = true := beq_iff_eq.mpr c6
   have c6b1 : (a0_0 != a1_0) = false := bne_eq_false_iff_eq.mpr c6
   clear c6
   (first | rw [c6b0] | (simp only [i64_w, i32_w]; rw [c6b0]) | skip)
   have H' := A0_ H
   clear H
   have hnb7 := NB392_393.out
   have hnc7 := NB393_392.out
   have hcz8_0 : w5.cell? ⟨gb392, 0, none⟩ = some (.int .i64 a0_0) := (Bc_ BK392.out 0).trans rfl
   have hcz8_1 : w5.cell? ⟨gb392, 1, none⟩ = some (.slice A0_1 l0_1.length c0_1) := (Bc_ BK392.out 1).trans rfl
   have hfz8_0 := Bf_ BK392.out 0
   have hfz8_1 := Bf_ BK392.out 1
   have hcz9_0 : w5.cell? ⟨gb393, 0, none⟩ = some (.int .i64 a1_0) := (Bc_ BK393.out 0).trans rfl
   have hcz9_1 : w5.cell? ⟨gb393, 1, none⟩ = some (.slice A1_1 l1_1.length c1_1) := (Bc_ BK393.out 1).trans rfl
   have hfz9_0 := Bf_ BK393.out 0
   have hfz9_1 := Bf_ BK393.out 1
   go_wp2
   repeat (go_quiet (fail); try go_wp2)
   go_meet
   case rel => exact ⟨_, (((l0_1.length : Int) != (l1_1.length : Int))), (by first | rfl | (simp; done) | (simp [*]; done)), H', ⟨by first | omega | exact Nat.le_refl _⟩, ⟨by (with_reducible repeat (first | refine Bn_ ?_ _ | refine Bd_ ?_ | refine Ba_ ?_ _)); exact BK392.out⟩, ⟨by (with_reducible repeat (first | refine Bn_ ?_ _ | refine Bd_ ?_ | refine Ba_ ?_ _)); exact BK393.out⟩, ⟨by repeat (first | (with_reducible first | exact HB.out | apply Al_ | apply Dn_ | apply D1_ | refine Bs_ ?_ GE392.out | refine Bs_ ?_ GE393.out) | exact HB.out)⟩⟩
  ·
   rw [if_neg c6] at H
   have c6b0 : (a0_0 == a1_0) = false := beq_eq_false_iff_ne.mpr c6
   have c6b1 : (a0_0 != a1_0) = true := bne_iff_ne.mpr c6
   (first | rw [c6b0] | (simp only [i64_w, i32_w]; rw [c6b0]) | skip)
   have H' := A0_ H
   clear H
   have hnb10 := NB392_393.out
   have hnc10 := NB393_392.out
   have hcz11_0 : w5.cell? ⟨gb392, 0, none⟩ = some (.int .i64 a0_0) := (Bc_ BK392.out 0).trans rfl
   have hcz11_1 : w5.cell? ⟨gb392, 1, none⟩ = some (.slice A0_1 l0_1.length c0_1) := (Bc_ BK392.out 1).trans rfl
   have hfz11_0 := Bf_ BK392.out 0
   have hfz11_1 := Bf_ BK392.out 1
   have hcz12_0 : w5.cell? ⟨gb393, 0, none⟩ = some (.int .i64 a1_0) := (Bc_ BK393.out 0).trans rfl
   have hcz12_1 : w5.cell? ⟨gb393, 1, none⟩ = some (.slice A1_1 l1_1.length c1_1) := (Bc_ BK393.out 1).trans rfl
   have hfz12_0 := Bf_ BK393.out 0
   have hfz12_1 := Bf_ BK393.out 1
   go_wp2
   repeat (go_quiet (fail); try go_wp2)
   go_meet
   case rel => exact ⟨_, (true), (by first | rfl | (simp; done) | (simp [*]; done)), H', ⟨by first | omega | exact Nat.le_refl _⟩, ⟨by (with_reducible repeat (first | refine Bn_ ?_ _ | refine Bd_ ?_ | refine Ba_ ?_ _)); exact BK392.out⟩, ⟨by (with_reducible repeat (first | refine Bn_ ?_ _ | refine Bd_ ?_ | refine Ba_ ?_ _)); exact BK393.out⟩, ⟨by repeat (first | (with_reducible first | exact HB.out | apply Al_ | apply Dn_ | apply D1_ | refine Bs_ ?_ GE392.out | refine Bs_ ?_ GE393.out) | exact HB.out)⟩⟩
 case rest =>
  clear HC3
  try clear c1
  try clear c2
  try clear p2
  try clear c6
  try clear c6b0
  try clear c6b1
  try clear c7
  try clear c10
  try clear hcz11_0
  try clear hcz11_1
  try clear hcz12_0
  try clear hcz12_1
  try clear hcz8_0
  try clear hcz8_1
  try clear hcz9_0
  try clear hcz9_1
  try clear hfz11_0
  try clear hfz11_1
  try clear hfz12_0
  try clear hfz12_1
  try clear hfz8_0
  try clear hfz8_1
  try clear hfz9_0
  try clear hfz9_1
  obtain ⟨kq, x19_2, rfl, HA, HJ2, BK392, BK393, HB⟩ := hcut
  cases kq with
  | zero => exact absurd HA.out (by simp [r02Same.j0])
  | succ kj2 =>
   have H := HA.out
   clear HA
   simp only [r02Same.j0] at H
   by_cases c13 : x19_2 = true
   ·
    subst c13
    have H1 : (some false) = some r := by rw [if_pos rfl] at H; exact H
    clear H
    have H := H1
    clear H1
    obtain rfl := Option.some.inj H
    go_wp2
    repeat (go_quiet (fail); try go_wp2)
    go_ret
    exact ⟨by first | rfl | (simp [errW_none, errW_some] <;> rfl) | (simp [*, errW_none, errW_some] <;> rfl), by repeat (first | (with_reducible first | exact HB.out | apply Al_ | apply Dn_ | apply D1_ | refine Bs_ ?_ GE392.out | refine Bs_ ?_ GE393.out) | exact HB.out)⟩
   ·
    replace c13 := Bool.eq_false_iff.mpr c13
    subst c13
    have H1 : (r02Same.l0 kj2 0 a0_0 l0_1 a1_0 l1_1) = some r := by rw [if_neg (show ¬ (false = true) by decide)] at H; exact H
    clear H
    have H := H1
    clear H1
    have H' := A0_ H
    clear H
    go_wp2
    repeat (go_quiet (fail); try go_wp2)
    go_loopg [5] kj2 (fun kq v5 w' => ∃ (x5_2 : Int), v5 = .int .i64 x5_2 ∧ Aside0 (r02Same.l0 kq x5_2 a0_0 l0_1 a1_0 l1_1 = some r) ∧ Aside0 (kq ≤ kj2) ∧ Aside0 (w'.heap[gb392]? = some (.cells #[.int .i64 a0_0, (.slice A0_1 l0_1.length c0_1)] 26 (0, 0))) ∧ Aside0 (w'.heap[gb393]? = some (.cells #[.int .i64 a1_0, (.slice A1_1 l1_1.length c1_1)] 26 (0, 0))) ∧ Aside0 (Below w.heap.size w w'))
    case atStart => exact ⟨(0), (by first | rfl | (simp; done) | (simp [*]; done)), H', ⟨Nat.le_refl _⟩, ⟨by (with_reducible repeat (first | refine Bn_ ?_ _ | refine Bd_ ?_ | refine Ba_ ?_ _)); exact BK392.out⟩, ⟨by (with_reducible repeat (first | refine Bn_ ?_ _ | refine Bd_ ?_ | refine Ba_ ?_ _)); exact BK393.out⟩, ⟨by repeat (first | (with_reducible first | exact HB.out | apply Al_ | apply Dn_ | apply D1_ | refine Bs_ ?_ GE392.out | refine Bs_ ?_ GE393.out) | exact HB.out)⟩⟩
    case round =>
     clear H'
     try clear c1
     try clear c2
     try clear p2
     try clear c6
     try clear c6b0
     try clear c6b1
     try clear c7
     try clear c10
     try clear c13
     try clear hcz11_0
     try clear hcz11_1
     try clear hcz12_0
     try clear hcz12_1
     try clear hcz8_0
     try clear hcz8_1
     try clear hcz9_0
     try clear hcz9_1
     try clear hfz11_0
     try clear hfz11_1
     try clear hfz12_0
     try clear hfz12_1
     try clear hfz8_0
     try clear hfz8_1
     try clear hfz9_0
     try clear hfz9_1
     try clear p2
     try clear BK392
     try clear BK393
     obtain ⟨x5_2, rfl, HA, HK2, BK392, BK393, HB⟩ := hrel
     cases gk with
     | zero => exact absurd HA.out (by simp [r02Same.l0])
     | succ k2 =>
      have H := HA.out
      clear HA
      simp only [r02Same.l0] at H
      by_cases c14 : x5_2 < (l0_1.length : Int)
      ·
       rw [if_pos c14] at H
       have c14b0 : decide (x5_2 < (l0_1.length : Int)) = true := decide_eq_true c14
       clear c14
       by_cases c15 : 0 ≤ x5_2
       ·
        rw [if_pos c15] at H
        have c15b0 : decide (0 ≤ x5_2) = true := decide_eq_true c15
        clear c15
        by_cases c16 : x5_2 < (l1_1.length : Int)
        ·
         rw [if_pos c16] at H
         have c16b0 : decide (x5_2 < (l1_1.length : Int)) = true := decide_eq_true c16
         clear c16
         by_cases c17 : (rd l0_1 x5_2) = (rd l1_1 x5_2)
         ·
          rw [if_pos c17] at H
          have c17b0 : ((rd l0_1 x5_2) == (rd l1_1 x5_2)) = true := beq_iff_eq.mpr c17
          have c17b1 : ((rd l0_1 x5_2) != (rd l1_1 x5_2)) = false := bne_eq_false_iff_eq.mpr c17
          clear c17
          have H' := A0_ H
          clear H
          have hnb18 := NB392_393.out
          have hnc18 := NB393_392.out
          have hcz19_0 : wr.cell? ⟨gb392, 0, none⟩ = some (.int .i64 a0_0) := (Bc_ BK392.out 0).trans rfl
          have hcz19_1 : wr.cell? ⟨gb392, 1, none⟩ = some (.slice A0_1 l0_1.length c0_1) := (Bc_ BK392.out 1).trans rfl
          have hfz19_0 := Bf_ BK392.out 0
          have hfz19_1 := Bf_ BK392.out 1
          have p394 : 0 ≤ (x5_2 : Int) := of_decide_eq_true (by first | (with_reducible assumption) | assumption)
          have q394 : x5_2 < (l0_1.length : Int) := of_decide_eq_true (by first | (with_reducible assumption) | assumption)
          obtain ⟨ad394, e394, hx394_0⟩ := Kd.at_int HR0_1.out x5_2 p394 q394
          cases e394
          replace hx394_0 := (HB.out.cell (World.block_lt_of_cell? w _ hx394_0)).trans hx394_0
          replace p394 := eq_true p394
          replace q394 := eq_true q394
          have hcz20_0 : wr.cell? ⟨gb393, 0, none⟩ = some (.int .i64 a1_0) := (Bc_ BK393.out 0).trans rfl
          have hcz20_1 : wr.cell? ⟨gb393, 1, none⟩ = some (.slice A1_1 l1_1.length c1_1) := (Bc_ BK393.out 1).trans rfl
          have hfz20_0 := Bf_ BK393.out 0
          have hfz20_1 := Bf_ BK393.out 1
          have p395 : 0 ≤ (x5_2 : Int) := of_decide_eq_true (by first | (with_reducible assumption) | assumption)
          have q395 : x5_2 < (l1_1.length : Int) := of_decide_eq_true (by first | (with_reducible assumption) | assumption)
          obtain ⟨ad395, e395, hx395_0⟩ := Kd.at_int HR1_1.out x5_2 p395 q395
          cases e395
          replace hx395_0 := (HB.out.cell (World.block_lt_of_cell? w _ hx395_0)).trans hx395_0
          replace p395 := eq_true p395
          replace q395 := eq_true q395
          go_wp2
          repeat (go_quiet (fail); try go_wp2)
          go_roundg k2
          case measure => have := HJ2.out; have := HK2.out; omega
          case rel => exact ⟨(wrap64 (x5_2 + 1)), (by first | rfl | (simp; done) | (simp [*]; done)), H', ⟨by have := HJ2.out; have := HK2.out; omega⟩, ⟨by (with_reducible repeat (first | refine Bn_ ?_ _ | refine Bd_ ?_ | refine Ba_ ?_ _)); exact BK392.out⟩, ⟨by (with_reducible repeat (first | refine Bn_ ?_ _ | refine Bd_ ?_ | refine Ba_ ?_ _)); exact BK393.out⟩, ⟨by repeat (first | (with_reducible first | exact HB.out | apply Al_ | apply Dn_ | apply D1_ | refine Bs_ ?_ GE392.out | refine Bs_ ?_ GE393.out) | exact HB.out)⟩⟩
         ·
          rw [if_neg c17] at H
          have c17b0 : ((rd l0_1 x5_2) == (rd l1_1 x5_2)) = false := beq_eq_false_iff_ne.mpr c17
          have c17b1 : ((rd l0_1 x5_2) != (rd l1_1 x5_2)) = true := bne_iff_ne.mpr c17
          obtain rfl := Option.some.inj H
          have hnb21 := NB392_393.out
          have hnc21 := NB393_392.out
          have hcz22_0 : wr.cell? ⟨gb392, 0, none⟩ = some (.int .i64 a0_0) := (Bc_ BK392.out 0).trans rfl
          have hcz22_1 : wr.cell? ⟨gb392, 1, none⟩ = some (.slice A0_1 l0_1.length c0_1) := (Bc_ BK392.out 1).trans rfl
          have hfz22_0 := Bf_ BK392.out 0
          have hfz22_1 := Bf_ BK392.out 1
          have p394 : 0 ≤ (x5_2 : Int) := of_decide_eq_true (by first | (with_reducible assumption) | assumption)
          have q394 : x5_2 < (l0_1.length : Int) := of_decide_eq_true (by first | (with_reducible assumption) | assumption)
          obtain ⟨ad394, e394, hx394_0⟩ := Kd.at_int HR0_1.out x5_2 p394 q394
          cases e394
          replace hx394_0 := (HB.out.cell (World.block_lt_of_cell? w _ hx394_0)).trans hx394_0
          replace p394 := eq_true p394
          replace q394 := eq_true q394
          have hcz23_0 : wr.cell? ⟨gb393, 0, none⟩ = some (.int .i64 a1_0) := (Bc_ BK393.out 0).trans rfl
          have hcz23_1 : wr.cell? ⟨gb393, 1, none⟩ = some (.slice A1_1 l1_1.length c1_1) := (Bc_ BK393.out 1).trans rfl
          have hfz23_0 := Bf_ BK393.out 0
          have hfz23_1 := Bf_ BK393.out 1
          have p395 : 0 ≤ (x5_2 : Int) := of_decide_eq_true (by first | (with_reducible assumption) | assumption)
          have q395 : x5_2 < (l1_1.length : Int) := of_decide_eq_true (by first | (with_reducible assumption) | assumption)
          obtain ⟨ad395, e395, hx395_0⟩ := Kd.at_int HR1_1.out x5_2 p395 q395
          cases e395
          replace hx395_0 := (HB.out.cell (World.block_lt_of_cell? w _ hx395_0)).trans hx395_0
          replace p395 := eq_true p395
          replace q395 := eq_true q395
          go_wp2
          repeat (go_quiet (fail); try go_wp2)
          go_ret
          exact ⟨by first | rfl | (simp [errW_none, errW_some] <;> rfl) | (simp [*, errW_none, errW_some] <;> rfl), by repeat (first | (with_reducible first | exact HB.out | apply Al_ | apply Dn_ | apply D1_ | refine Bs_ ?_ GE392.out | refine Bs_ ?_ GE393.out) | exact HB.out)⟩
        ·
         rw [if_neg c16] at H
         exact absurd H (by simp)
       ·
        rw [if_neg c15] at H
        exact absurd H (by simp)
      ·
       rw [if_neg c14] at H
       have c14b0 : decide (x5_2 < (l0_1.length : Int)) = false := decide_eq_false c14
       clear c14
       obtain rfl := Option.some.inj H
       have hnb24 := NB392_393.out
       have hnc24 := NB393_392.out
       have hcz25_0 : wr.cell? ⟨gb392, 0, none⟩ = some (.int .i64 a0_0) := (Bc_ BK392.out 0).trans rfl
       have hcz25_1 : wr.cell? ⟨gb392, 1, none⟩ = some (.slice A0_1 l0_1.length c0_1) := (Bc_ BK392.out 1).trans rfl
       have hfz25_0 := Bf_ BK392.out 0
       have hfz25_1 := Bf_ BK392.out 1
       go_wp2
       repeat (go_quiet (fail); try go_wp2)
       go_ret
       exact ⟨by first | rfl | (simp [errW_none, errW_some] <;> rfl) | (simp [*, errW_none, errW_some] <;> rfl), by repeat (first | (with_reducible first | exact HB.out | apply Al_ | apply Dn_ | apply D1_ | refine Bs_ ?_ GE392.out | refine Bs_ ?_ GE393.out) | exact HB.out)⟩
end Go.Proofs.YtnjbdcnefienhaaDoor.P

namespace Go.Proofs.YtnjbdcnefienhaaDoor.P
open Go.RowKit Go.Proofs.YtnjbdcnefienhaaDoorW.PrintWords Go.Proofs.YtnjbdcnefienhaaDoorW.PrintLast Go.Proofs.YtnjbdcnefienhaaDoorW.PrintMore
attribute [local go_sem] max2_int min2_int max_two min_two max_three min_three max_four min_four   -- for this text's walks alone
set_option linter.unusedVariables false
set_option linter.unusedSimpArgs false
mutual
def r17Same.j0 : Nat → Bool → Int → Int → List Int → Int → List Int → Int → Int → List Int → Int → List Int → Option (Bool)
 | 0, _, _, _, _, _, _, _, _, _, _, _ => none
 | k + 1, x34, x397000, x397001, x397002, x397003, x397004, x398000, x398001, x398002, x398003, x398004 => if x34 = true then (some false) else (r17Same.l0 k 0 x397000 x397001 x397002 x397003 x397004 x398000 x398001 x398002 x398003 x398004)
def r17Same.l0 : Nat → Int → Int → Int → List Int → Int → List Int → Int → Int → List Int → Int → List Int → Option (Bool)
 | 0, _, _, _, _, _, _, _, _, _, _, _ => none
 | k + 1, x5, x397000, x397001, x397002, x397003, x397004, x398000, x398001, x398002, x398003, x398004 => if x5 < (x397002.length : Int) then (if 0 ≤ x5 then (if x5 < (x398002.length : Int) then (if (rd x397002 x5) = (rd x398002 x5) then (r17Same.l0 k (wrap64 (x5 + 1)) x397000 x397001 x397002 x397003 x397004 x398000 x398001 x398002 x398003 x398004) else (some false)) else (none)) else (none)) else (some true)
end
def r17Same.f (k : Nat) (a0_0 : Int) (a0_1 : Int) (l0_2 : List Int) (a0_3 : Int) (l0_4 : List Int) (a1_0 : Int) (a1_1 : Int) (l1_2 : List Int) (a1_3 : Int) (l1_4 : List Int) : Option (Bool) := if a0_0 = a1_0 then (if a0_1 = a1_1 then (if (l0_2.length : Int) = (l1_2.length : Int) then ((r02Same.f k a0_3 l0_4 a1_3 l1_4).bind fun t398 => (r17Same.j0 k (!t398) a0_0 a0_1 l0_2 a0_3 l0_4 a1_0 a1_1 l1_2 a1_3 l1_4)) else (r17Same.j0 k true a0_0 a0_1 l0_2 a0_3 l0_4 a1_0 a1_1 l1_2 a1_3 l1_4)) else (r17Same.j0 k true a0_0 a0_1 l0_2 a0_3 l0_4 a1_0 a1_1 l1_2 a1_3 l1_4)) else (r17Same.j0 k true a0_0 a0_1 l0_2 a0_3 l0_4 a1_0 a1_1 l1_2 a1_3 l1_4)
set_option maxHeartbeats 8000000 in
set_option maxRecDepth 100000 in
theorem r17Same.calls (k : Nat) (a0_0 : Int) (a0_1 : Int) (A0_2 : Option Addr) (c0_2 : Nat) (l0_2 : List Int) (a0_3 : Int) (A0_4 : Option Addr) (c0_4 : Nat) (l0_4 : List Int) (a1_0 : Int) (a1_1 : Int) (A1_2 : Option Addr) (c1_2 : Nat) (l1_2 : List Int) (a1_3 : Int) (A1_4 : Option Addr) (c1_4 : Nat) (l1_4 : List Int) (r : Bool) (w : World) (hr0_2 : Kd.C (Kd.int .i64) w A0_2 l0_2.length l0_2) (hc0_2 : l0_2.length ≤ c0_2) (hr0_4 : Kd.C (Kd.int .u64) w A0_4 l0_4.length l0_4) (hc0_4 : l0_4.length ≤ c0_4) (hr1_2 : Kd.C (Kd.int .i64) w A1_2 l1_2.length l1_2) (hc1_2 : l1_2.length ≤ c1_2) (hr1_4 : Kd.C (Kd.int .u64) w A1_4 l1_4.length l1_4) (hc1_4 : l1_4.length ≤ c1_4) (h : r17Same.f k a0_0 a0_1 l0_2 a0_3 l0_4 a1_0 a1_1 l1_2 a1_3 l1_4 = some r) :
  Calls Tryd.prog 11 #[.agg #[.int .i64 a0_0, .int .i64 a0_1, .slice A0_2 l0_2.length c0_2, .int .i64 a0_3, .slice A0_4 l0_4.length c0_4], .agg #[.int .i64 a1_0, .int .i64 a1_1, .slice A1_2 l1_2.length c1_2, .int .i64 a1_3, .slice A1_4 l1_4.length c1_4]] w fun e w' => e = .returned (.bool r) ∧ Below w.heap.size w w' := by
 have hu28 := Tryd.underlying28
 have hu26 := Tryd.underlying26
 have HR0_2 := A0_ hr0_2
 have HC0_2 := A0_ hc0_2
 clear hr0_2 hc0_2
 have HR0_4 := A0_ hr0_4
 have HC0_4 := A0_ hc0_4
 clear hr0_4 hc0_4
 have HR1_2 := A0_ hr1_2
 have HC1_2 := A0_ hc1_2
 clear hr1_2 hc1_2
 have HR1_4 := A0_ hr1_4
 have HC1_4 := A0_ hc1_4
 clear hr1_4 hc1_4
 have HB := A0_ (Below.refl w.heap.size w)
 have H : (if a0_0 = a1_0 then (if a0_1 = a1_1 then (if (l0_2.length : Int) = (l1_2.length : Int) then ((r02Same.f k a0_3 l0_4 a1_3 l1_4).bind fun t398 => (r17Same.j0 k (!t398) a0_0 a0_1 l0_2 a0_3 l0_4 a1_0 a1_1 l1_2 a1_3 l1_4)) else (r17Same.j0 k true a0_0 a0_1 l0_2 a0_3 l0_4 a1_0 a1_1 l1_2 a1_3 l1_4)) else (r17Same.j0 k true a0_0 a0_1 l0_2 a0_3 l0_4 a1_0 a1_1 l1_2 a1_3 l1_4)) else (r17Same.j0 k true a0_0 a0_1 l0_2 a0_3 l0_4 a1_0 a1_1 l1_2 a1_3 l1_4)) = some r := h
 clear h
 have HC3 := A0_ H
 clear H
 go_enter Tryd.func11, Tryd.ntmps11
 go_upto_region 1 with (first | ((with_reducible refine gate_dst (N := 2) rfl ?_); (try (refine gate_guard (by rfl) ?_; dsimp only)); refine box_event ?hg (N := 2) ?hd (cs := #[.int .i64 a0_0, .int .i64 a0_1, .slice A0_2 l0_2.length c0_2, .int .i64 a0_3, .slice A0_4 l0_4.length c0_4]) (t := 28) ?hr ?_; (case hd => rfl); (case hg => rfl); (case hr => first | (go_simp; done) | (go_simp; rfl)); intro gb396 hg w4 hbox hb; have n0_ := A0_ (below_step (by repeat (first | (with_reducible first | exact HB.out | apply Al_ | apply Dn_ | apply D1_) | exact HB.out)) hb); have n1_ := A0_ (hbox); have n2_ := A0_ ((by rw [hg]; exact (below_size (by repeat (first | (with_reducible first | exact HB.out | apply Al_ | apply Dn_ | apply D1_) | exact HB.out))) : w.heap.size ≤ gb396)); have n3_ := A0_ ((by rw [hg]; exact (below_size (by repeat (first | (with_reducible first | exact HB.out | apply Al_ | apply Dn_ | apply D1_) | exact HB.out))) : w.heap.size ≤ gb396)); clear HB; have HB := n0_; have BK396 := n1_; have GW396 := n2_; have GE396 := n3_; clear n0_ n1_ n2_ n3_ hb hbox hg) | ((with_reducible refine gate_dst (N := 3) rfl ?_); (try (refine gate_guard (by rfl) ?_; dsimp only)); refine box_event ?hg (N := 3) ?hd (cs := #[.int .i64 a1_0, .int .i64 a1_1, .slice A1_2 l1_2.length c1_2, .int .i64 a1_3, .slice A1_4 l1_4.length c1_4]) (t := 28) ?hr ?_; (case hd => rfl); (case hg => rfl); (case hr => first | (go_simp; done) | (go_simp; rfl)); intro gb397 hg w5 hbox hb; have n0_ := A0_ (blk_below (g := gb396) (o := .cells #[.int .i64 a0_0, .int .i64 a0_1, .slice A0_2 l0_2.length c0_2, .int .i64 a0_3, .slice A0_4 l0_4.length c0_4] 28 (0, 0)) (by (with_reducible repeat (first | refine Bn_ ?_ _ | refine Bd_ ?_ | refine Ba_ ?_ _)); exact BK396.out) hb); have n1_ := A0_ (below_step (by repeat (first | (with_reducible first | exact HB.out | apply Al_ | apply Dn_ | apply D1_ | refine Bs_ ?_ GE396.out) | exact HB.out)) hb); have n2_ := A0_ (hbox); have n3_ := A0_ ((by rw [hg]; exact (below_size (by repeat (first | (with_reducible first | exact HB.out | apply Al_ | apply Dn_ | apply D1_ | refine Bs_ ?_ GE396.out) | exact HB.out))) : w.heap.size ≤ gb397)); have n4_ := A0_ ((by rw [hg]; exact (below_size (by repeat (first | (with_reducible first | exact HB.out | apply Al_ | apply Dn_ | apply D1_ | refine Bs_ ?_ GE396.out) | exact HB.out))) : w.heap.size ≤ gb397)); have n5_ := A0_ ((by rw [hg]; exact Nat.ne_of_lt (blk_lt (g := gb396) (o := .cells #[.int .i64 a0_0, .int .i64 a0_1, .slice A0_2 l0_2.length c0_2, .int .i64 a0_3, .slice A0_4 l0_4.length c0_4] 28 (0, 0)) (by (with_reducible repeat (first | refine Bn_ ?_ _ | refine Bd_ ?_ | refine Ba_ ?_ _)); exact BK396.out)) : gb396 ≠ gb397)); have n6_ := A0_ ((by rw [hg]; exact Nat.ne_of_gt (blk_lt (g := gb396) (o := .cells #[.int .i64 a0_0, .int .i64 a0_1, .slice A0_2 l0_2.length c0_2, .int .i64 a0_3, .slice A0_4 l0_4.length c0_4] 28 (0, 0)) (by (with_reducible repeat (first | refine Bn_ ?_ _ | refine Bd_ ?_ | refine Ba_ ?_ _)); exact BK396.out)) : gb397 ≠ gb396)); clear BK396 HB; have BK396 := n0_; have HB := n1_; have BK397 := n2_; have GW397 := n3_; have GE397 := n4_; have NB396_397 := n5_; have NB397_396 := n6_; clear n0_ n1_ n2_ n3_ n4_ n5_ n6_ hb hbox hg))
 repeat (go_quiet (first | ((with_reducible refine gate_dst (N := 2) rfl ?_); (try (refine gate_guard (by rfl) ?_; dsimp only)); refine box_event ?hg (N := 2) ?hd (cs := #[.int .i64 a0_0, .int .i64 a0_1, .slice A0_2 l0_2.length c0_2, .int .i64 a0_3, .slice A0_4 l0_4.length c0_4]) (t := 28) ?hr ?_; (case hd => rfl); (case hg => rfl); (case hr => first | (go_simp; done) | (go_simp; rfl)); intro gb396 hg w4 hbox hb; have n0_ := A0_ (below_step (by repeat (first | (with_reducible first | exact HB.out | apply Al_ | apply Dn_ | apply D1_) | exact HB.out)) hb); have n1_ := A0_ (hbox); have n2_ := A0_ ((by rw [hg]; exact (below_size (by repeat (first | (with_reducible first | exact HB.out | apply Al_ | apply Dn_ | apply D1_) | exact HB.out))) : w.heap.size ≤ gb396)); have n3_ := A0_ ((by rw [hg]; exact (below_size (by repeat (first | (with_reducible first | exact HB.out | apply Al_ | apply Dn_ | apply D1_) | exact HB.out))) : w.heap.size ≤ gb396)); clear HB; have HB := n0_; have BK396 := n1_; have GW396 := n2_; have GE396 := n3_; clear n0_ n1_ n2_ n3_ hb hbox hg) | ((with_reducible refine gate_dst (N := 3) rfl ?_); (try (refine gate_guard (by rfl) ?_; dsimp only)); refine box_event ?hg (N := 3) ?hd (cs := #[.int .i64 a1_0, .int .i64 a1_1, .slice A1_2 l1_2.length c1_2, .int .i64 a1_3, .slice A1_4 l1_4.length c1_4]) (t := 28) ?hr ?_; (case hd => rfl); (case hg => rfl); (case hr => first | (go_simp; done) | (go_simp; rfl)); intro gb397 hg w5 hbox hb; have n0_ := A0_ (blk_below (g := gb396) (o := .cells #[.int .i64 a0_0, .int .i64 a0_1, .slice A0_2 l0_2.length c0_2, .int .i64 a0_3, .slice A0_4 l0_4.length c0_4] 28 (0, 0)) (by (with_reducible repeat (first | refine Bn_ ?_ _ | refine Bd_ ?_ | refine Ba_ ?_ _)); exact BK396.out) hb); have n1_ := A0_ (below_step (by repeat (first | (with_reducible first | exact HB.out | apply Al_ | apply Dn_ | apply D1_ | refine Bs_ ?_ GE396.out) | exact HB.out)) hb); have n2_ := A0_ (hbox); have n3_ := A0_ ((by rw [hg]; exact (below_size (by repeat (first | (with_reducible first | exact HB.out | apply Al_ | apply Dn_ | apply D1_ | refine Bs_ ?_ GE396.out) | exact HB.out))) : w.heap.size ≤ gb397)); have n4_ := A0_ ((by rw [hg]; exact (below_size (by repeat (first | (with_reducible first | exact HB.out | apply Al_ | apply Dn_ | apply D1_ | refine Bs_ ?_ GE396.out) | exact HB.out))) : w.heap.size ≤ gb397)); have n5_ := A0_ ((by rw [hg]; exact Nat.ne_of_lt (blk_lt (g := gb396) (o := .cells #[.int .i64 a0_0, .int .i64 a0_1, .slice A0_2 l0_2.length c0_2, .int .i64 a0_3, .slice A0_4 l0_4.length c0_4] 28 (0, 0)) (by (with_reducible repeat (first | refine Bn_ ?_ _ | refine Bd_ ?_ | refine Ba_ ?_ _)); exact BK396.out)) : gb396 ≠ gb397)); have n6_ := A0_ ((by rw [hg]; exact Nat.ne_of_gt (blk_lt (g := gb396) (o := .cells #[.int .i64 a0_0, .int .i64 a0_1, .slice A0_2 l0_2.length c0_2, .int .i64 a0_3, .slice A0_4 l0_4.length c0_4] 28 (0, 0)) (by (with_reducible repeat (first | refine Bn_ ?_ _ | refine Bd_ ?_ | refine Ba_ ?_ _)); exact BK396.out)) : gb397 ≠ gb396)); clear BK396 HB; have BK396 := n0_; have HB := n1_; have BK397 := n2_; have GW397 := n3_; have GE397 := n4_; have NB396_397 := n5_; have NB397_396 := n6_; clear n0_ n1_ n2_ n3_ n4_ n5_ n6_ hb hbox hg)); go_upto_region 1 with (first | ((with_reducible refine gate_dst (N := 2) rfl ?_); (try (refine gate_guard (by rfl) ?_; dsimp only)); refine box_event ?hg (N := 2) ?hd (cs := #[.int .i64 a0_0, .int .i64 a0_1, .slice A0_2 l0_2.length c0_2, .int .i64 a0_3, .slice A0_4 l0_4.length c0_4]) (t := 28) ?hr ?_; (case hd => rfl); (case hg => rfl); (case hr => first | (go_simp; done) | (go_simp; rfl)); intro gb396 hg w4 hbox hb; have n0_ := A0_ (below_step (by repeat (first | (with_reducible first | exact HB.out | apply Al_ | apply Dn_ | apply D1_) | exact HB.out)) hb); have n1_ := A0_ (hbox); have n2_ := A0_ ((by rw [hg]; exact (below_size (by repeat (first | (with_reducible first | exact HB.out | apply Al_ | apply Dn_ | apply D1_) | exact HB.out))) : w.heap.size ≤ gb396)); have n3_ := A0_ ((by rw [hg]; exact (below_size (by repeat (first | (with_reducible first | exact HB.out | apply Al_ | apply Dn_ | apply D1_) | exact HB.out))) : w.heap.size ≤ gb396)); clear HB; have HB := n0_; have BK396 := n1_; have GW396 := n2_; have GE396 := n3_; clear n0_ n1_ n2_ n3_ hb hbox hg) | ((with_reducible refine gate_dst (N := 3) rfl ?_); (try (refine gate_guard (by rfl) ?_; dsimp only)); refine box_event ?hg (N := 3) ?hd (cs := #[.int .i64 a1_0, .int .i64 a1_1, .slice A1_2 l1_2.length c1_2, .int .i64 a1_3, .slice A1_4 l1_4.length c1_4]) (t := 28) ?hr ?_; (case hd => rfl); (case hg => rfl); (case hr => first | (go_simp; done) | (go_simp; rfl)); intro gb397 hg w5 hbox hb; have n0_ := A0_ (blk_below (g := gb396) (o := .cells #[.int .i64 a0_0, .int .i64 a0_1, .slice A0_2 l0_2.length c0_2, .int .i64 a0_3, .slice A0_4 l0_4.length c0_4] 28 (0, 0)) (by (with_reducible repeat (first | refine Bn_ ?_ _ | refine Bd_ ?_ | refine Ba_ ?_ _)); exact BK396.out) hb); have n1_ := A0_ (below_step (by repeat (first | (with_reducible first | exact HB.out | apply Al_ | apply Dn_ | apply D1_ | refine Bs_ ?_ GE396.out) | exact HB.out)) hb); have n2_ := A0_ (hbox); have n3_ := A0_ ((by rw [hg]; exact (below_size (by repeat (first | (with_reducible first | exact HB.out | apply Al_ | apply Dn_ | apply D1_ | refine Bs_ ?_ GE396.out) | exact HB.out))) : w.heap.size ≤ gb397)); have n4_ := A0_ ((by rw [hg]; exact (below_size (by repeat (first | (with_reducible first | exact HB.out | apply Al_ | apply Dn_ | apply D1_ | refine Bs_ ?_ GE396.out) | exact HB.out))) : w.heap.size ≤ gb397)); have n5_ := A0_ ((by rw [hg]; exact Nat.ne_of_lt (blk_lt (g := gb396) (o := .cells #[.int .i64 a0_0, .int .i64 a0_1, .slice A0_2 l0_2.length c0_2, .int .i64 a0_3, .slice A0_4 l0_4.length c0_4] 28 (0, 0)) (by (with_reducible repeat (first | refine Bn_ ?_ _ | refine Bd_ ?_ | refine Ba_ ?_ _)); exact BK396.out)) : gb396 ≠ gb397)); have n6_ := A0_ ((by rw [hg]; exact Nat.ne_of_gt (blk_lt (g := gb396) (o := .cells #[.int .i64 a0_0, .int .i64 a0_1, .slice A0_2 l0_2.length c0_2, .int .i64 a0_3, .slice A0_4 l0_4.length c0_4] 28 (0, 0)) (by (with_reducible repeat (first | refine Bn_ ?_ _ | refine Bd_ ?_ | refine Ba_ ?_ _)); exact BK396.out)) : gb397 ≠ gb396)); clear BK396 HB; have BK396 := n0_; have HB := n1_; have BK397 := n2_; have GW397 := n3_; have GE397 := n4_; have NB396_397 := n5_; have NB397_396 := n6_; clear n0_ n1_ n2_ n3_ n4_ n5_ n6_ hb hbox hg)))
 (try simp only [Act.put, Sa_, Sz_, Ss_])
 go_cut [34] (fun v34 wc => ∃ (kq : Nat) (x34_2 : Bool), v34 = .bool x34_2 ∧ Aside0 (r17Same.j0 kq x34_2 a0_0 a0_1 l0_2 a0_3 l0_4 a1_0 a1_1 l1_2 a1_3 l1_4 = some r) ∧ Aside0 (kq ≤ k) ∧ Aside0 (wc.heap[gb396]? = some (.cells #[.int .i64 a0_0, .int .i64 a0_1, (.slice A0_2 l0_2.length c0_2), .int .i64 a0_3, (.slice A0_4 l0_4.length c0_4)] 28 (0, 0))) ∧ Aside0 (wc.heap[gb397]? = some (.cells #[.int .i64 a1_0, .int .i64 a1_1, (.slice A1_2 l1_2.length c1_2), .int .i64 a1_3, (.slice A1_4 l1_4.length c1_4)] 28 (0, 0))) ∧ Aside0 (Below w.heap.size w wc))
 case first =>
  have H := HC3.out
  clear HC3
  by_cases c6 : a0_0 = a1_0
  ·
   rw [if_pos c6] at H
   have c6b0 : (a0_0 == a1_0) = true := beq_iff_eq.mpr c6
   have c6b1 : (a0_0 != a1_0) = false := bne_eq_false_iff_eq.mpr c6
   clear c6
   (first | rw [c6b0] | (simp only [i64_w, i32_w]; rw [c6b0]) | skip)
   by_cases c7 : a0_1 = a1_1
   ·
    rw [if_pos c7] at H
    have c7b0 : (a0_1 == a1_1) = true := beq_iff_eq.mpr c7
    have c7b1 : (a0_1 != a1_1) = false := bne_eq_false_iff_eq.mpr c7
    clear c7
    by_cases c8 : (l0_2.length : Int) = (l1_2.length : Int)
    ·
     rw [if_pos c8] at H
     have c8b0 : ((l0_2.length : Int) == (l1_2.length : Int)) = true := beq_iff_eq.mpr c8
     have c8b1 : ((l0_2.length : Int) != (l1_2.length : Int)) = false := bne_eq_false_iff_eq.mpr c8
     have c8b2 : (l0_2.length == l1_2.length) = true := by first | simpa using c8 | (simp at c8 ⊢; omega)
     clear c8
     replace H := Option.bind_eq_some_iff.mp H
     obtain ⟨t398, A90, H⟩ := H
     replace H : (r17Same.j0 k (!t398) a0_0 a0_1 l0_2 a0_3 l0_4 a1_0 a1_1 l1_2 a1_3 l1_4) = some r := H
     have A9 := A0_ A90
     clear A90
     have H' := A0_ H
     clear H
     have hnb10 := NB396_397.out
     have hnc10 := NB397_396.out
     have hcz11_0 : w5.cell? ⟨gb396, 0, none⟩ = some (.int .i64 a0_0) := (Bc_ BK396.out 0).trans rfl
     have hcz11_1 : w5.cell? ⟨gb396, 1, none⟩ = some (.int .i64 a0_1) := (Bc_ BK396.out 1).trans rfl
     have hcz11_2 : w5.cell? ⟨gb396, 2, none⟩ = some (.slice A0_2 l0_2.length c0_2) := (Bc_ BK396.out 2).trans rfl
     have hcz11_3 : w5.cell? ⟨gb396, 3, none⟩ = some (.int .i64 a0_3) := (Bc_ BK396.out 3).trans rfl
     have hcz11_4 : w5.cell? ⟨gb396, 4, none⟩ = some (.slice A0_4 l0_4.length c0_4) := (Bc_ BK396.out 4).trans rfl
     have hfz11_0 := Bf_ BK396.out 0
     have hfz11_1 := Bf_ BK396.out 1
     have hfz11_2 := Bf_ BK396.out 2
     have hfz11_3 := Bf_ BK396.out 3
     have hfz11_4 := Bf_ BK396.out 4
     have hcz12_0 : w5.cell? ⟨gb397, 0, none⟩ = some (.int .i64 a1_0) := (Bc_ BK397.out 0).trans rfl
     have hcz12_1 : w5.cell? ⟨gb397, 1, none⟩ = some (.int .i64 a1_1) := (Bc_ BK397.out 1).trans rfl
     have hcz12_2 : w5.cell? ⟨gb397, 2, none⟩ = some (.slice A1_2 l1_2.length c1_2) := (Bc_ BK397.out 2).trans rfl
     have hcz12_3 : w5.cell? ⟨gb397, 3, none⟩ = some (.int .i64 a1_3) := (Bc_ BK397.out 3).trans rfl
     have hcz12_4 : w5.cell? ⟨gb397, 4, none⟩ = some (.slice A1_4 l1_4.length c1_4) := (Bc_ BK397.out 4).trans rfl
     have hfz12_0 := Bf_ BK397.out 0
     have hfz12_1 := Bf_ BK397.out 1
     have hfz12_2 := Bf_ BK397.out 2
     have hfz12_3 := Bf_ BK397.out 3
     have hfz12_4 := Bf_ BK397.out 4
     go_wp2_with (first | (go_at_call 20; (with_reducible refine (r02Same.calls k a0_3 _ _ l0_4 a1_3 _ _ l1_4 t398 _ ?side1 ?side2 ?side3 ?side4 A9.out).mono ?_); (case side1 => repeat (first | exact (Kd.C_below HR0_4.out HB.out) | (with_reducible first | refine Kd.C_alloc ?_ _ | refine Kd.C_drewN ?_ _ | refine Kd.C_drew ?_))); (case side2 => exact HC0_4.out); (case side3 => repeat (first | exact (Kd.C_below HR1_4.out HB.out) | (with_reducible first | refine Kd.C_alloc ?_ _ | refine Kd.C_drewN ?_ _ | refine Kd.C_drew ?_))); (case side4 => exact HC1_4.out); rintro e w13 ⟨rfl, hb⟩; have n0_ := A0_ (blk_below (g := gb396) (o := .cells #[.int .i64 a0_0, .int .i64 a0_1, .slice A0_2 l0_2.length c0_2, .int .i64 a0_3, .slice A0_4 l0_4.length c0_4] 28 (0, 0)) (by (with_reducible repeat (first | refine Bn_ ?_ _ | refine Bd_ ?_ | refine Ba_ ?_ _)); exact BK396.out) hb); have n1_ := A0_ (blk_below (g := gb397) (o := .cells #[.int .i64 a1_0, .int .i64 a1_1, .slice A1_2 l1_2.length c1_2, .int .i64 a1_3, .slice A1_4 l1_4.length c1_4] 28 (0, 0)) (by (with_reducible repeat (first | refine Bn_ ?_ _ | refine Bd_ ?_ | refine Ba_ ?_ _)); exact BK397.out) hb); have n2_ := A0_ (below_step (by repeat (first | (with_reducible first | exact HB.out | apply Al_ | apply Dn_ | apply D1_ | refine Bs_ ?_ GE396.out | refine Bs_ ?_ GE397.out) | exact HB.out)) hb); clear BK396 BK397 HB; have BK396 := n0_; have BK397 := n1_; have HB := n2_; clear n0_ n1_ n2_; (try clear hb); (try clear hb2); (try clear hk); (try clear hi)))
     repeat (go_quiet (first | (go_at_call 20; (with_reducible refine (r02Same.calls k a0_3 _ _ l0_4 a1_3 _ _ l1_4 t398 _ ?side1 ?side2 ?side3 ?side4 A9.out).mono ?_); (case side1 => repeat (first | exact (Kd.C_below HR0_4.out HB.out) | (with_reducible first | refine Kd.C_alloc ?_ _ | refine Kd.C_drewN ?_ _ | refine Kd.C_drew ?_))); (case side2 => exact HC0_4.out); (case side3 => repeat (first | exact (Kd.C_below HR1_4.out HB.out) | (with_reducible first | refine Kd.C_alloc ?_ _ | refine Kd.C_drewN ?_ _ | refine Kd.C_drew ?_))); (case side4 => exact HC1_4.out); rintro e w13 ⟨rfl, hb⟩; have n0_ := A0_ (blk_below (g := gb396) (o := .cells #[.int .i64 a0_0, .int .i64 a0_1, .slice A0_2 l0_2.length c0_2, .int .i64 a0_3, .slice A0_4 l0_4.length c0_4] 28 (0, 0)) (by (with_reducible repeat (first | refine Bn_ ?_ _ | refine Bd_ ?_ | refine Ba_ ?_ _)); exact BK396.out) hb); have n1_ := A0_ (blk_below (g := gb397) (o := .cells #[.int .i64 a1_0, .int .i64 a1_1, .slice A1_2 l1_2.length c1_2, .int .i64 a1_3, .slice A1_4 l1_4.length c1_4] 28 (0, 0)) (by (with_reducible repeat (first | refine Bn_ ?_ _ | refine Bd_ ?_ | refine Ba_ ?_ _)); exact BK397.out) hb); have n2_ := A0_ (below_step (by repeat (first | (with_reducible first | exact HB.out | apply Al_ | apply Dn_ | apply D1_ | refine Bs_ ?_ GE396.out | refine Bs_ ?_ GE397.out) | exact HB.out)) hb); clear BK396 BK397 HB; have BK396 := n0_; have BK397 := n1_; have HB := n2_; clear n0_ n1_ n2_; (try clear hb); (try clear hb2); (try clear hk); (try clear hi))); try go_wp2_with (first | (go_at_call 20; (with_reducible refine (r02Same.calls k a0_3 _ _ l0_4 a1_3 _ _ l1_4 t398 _ ?side1 ?side2 ?side3 ?side4 A9.out).mono ?_); (case side1 => repeat (first | exact (Kd.C_below HR0_4.out HB.out) | (with_reducible first | refine Kd.C_alloc ?_ _ | refine Kd.C_drewN ?_ _ | refine Kd.C_drew ?_))); (case side2 => exact HC0_4.out); (case side3 => repeat (first | exact (Kd.C_below HR1_4.out HB.out) | (with_reducible first | refine Kd.C_alloc ?_ _ | refine Kd.C_drewN ?_ _ | refine Kd.C_drew ?_))); (case side4 => exact HC1_4.out); rintro e w13 ⟨rfl, hb⟩; have n0_ := A0_ (blk_below (g := gb396) (o := .cells #[.int .i64 a0_0, .int .i64 a0_1, .slice A0_2 l0_2.length c0_2, .int .i64 a0_3, .slice A0_4 l0_4.length c0_4] 28 (0, 0)) (by (with_reducible repeat (first | refine Bn_ ?_ _ | refine Bd_ ?_ | refine Ba_ ?_ _)); exact BK396.out) hb); have n1_ := A0_ (blk_below (g := gb397) (o := .cells #[.int .i64 a1_0, .int .i64 a1_1, .slice A1_2 l1_2.length c1_2, .int .i64 a1_3, .slice A1_4 l1_4.length c1_4] 28 (0, 0)) (by (with_reducible repeat (first | refine Bn_ ?_ _ | refine Bd_ ?_ | refine Ba_ ?_ _)); exact BK397.out) hb); have n2_ := A0_ (below_step (by repeat (first | (with_reducible first | exact HB.out | apply Al_ | apply Dn_ | apply D1_ | refine Bs_ ?_ GE396.out | refine Bs_ ?_ GE397.out) | exact HB.out)) hb); clear BK396 BK397 HB; have BK396 := n0_; have BK397 := n1_; have HB := n2_; clear n0_ n1_ n2_; (try clear hb); (try clear hb2); (try clear hk); (try clear hi))))
     go_meet
     case rel => exact ⟨_, (!t398), (by first | rfl | (simp; done) | (simp [*]; done)), H', ⟨by first | omega | exact Nat.le_refl _⟩, ⟨by (with_reducible repeat (first | refine Bn_ ?_ _ | refine Bd_ ?_ | refine Ba_ ?_ _)); exact BK396.out⟩, ⟨by (with_reducible repeat (first | refine Bn_ ?_ _ | refine Bd_ ?_ | refine Ba_ ?_ _)); exact BK397.out⟩, ⟨by repeat (first | (with_reducible first | exact HB.out | apply Al_ | apply Dn_ | apply D1_ | refine Bs_ ?_ GE396.out | refine Bs_ ?_ GE397.out) | exact HB.out)⟩⟩
    ·
     rw [if_neg c8] at H
     have c8b0 : ((l0_2.length : Int) == (l1_2.length : Int)) = false := beq_eq_false_iff_ne.mpr c8
     have c8b1 : ((l0_2.length : Int) != (l1_2.length : Int)) = true := bne_iff_ne.mpr c8
     have c8b2 : (l0_2.length == l1_2.length) = false := by first | simpa using c8 | (simp at c8 ⊢; omega)
     have H' := A0_ H
     clear H
     have hnb14 := NB396_397.out
     have hnc14 := NB397_396.out
     have hcz15_0 : w5.cell? ⟨gb396, 0, none⟩ = some (.int .i64 a0_0) := (Bc_ BK396.out 0).trans rfl
     have hcz15_1 : w5.cell? ⟨gb396, 1, none⟩ = some (.int .i64 a0_1) := (Bc_ BK396.out 1).trans rfl
     have hcz15_2 : w5.cell? ⟨gb396, 2, none⟩ = some (.slice A0_2 l0_2.length c0_2) := (Bc_ BK396.out 2).trans rfl
     have hcz15_3 : w5.cell? ⟨gb396, 3, none⟩ = some (.int .i64 a0_3) := (Bc_ BK396.out 3).trans rfl
     have hcz15_4 : w5.cell? ⟨gb396, 4, none⟩ = some (.slice A0_4 l0_4.length c0_4) := (Bc_ BK396.out 4).trans rfl
     have hfz15_0 := Bf_ BK396.out 0
     have hfz15_1 := Bf_ BK396.out 1
     have hfz15_2 := Bf_ BK396.out 2
     have hfz15_3 := Bf_ BK396.out 3
     have hfz15_4 := Bf_ BK396.out 4
     have hcz16_0 : w5.cell? ⟨gb397, 0, none⟩ = some (.int .i64 a1_0) := (Bc_ BK397.out 0).trans rfl
     have hcz16_1 : w5.cell? ⟨gb397, 1, none⟩ = some (.int .i64 a1_1) := (Bc_ BK397.out 1).trans rfl
     have hcz16_2 : w5.cell? ⟨gb397, 2, none⟩ = some (.slice A1_2 l1_2.length c1_2) := (Bc_ BK397.out 2).trans rfl
     have hcz16_3 : w5.cell? ⟨gb397, 3, none⟩ = some (.int .i64 a1_3) := (Bc_ BK397.out 3).trans rfl
     have hcz16_4 : w5.cell? ⟨gb397, 4, none⟩ = some (.slice A1_4 l1_4.length c1_4) := (Bc_ BK397.out 4).trans rfl
     have hfz16_0 := Bf_ BK397.out 0
     have hfz16_1 := Bf_ BK397.out 1
     have hfz16_2 := Bf_ BK397.out 2
     have hfz16_3 := Bf_ BK397.out 3
     have hfz16_4 := Bf_ BK397.out 4
     go_wp2
     repeat (go_quiet (fail); try go_wp2)
     go_meet
     case rel => exact ⟨_, (true), (by first | rfl | (simp; done) | (simp [*]; done)), H', ⟨by first | omega | exact Nat.le_refl _⟩, ⟨by (with_reducible repeat (first | refine Bn_ ?_ _ | refine Bd_ ?_ | refine Ba_ ?_ _)); exact BK396.out⟩, ⟨by (with_reducible repeat (first | refine Bn_ ?_ _ | refine Bd_ ?_ | refine Ba_ ?_ _)); exact BK397.out⟩, ⟨by repeat (first | (with_reducible first | exact HB.out | apply Al_ | apply Dn_ | apply D1_ | refine Bs_ ?_ GE396.out | refine Bs_ ?_ GE397.out) | exact HB.out)⟩⟩
   ·
    rw [if_neg c7] at H
    have c7b0 : (a0_1 == a1_1) = false := beq_eq_false_iff_ne.mpr c7
    have c7b1 : (a0_1 != a1_1) = true := bne_iff_ne.mpr c7
    have H' := A0_ H
    clear H
    have hnb17 := NB396_397.out
    have hnc17 := NB397_396.out
    have hcz18_0 : w5.cell? ⟨gb396, 0, none⟩ = some (.int .i64 a0_0) := (Bc_ BK396.out 0).trans rfl
    have hcz18_1 : w5.cell? ⟨gb396, 1, none⟩ = some (.int .i64 a0_1) := (Bc_ BK396.out 1).trans rfl
    have hcz18_2 : w5.cell? ⟨gb396, 2, none⟩ = some (.slice A0_2 l0_2.length c0_2) := (Bc_ BK396.out 2).trans rfl
    have hcz18_3 : w5.cell? ⟨gb396, 3, none⟩ = some (.int .i64 a0_3) := (Bc_ BK396.out 3).trans rfl
    have hcz18_4 : w5.cell? ⟨gb396, 4, none⟩ = some (.slice A0_4 l0_4.length c0_4) := (Bc_ BK396.out 4).trans rfl
    have hfz18_0 := Bf_ BK396.out 0
    have hfz18_1 := Bf_ BK396.out 1
    have hfz18_2 := Bf_ BK396.out 2
    have hfz18_3 := Bf_ BK396.out 3
    have hfz18_4 := Bf_ BK396.out 4
    have hcz19_0 : w5.cell? ⟨gb397, 0, none⟩ = some (.int .i64 a1_0) := (Bc_ BK397.out 0).trans rfl
    have hcz19_1 : w5.cell? ⟨gb397, 1, none⟩ = some (.int .i64 a1_1) := (Bc_ BK397.out 1).trans rfl
    have hcz19_2 : w5.cell? ⟨gb397, 2, none⟩ = some (.slice A1_2 l1_2.length c1_2) := (Bc_ BK397.out 2).trans rfl
    have hcz19_3 : w5.cell? ⟨gb397, 3, none⟩ = some (.int .i64 a1_3) := (Bc_ BK397.out 3).trans rfl
    have hcz19_4 : w5.cell? ⟨gb397, 4, none⟩ = some (.slice A1_4 l1_4.length c1_4) := (Bc_ BK397.out 4).trans rfl
    have hfz19_0 := Bf_ BK397.out 0
    have hfz19_1 := Bf_ BK397.out 1
    have hfz19_2 := Bf_ BK397.out 2
    have hfz19_3 := Bf_ BK397.out 3
    have hfz19_4 := Bf_ BK397.out 4
    go_wp2
    repeat (go_quiet (fail); try go_wp2)
    go_meet
    case rel => exact ⟨_, (true), (by first | rfl | (simp; done) | (simp [*]; done)), H', ⟨by first | omega | exact Nat.le_refl _⟩, ⟨by (with_reducible repeat (first | refine Bn_ ?_ _ | refine Bd_ ?_ | refine Ba_ ?_ _)); exact BK396.out⟩, ⟨by (with_reducible repeat (first | refine Bn_ ?_ _ | refine Bd_ ?_ | refine Ba_ ?_ _)); exact BK397.out⟩, ⟨by repeat (first | (with_reducible first | exact HB.out | apply Al_ | apply Dn_ | apply D1_ | refine Bs_ ?_ GE396.out | refine Bs_ ?_ GE397.out) | exact HB.out)⟩⟩
  ·
   rw [if_neg c6] at H
   have c6b0 : (a0_0 == a1_0) = false := beq_eq_false_iff_ne.mpr c6
   have c6b1 : (a0_0 != a1_0) = true := bne_iff_ne.mpr c6
   (first | rw [c6b0] | (simp only [i64_w, i32_w]; rw [c6b0]) | skip)
   have H' := A0_ H
   clear H
   have hnb20 := NB396_397.out
   have hnc20 := NB397_396.out
   have hcz21_0 : w5.cell? ⟨gb396, 0, none⟩ = some (.int .i64 a0_0) := (Bc_ BK396.out 0).trans rfl
   have hcz21_1 : w5.cell? ⟨gb396, 1, none⟩ = some (.int .i64 a0_1) := (Bc_ BK396.out 1).trans rfl
   have hcz21_2 : w5.cell? ⟨gb396, 2, none⟩ = some (.slice A0_2 l0_2.length c0_2) := (Bc_ BK396.out 2).trans rfl
   have hcz21_3 : w5.cell? ⟨gb396, 3, none⟩ = some (.int .i64 a0_3) := (Bc_ BK396.out 3).trans rfl
   have hcz21_4 : w5.cell? ⟨gb396, 4, none⟩ = some (.slice A0_4 l0_4.length c0_4) := (Bc_ BK396.out 4).trans rfl
   have hfz21_0 := Bf_ BK396.out 0
   have hfz21_1 := Bf_ BK396.out 1
   have hfz21_2 := Bf_ BK396.out 2
   have hfz21_3 := Bf_ BK396.out 3
   have hfz21_4 := Bf_ BK396.out 4
   have hcz22_0 : w5.cell? ⟨gb397, 0, none⟩ = some (.int .i64 a1_0) := (Bc_ BK397.out 0).trans rfl
   have hcz22_1 : w5.cell? ⟨gb397, 1, none⟩ = some (.int .i64 a1_1) := (Bc_ BK397.out 1).trans rfl
   have hcz22_2 : w5.cell? ⟨gb397, 2, none⟩ = some (.slice A1_2 l1_2.length c1_2) := (Bc_ BK397.out 2).trans rfl
   have hcz22_3 : w5.cell? ⟨gb397, 3, none⟩ = some (.int .i64 a1_3) := (Bc_ BK397.out 3).trans rfl
   have hcz22_4 : w5.cell? ⟨gb397, 4, none⟩ = some (.slice A1_4 l1_4.length c1_4) := (Bc_ BK397.out 4).trans rfl
   have hfz22_0 := Bf_ BK397.out 0
   have hfz22_1 := Bf_ BK397.out 1
   have hfz22_2 := Bf_ BK397.out 2
   have hfz22_3 := Bf_ BK397.out 3
   have hfz22_4 := Bf_ BK397.out 4
   go_wp2
   repeat (go_quiet (fail); try go_wp2)
   go_meet
   case rel => exact ⟨_, (true), (by first | rfl | (simp; done) | (simp [*]; done)), H', ⟨by first | omega | exact Nat.le_refl _⟩, ⟨by (with_reducible repeat (first | refine Bn_ ?_ _ | refine Bd_ ?_ | refine Ba_ ?_ _)); exact BK396.out⟩, ⟨by (with_reducible repeat (first | refine Bn_ ?_ _ | refine Bd_ ?_ | refine Ba_ ?_ _)); exact BK397.out⟩, ⟨by repeat (first | (with_reducible first | exact HB.out | apply Al_ | apply Dn_ | apply D1_ | refine Bs_ ?_ GE396.out | refine Bs_ ?_ GE397.out) | exact HB.out)⟩⟩
 case rest =>
  clear HC3
  try clear c1
  try clear c2
  try clear p2
  try clear c6
  try clear c6b0
  try clear c6b1
  try clear c7
  try clear c7b0
  try clear c7b1
  try clear c8
  try clear c8b0
  try clear c8b1
  try clear c8b2
  try clear c10
  try clear c11
  try clear c14
  try clear c17
  try clear c20
  try clear hcz11_0
  try clear hcz11_1
  try clear hcz11_2
  try clear hcz11_3
  try clear hcz11_4
  try clear hcz12_0
  try clear hcz12_1
  try clear hcz12_2
  try clear hcz12_3
  try clear hcz12_4
  try clear hcz15_0
  try clear hcz15_1
  try clear hcz15_2
  try clear hcz15_3
  try clear hcz15_4
  try clear hcz16_0
  try clear hcz16_1
  try clear hcz16_2
  try clear hcz16_3
  try clear hcz16_4
  try clear hcz18_0
  try clear hcz18_1
  try clear hcz18_2
  try clear hcz18_3
  try clear hcz18_4
  try clear hcz19_0
  try clear hcz19_1
  try clear hcz19_2
  try clear hcz19_3
  try clear hcz19_4
  try clear hcz21_0
  try clear hcz21_1
  try clear hcz21_2
  try clear hcz21_3
  try clear hcz21_4
  try clear hcz22_0
  try clear hcz22_1
  try clear hcz22_2
  try clear hcz22_3
  try clear hcz22_4
  try clear hfz11_0
  try clear hfz11_1
  try clear hfz11_2
  try clear hfz11_3
  try clear hfz11_4
  try clear hfz12_0
  try clear hfz12_1
  try clear hfz12_2
  try clear hfz12_3
  try clear hfz12_4
  try clear hfz15_0
  try clear hfz15_1
  try clear hfz15_2
  try clear hfz15_3
  try clear hfz15_4
  try clear hfz16_0
  try clear hfz16_1
  try clear hfz16_2
  try clear hfz16_3
  try clear hfz16_4
  try clear hfz18_0
  try clear hfz18_1
  try clear hfz18_2
  try clear hfz18_3
  try clear hfz18_4
  try clear hfz19_0
  try clear hfz19_1
  try clear hfz19_2
  try clear hfz19_3
  try clear hfz19_4
  try clear hfz21_0
  try clear hfz21_1
  try clear hfz21_2
  try clear hfz21_3
  try clear hfz21_4
  try clear hfz22_0
  try clear hfz22_1
  try clear hfz22_2
  try clear hfz22_3
  try clear hfz22_4
  obtain ⟨kq, x34_2, rfl, HA, HJ2, BK396, BK397, HB⟩ := hcut
  cases kq with
  | zero => exact absurd HA.out (by simp [r17Same.j0])
  | succ kj2 =>
   have H := HA.out
   clear HA
   simp only [r17Same.j0] at H
   by_cases c23 : x34_2 = true
   ·
    subst c23
    have H1 : (some false) = some r := by rw [if_pos rfl] at H; exact H
    clear H
    have H := H1
    clear H1
    obtain rfl := Option.some.inj H
    go_wp2
    repeat (go_quiet (fail); try go_wp2)
    go_ret
    exact ⟨by first | rfl | (simp [errW_none, errW_some] <;> rfl) | (simp [*, errW_none, errW_some] <;> rfl), by repeat (first | (with_reducible first | exact HB.out | apply Al_ | apply Dn_ | apply D1_ | refine Bs_ ?_ GE396.out | refine Bs_ ?_ GE397.out) | exact HB.out)⟩
   ·
    replace c23 := Bool.eq_false_iff.mpr c23
    subst c23
    have H1 : (r17Same.l0 kj2 0 a0_0 a0_1 l0_2 a0_3 l0_4 a1_0 a1_1 l1_2 a1_3 l1_4) = some r := by rw [if_neg (show ¬ (false = true) by decide)] at H; exact H
    clear H
    have H := H1
    clear H1
    have H' := A0_ H
    clear H
    go_wp2
    repeat (go_quiet (fail); try go_wp2)
    go_loopg [5] kj2 (fun kq v5 w' => ∃ (x5_2 : Int), v5 = .int .i64 x5_2 ∧ Aside0 (r17Same.l0 kq x5_2 a0_0 a0_1 l0_2 a0_3 l0_4 a1_0 a1_1 l1_2 a1_3 l1_4 = some r) ∧ Aside0 (kq ≤ kj2) ∧ Aside0 (w'.heap[gb396]? = some (.cells #[.int .i64 a0_0, .int .i64 a0_1, (.slice A0_2 l0_2.length c0_2), .int .i64 a0_3, (.slice A0_4 l0_4.length c0_4)] 28 (0, 0))) ∧ Aside0 (w'.heap[gb397]? = some (.cells #[.int .i64 a1_0, .int .i64 a1_1, (.slice A1_2 l1_2.length c1_2), .int .i64 a1_3, (.slice A1_4 l1_4.length c1_4)] 28 (0, 0))) ∧ Aside0 (Below w.heap.size w w'))
    case atStart => exact ⟨(0), (by first | rfl | (simp; done) | (simp [*]; done)), H', ⟨Nat.le_refl _⟩, ⟨by (with_reducible repeat (first | refine Bn_ ?_ _ | refine Bd_ ?_ | refine Ba_ ?_ _)); exact BK396.out⟩, ⟨by (with_reducible repeat (first | refine Bn_ ?_ _ | refine Bd_ ?_ | refine Ba_ ?_ _)); exact BK397.out⟩, ⟨by repeat (first | (with_reducible first | exact HB.out | apply Al_ | apply Dn_ | apply D1_ | refine Bs_ ?_ GE396.out | refine Bs_ ?_ GE397.out) | exact HB.out)⟩⟩
    case round =>
     clear H'
     try clear c1
     try clear c2
     try clear p2
     try clear c6
     try clear c6b0
     try clear c6b1
     try clear c7
     try clear c7b0
     try clear c7b1
     try clear c8
     try clear c8b0
     try clear c8b1
     try clear c8b2
     try clear c10
     try clear c11
     try clear c14
     try clear c17
     try clear c20
     try clear c23
     try clear hcz11_0
     try clear hcz11_1
     try clear hcz11_2
     try clear hcz11_3
     try clear hcz11_4
     try clear hcz12_0
     try clear hcz12_1
     try clear hcz12_2
     try clear hcz12_3
     try clear hcz12_4
     try clear hcz15_0
     try clear hcz15_1
     try clear hcz15_2
     try clear hcz15_3
     try clear hcz15_4
     try clear hcz16_0
     try clear hcz16_1
     try clear hcz16_2
     try clear hcz16_3
     try clear hcz16_4
     try clear hcz18_0
     try clear hcz18_1
     try clear hcz18_2
     try clear hcz18_3
     try clear hcz18_4
     try clear hcz19_0
     try clear hcz19_1
     try clear hcz19_2
     try clear hcz19_3
     try clear hcz19_4
     try clear hcz21_0
     try clear hcz21_1
     try clear hcz21_2
     try clear hcz21_3
     try clear hcz21_4
     try clear hcz22_0
     try clear hcz22_1
     try clear hcz22_2
     try clear hcz22_3
     try clear hcz22_4
     try clear hfz11_0
     try clear hfz11_1
     try clear hfz11_2
     try clear hfz11_3
     try clear hfz11_4
     try clear hfz12_0
     try clear hfz12_1
     try clear hfz12_2
     try clear hfz12_3
     try clear hfz12_4
     try clear hfz15_0
     try clear hfz15_1
     try clear hfz15_2
     try clear hfz15_3
     try clear hfz15_4
     try clear hfz16_0
     try clear hfz16_1
     try clear hfz16_2
     try clear hfz16_3
     try clear hfz16_4
     try clear hfz18_0
     try clear hfz18_1
     try clear hfz18_2
     try clear hfz18_3
     try clear hfz18_4
     try clear hfz19_0
     try clear hfz19_1
     try clear hfz19_2
     try clear hfz19_3
     try clear hfz19_4
     try clear hfz21_0
     try clear hfz21_1
     try clear hfz21_2
     try clear hfz21_3
     try clear hfz21_4
     try clear hfz22_0
     try clear hfz22_1
     try clear hfz22_2
     try clear hfz22_3
     try clear hfz22_4
     try clear p2
     try clear BK396
     try clear BK397
     obtain ⟨x5_2, rfl, HA, HK2, BK396, BK397, HB⟩ := hrel
     cases gk with
     | zero => exact absurd HA.out (by simp [r17Same.l0])
     | succ k2 =>
      have H := HA.out
      clear HA
      simp only [r17Same.l0] at H
      by_cases c24 : x5_2 < (l0_2.length : Int)
      ·
       rw [if_pos c24] at H
       have c24b0 : decide (x5_2 < (l0_2.length : Int)) = true := decide_eq_true c24
       clear c24
       by_cases c25 : 0 ≤ x5_2
       ·
        rw [if_pos c25] at H
        have c25b0 : decide (0 ≤ x5_2) = true := decide_eq_true c25
        clear c25
        by_cases c26 : x5_2 < (l1_2.length : Int)
        ·
         rw [if_pos c26] at H
         have c26b0 : decide (x5_2 < (l1_2.length : Int)) = true := decide_eq_true c26
         clear c26
         by_cases c27 : (rd l0_2 x5_2) = (rd l1_2 x5_2)
         ·
          rw [if_pos c27] at H
          have c27b0 : ((rd l0_2 x5_2) == (rd l1_2 x5_2)) = true := beq_iff_eq.mpr c27
          have c27b1 : ((rd l0_2 x5_2) != (rd l1_2 x5_2)) = false := bne_eq_false_iff_eq.mpr c27
          clear c27
          have H' := A0_ H
          clear H
          have hnb28 := NB396_397.out
          have hnc28 := NB397_396.out
          have hcz29_0 : wr.cell? ⟨gb396, 0, none⟩ = some (.int .i64 a0_0) := (Bc_ BK396.out 0).trans rfl
          have hcz29_1 : wr.cell? ⟨gb396, 1, none⟩ = some (.int .i64 a0_1) := (Bc_ BK396.out 1).trans rfl
          have hcz29_2 : wr.cell? ⟨gb396, 2, none⟩ = some (.slice A0_2 l0_2.length c0_2) := (Bc_ BK396.out 2).trans rfl
          have hcz29_3 : wr.cell? ⟨gb396, 3, none⟩ = some (.int .i64 a0_3) := (Bc_ BK396.out 3).trans rfl
          have hcz29_4 : wr.cell? ⟨gb396, 4, none⟩ = some (.slice A0_4 l0_4.length c0_4) := (Bc_ BK396.out 4).trans rfl
          have hfz29_0 := Bf_ BK396.out 0
          have hfz29_1 := Bf_ BK396.out 1
          have hfz29_2 := Bf_ BK396.out 2
          have hfz29_3 := Bf_ BK396.out 3
          have hfz29_4 := Bf_ BK396.out 4
          have p399 : 0 ≤ (x5_2 : Int) := of_decide_eq_true (by first | (with_reducible assumption) | assumption)
          have q399 : x5_2 < (l0_2.length : Int) := of_decide_eq_true (by first | (with_reducible assumption) | assumption)
          obtain ⟨ad399, e399, hx399_0⟩ := Kd.at_int HR0_2.out x5_2 p399 q399
          cases e399
          replace hx399_0 := (HB.out.cell (World.block_lt_of_cell? w _ hx399_0)).trans hx399_0
          replace p399 := eq_true p399
          replace q399 := eq_true q399
          have hcz30_0 : wr.cell? ⟨gb397, 0, none⟩ = some (.int .i64 a1_0) := (Bc_ BK397.out 0).trans rfl
          have hcz30_1 : wr.cell? ⟨gb397, 1, none⟩ = some (.int .i64 a1_1) := (Bc_ BK397.out 1).trans rfl
          have hcz30_2 : wr.cell? ⟨gb397, 2, none⟩ = some (.slice A1_2 l1_2.length c1_2) := (Bc_ BK397.out 2).trans rfl
          have hcz30_3 : wr.cell? ⟨gb397, 3, none⟩ = some (.int .i64 a1_3) := (Bc_ BK397.out 3).trans rfl
          have hcz30_4 : wr.cell? ⟨gb397, 4, none⟩ = some (.slice A1_4 l1_4.length c1_4) := (Bc_ BK397.out 4).trans rfl
          have hfz30_0 := Bf_ BK397.out 0
          have hfz30_1 := Bf_ BK397.out 1
          have hfz30_2 := Bf_ BK397.out 2
          have hfz30_3 := Bf_ BK397.out 3
          have hfz30_4 := Bf_ BK397.out 4
          have p400 : 0 ≤ (x5_2 : Int) := of_decide_eq_true (by first | (with_reducible assumption) | assumption)
          have q400 : x5_2 < (l1_2.length : Int) := of_decide_eq_true (by first | (with_reducible assumption) | assumption)
          obtain ⟨ad400, e400, hx400_0⟩ := Kd.at_int HR1_2.out x5_2 p400 q400
          cases e400
          replace hx400_0 := (HB.out.cell (World.block_lt_of_cell? w _ hx400_0)).trans hx400_0
          replace p400 := eq_true p400
          replace q400 := eq_true q400
          go_wp2
          repeat (go_quiet (fail); try go_wp2)
          go_roundg k2
          case measure => have := HJ2.out; have := HK2.out; omega
          case rel => exact ⟨(wrap64 (x5_2 + 1)), (by first | rfl | (simp; done) | (simp [*]; done)), H', ⟨by have := HJ2.out; have := HK2.out; omega⟩, ⟨by (with_reducible repeat (first | refine Bn_ ?_ _ | refine Bd_ ?_ | refine Ba_ ?_ _)); exact BK396.out⟩, ⟨by (with_reducible repeat (first | refine Bn_ ?_ _ | refine Bd_ ?_ | refine Ba_ ?_ _)); exact BK397.out⟩, ⟨by repeat (first | (with_reducible first | exact HB.out | apply Al_ | apply Dn_ | apply D1_ | refine Bs_ ?_ GE396.out | refine Bs_ ?_ GE397.out) | exact HB.out)⟩⟩
         ·
          rw [if_neg c27] at H
          have c27b0 : ((rd l0_2 x5_2) == (rd l1_2 x5_2)) = false := beq_eq_false_iff_ne.mpr c27
          have c27b1 : ((rd l0_2 x5_2) != (rd l1_2 x5_2)) = true := bne_iff_ne.mpr c27
          obtain rfl := Option.some.inj H
          have hnb31 := NB396_397.out
          have hnc31 := NB397_396.out
          have hcz32_0 : wr.cell? ⟨gb396, 0, none⟩ = some (.int .i64 a0_0) := (Bc_ BK396.out 0).trans rfl
          have hcz32_1 : wr.cell? ⟨gb396, 1, none⟩ = some (.int .i64 a0_1) := (Bc_ BK396.out 1).trans rfl
          have hcz32_2 : wr.cell? ⟨gb396, 2, none⟩ = some (.slice A0_2 l0_2.length c0_2) := (Bc_ BK396.out 2).trans rfl
          have hcz32_3 : wr.cell? ⟨gb396, 3, none⟩ = some (.int .i64 a0_3) := (Bc_ BK396.out 3).trans rfl
          have hcz32_4 : wr.cell? ⟨gb396, 4, none⟩ = some (.slice A0_4 l0_4.length c0_4) := (Bc_ BK396.out 4).trans rfl
          have hfz32_0 := Bf_ BK396.out 0
          have hfz32_1 := Bf_ BK396.out 1
          have hfz32_2 := Bf_ BK396.out 2
          have hfz32_3 := Bf_ BK396.out 3
          have hfz32_4 := Bf_ BK396.out 4
          have p399 : 0 ≤ (x5_2 : Int) := of_decide_eq_true (by first | (with_reducible assumption) | assumption)
          have q399 : x5_2 < (l0_2.length : Int) := of_decide_eq_true (by first | (with_reducible assumption) | assumption)
          obtain ⟨ad399, e399, hx399_0⟩ := Kd.at_int HR0_2.out x5_2 p399 q399
          cases e399
          replace hx399_0 := (HB.out.cell (World.block_lt_of_cell? w _ hx399_0)).trans hx399_0
          replace p399 := eq_true p399
          replace q399 := eq_true q399
          have hcz33_0 : wr.cell? ⟨gb397, 0, none⟩ = some (.int .i64 a1_0) := (Bc_ BK397.out 0).trans rfl
          have hcz33_1 : wr.cell? ⟨gb397, 1, none⟩ = some (.int .i64 a1_1) := (Bc_ BK397.out 1).trans rfl
          have hcz33_2 : wr.cell? ⟨gb397, 2, none⟩ = some (.slice A1_2 l1_2.length c1_2) := (Bc_ BK397.out 2).trans rfl
          have hcz33_3 : wr.cell? ⟨gb397, 3, none⟩ = some (.int .i64 a1_3) := (Bc_ BK397.out 3).trans rfl
          have hcz33_4 : wr.cell? ⟨gb397, 4, none⟩ = some (.slice A1_4 l1_4.length c1_4) := (Bc_ BK397.out 4).trans rfl
          have hfz33_0 := Bf_ BK397.out 0
          have hfz33_1 := Bf_ BK397.out 1
          have hfz33_2 := Bf_ BK397.out 2
          have hfz33_3 := Bf_ BK397.out 3
          have hfz33_4 := Bf_ BK397.out 4
          have p400 : 0 ≤ (x5_2 : Int) := of_decide_eq_true (by first | (with_reducible assumption) | assumption)
          have q400 : x5_2 < (l1_2.length : Int) := of_decide_eq_true (by first | (with_reducible assumption) | assumption)
          obtain ⟨ad400, e400, hx400_0⟩ := Kd.at_int HR1_2.out x5_2 p400 q400
          cases e400
          replace hx400_0 := (HB.out.cell (World.block_lt_of_cell? w _ hx400_0)).trans hx400_0
          replace p400 := eq_true p400
          replace q400 := eq_true q400
          go_wp2
          repeat (go_quiet (fail); try go_wp2)
          go_ret
          exact ⟨by first | rfl | (simp [errW_none, errW_some] <;> rfl) | (simp [*, errW_none, errW_some] <;> rfl), by repeat (first | (with_reducible first | exact HB.out | apply Al_ | apply Dn_ | apply D1_ | refine Bs_ ?_ GE396.out | refine Bs_ ?_ GE397.out) | exact HB.out)⟩
        ·
         rw [if_neg c26] at H
         exact absurd H (by simp)
       ·
        rw [if_neg c25] at H
        exact absurd H (by simp)
      ·
       rw [if_neg c24] at H
       have c24b0 : decide (x5_2 < (l0_2.length : Int)) = false := decide_eq_false c24
       clear c24
       obtain rfl := Option.some.inj H
       have hnb34 := NB396_397.out
       have hnc34 := NB397_396.out
       have hcz35_0 : wr.cell? ⟨gb396, 0, none⟩ = some (.int .i64 a0_0) := (Bc_ BK396.out 0).trans rfl
       have hcz35_1 : wr.cell? ⟨gb396, 1, none⟩ = some (.int .i64 a0_1) := (Bc_ BK396.out 1).trans rfl
       have hcz35_2 : wr.cell? ⟨gb396, 2, none⟩ = some (.slice A0_2 l0_2.length c0_2) := (Bc_ BK396.out 2).trans rfl
       have hcz35_3 : wr.cell? ⟨gb396, 3, none⟩ = some (.int .i64 a0_3) := (Bc_ BK396.out 3).trans rfl
       have hcz35_4 : wr.cell? ⟨gb396, 4, none⟩ = some (.slice A0_4 l0_4.length c0_4) := (Bc_ BK396.out 4).trans rfl
       have hfz35_0 := Bf_ BK396.out 0
       have hfz35_1 := Bf_ BK396.out 1
       have hfz35_2 := Bf_ BK396.out 2
       have hfz35_3 := Bf_ BK396.out 3
       have hfz35_4 := Bf_ BK396.out 4
       go_wp2
       repeat (go_quiet (fail); try go_wp2)
       go_ret
       exact ⟨by first | rfl | (simp [errW_none, errW_some] <;> rfl) | (simp [*, errW_none, errW_some] <;> rfl), by repeat (first | (with_reducible first | exact HB.out | apply Al_ | apply Dn_ | apply D1_ | refine Bs_ ?_ GE396.out | refine Bs_ ?_ GE397.out) | exact HB.out)⟩
def l17IntentMakes.j0 : Nat → Int → Int → Bool → Option (Bool)
 | 0, _, _, _ => none
 | k + 1, x0, x1, x22 => if x22 = true then ((l17awake.f).bind fun t401 => (some t401)) else ((iNew.f x0 x1).bind fun bt402 => ((r17New.f x0 x1).bind fun bt413 => ((l17awake.f).bind fun t424 => (if t424 = true then ((r17Same.f k bt402.1 bt402.2.1 bt402.2.2.1 bt402.2.2.2.1 bt402.2.2.2.2.1 bt413.1 bt413.2.1 bt413.2.2.1 bt413.2.2.2.1 bt413.2.2.2.2.1).bind fun t425 => (if t425 = true then (some (bt402.2.2.2.2.2 == bt413.2.2.2.2.2)) else (some false))) else (some false)))))
def l17IntentMakes.f (k : Nat) (a0 : Int) (a1 : Int) : Option (Bool) := if a0 > 300 then (if a1 > 0 then (if a1 < 20 then (l17IntentMakes.j0 k a0 a1 (decide (a0 ≤ 4096))) else (l17IntentMakes.j0 k a0 a1 false)) else (l17IntentMakes.j0 k a0 a1 false)) else (l17IntentMakes.j0 k a0 a1 false)
set_option maxHeartbeats 8000000 in
set_option maxRecDepth 100000 in
theorem l17IntentMakes.calls (k : Nat) (a0 : Int) (a1 : Int) (r : Bool) (w : World) (hG : TabOK w) (hT : Aside0 (r = true)) (h : l17IntentMakes.f k a0 a1 = some r) :
  Calls Tryd.prog 3 #[.int .i64 a0, .int .i64 a1] w fun e w' => e = .returned (.bool r) ∧ Below w.heap.size w w' := by
 have hu28 := Tryd.underlying28
 have HB := A0_ (Below.refl w.heap.size w)
 have H : (if a0 > 300 then (if a1 > 0 then (if a1 < 20 then (l17IntentMakes.j0 k a0 a1 (decide (a0 ≤ 4096))) else (l17IntentMakes.j0 k a0 a1 false)) else (l17IntentMakes.j0 k a0 a1 false)) else (l17IntentMakes.j0 k a0 a1 false)) = some r := h
 clear h
 have HC3 := A0_ H
 clear H
 go_enter Tryd.func3, Tryd.ntmps3
 go_upto_region 1 with (fail)
 go_cut [22] (fun v22 wc => ∃ (kq : Nat) (x22_2 : Bool), v22 = .bool x22_2 ∧ Aside0 (l17IntentMakes.j0 kq a0 a1 x22_2 = some r) ∧ Aside0 (kq ≤ k) ∧ Aside0 (Below w.heap.size w wc))
 case first =>
  have H := HC3.out
  clear HC3
  by_cases c4 : a0 > 300
  ·
   rw [if_pos c4] at H
   have c4b0 : decide (300 < a0) = true := decide_eq_true c4
   clear c4
   (first | rw [c4b0] | (simp only [i64_w, i32_w]; rw [c4b0]) | skip)
   by_cases c5 : a1 > 0
   ·
    rw [if_pos c5] at H
    have c5b0 : decide (0 < a1) = true := decide_eq_true c5
    clear c5
    by_cases c6 : a1 < 20
    ·
     rw [if_pos c6] at H
     have c6b0 : decide (a1 < 20) = true := decide_eq_true c6
     clear c6
     have H' := A0_ H
     clear H
     go_wp2
     go_meet
     case rel => exact ⟨_, (decide (a0 ≤ 4096)), (by first | rfl | (simp; done) | (simp [*]; done)), H', ⟨by first | omega | exact Nat.le_refl _⟩, ⟨by repeat (first | (with_reducible first | exact HB.out | apply Al_ | apply Dn_ | apply D1_) | exact HB.out)⟩⟩
    ·
     rw [if_neg c6] at H
     have c6b0 : decide (a1 < 20) = false := decide_eq_false c6
     clear c6
     have H' := A0_ H
     clear H
     go_wp2
     go_meet
     case rel => exact ⟨_, (false), (by first | rfl | (simp; done) | (simp [*]; done)), H', ⟨by first | omega | exact Nat.le_refl _⟩, ⟨by repeat (first | (with_reducible first | exact HB.out | apply Al_ | apply Dn_ | apply D1_) | exact HB.out)⟩⟩
   ·
    rw [if_neg c5] at H
    have c5b0 : decide (0 < a1) = false := decide_eq_false c5
    clear c5
    have H' := A0_ H
    clear H
    go_wp2
    go_meet
    case rel => exact ⟨_, (false), (by first | rfl | (simp; done) | (simp [*]; done)), H', ⟨by first | omega | exact Nat.le_refl _⟩, ⟨by repeat (first | (with_reducible first | exact HB.out | apply Al_ | apply Dn_ | apply D1_) | exact HB.out)⟩⟩
  ·
   rw [if_neg c4] at H
   have c4b0 : decide (300 < a0) = false := decide_eq_false c4
   clear c4
   (first | rw [c4b0] | (simp only [i64_w, i32_w]; rw [c4b0]) | skip)
   have H' := A0_ H
   clear H
   go_wp2
   go_meet
   case rel => exact ⟨_, (false), (by first | rfl | (simp; done) | (simp [*]; done)), H', ⟨by first | omega | exact Nat.le_refl _⟩, ⟨by repeat (first | (with_reducible first | exact HB.out | apply Al_ | apply Dn_ | apply D1_) | exact HB.out)⟩⟩
 case rest =>
  clear HC3
  try clear p2
  try clear c3
  try clear c4
  try clear c4b0
  try clear c5
  try clear c5b0
  try clear c6
  try clear c6b0
  obtain ⟨kq, x22_2, rfl, HA, HJ2, HB⟩ := hcut
  cases kq with
  | zero => exact absurd HA.out (by simp [l17IntentMakes.j0])
  | succ kj2 =>
   have H := HA.out
   clear HA
   simp only [l17IntentMakes.j0] at H
   by_cases c7 : x22_2 = true
   ·
    subst c7
    have H1 : ((l17awake.f).bind fun t401 => (some t401)) = some r := by rw [if_pos rfl] at H; exact H
    clear H
    have H := H1
    clear H1
    replace H := Option.bind_eq_some_iff.mp H
    obtain ⟨t401, A80, H⟩ := H
    replace H : (some t401) = some r := H
    have A8 := A0_ A80
    clear A80
    obtain rfl := Option.some.inj H
    go_wp2_with (first | ((with_reducible refine gate_callee (f := 8) rfl ?_); refine goesL_ (some 23) rfl rfl Tryd.func8 (by kernel_rfl) rfl #[] rfl (by (try simp only [List.map_toArray, List.map_cons, List.map_nil]); first | done | rfl | (simp only [List.length_drop, List.length_take]; rfl)) ?_; (with_reducible refine (l17awake.calls  t401 _ ?side1 A8.out).mono ?_); (case side1 => exact TabOK.below hG (by repeat (first | (with_reducible first | exact HB.out | apply Al_ | apply Dn_ | apply D1_) | exact HB.out))); rintro e w9 ⟨rfl, hb⟩; refine ⟨_, rfl, ?_⟩; have n0_ := A0_ (below_step (by repeat (first | (with_reducible first | exact HB.out | apply Al_ | apply Dn_ | apply D1_) | exact HB.out)) hb); clear HB; have HB := n0_; clear n0_; (try clear hb); (try clear hb2); (try clear hk); (try clear hi)))
    go_ret
    exact ⟨by first | rfl | (simp [errW_none, errW_some] <;> rfl) | (simp [*, errW_none, errW_some] <;> rfl), by repeat (first | (with_reducible first | exact HB.out | apply Al_ | apply Dn_ | apply D1_) | exact HB.out)⟩
   ·
    replace c7 := Bool.eq_false_iff.mpr c7
    subst c7
    have H1 : ((iNew.f a0 a1).bind fun bt402 => ((r17New.f a0 a1).bind fun bt413 => ((l17awake.f).bind fun t424 => (if t424 = true then ((r17Same.f kj2 bt402.1 bt402.2.1 bt402.2.2.1 bt402.2.2.2.1 bt402.2.2.2.2.1 bt413.1 bt413.2.1 bt413.2.2.1 bt413.2.2.2.1 bt413.2.2.2.2.1).bind fun t425 => (if t425 = true then (some (bt402.2.2.2.2.2 == bt413.2.2.2.2.2)) else (some false))) else (some false))))) = some r := by rw [if_neg (show ¬ (false = true) by decide)] at H; exact H
    clear H
    have H := H1
    clear H1
    replace H := Option.bind_eq_some_iff.mp H
    obtain ⟨⟨t402, t403, t404, t407, t408, t411⟩, A100, H⟩ := H
    replace H : ((r17New.f a0 a1).bind fun bt413 => ((l17awake.f).bind fun t424 => (if t424 = true then ((r17Same.f kj2 t402 t403 t404 t407 t408 bt413.1 bt413.2.1 bt413.2.2.1 bt413.2.2.2.1 bt413.2.2.2.2.1).bind fun t425 => (if t425 = true then (some (t411 == bt413.2.2.2.2.2)) else (some false))) else (some false)))) = some r := H
    have A10 := A0_ A100
    clear A100
    replace H := Option.bind_eq_some_iff.mp H
    obtain ⟨⟨t413, t414, t415, t418, t419, t422⟩, A110, H⟩ := H
    replace H : ((l17awake.f).bind fun t424 => (if t424 = true then ((r17Same.f kj2 t402 t403 t404 t407 t408 t413 t414 t415 t418 t419).bind fun t425 => (if t425 = true then (some (t411 == t422)) else (some false))) else (some false))) = some r := H
    have A11 := A0_ A110
    clear A110
    replace H := Option.bind_eq_some_iff.mp H
    obtain ⟨t424, A120, H⟩ := H
    replace H : (if t424 = true then ((r17Same.f kj2 t402 t403 t404 t407 t408 t413 t414 t415 t418 t419).bind fun t425 => (if t425 = true then (some (t411 == t422)) else (some false))) else (some false)) = some r := H
    have A12 := A0_ A120
    clear A120
    by_cases c13 : t424 = true
    ·
     subst c13
     have H1 : ((r17Same.f kj2 t402 t403 t404 t407 t408 t413 t414 t415 t418 t419).bind fun t425 => (if t425 = true then (some (t411 == t422)) else (some false))) = some r := by rw [if_pos rfl] at H; exact H
     clear H
     have H := H1
     clear H1
     replace H := Option.bind_eq_some_iff.mp H
     obtain ⟨t425, A140, H⟩ := H
     replace H : (if t425 = true then (some (t411 == t422)) else (some false)) = some r := H
     have A14 := A0_ A140
     clear A140
     by_cases c15 : t425 = true
     ·
      subst c15
      have H1 : (some (t411 == t422)) = some r := by rw [if_pos rfl] at H; exact H
      clear H
      have H := H1
      clear H1
      obtain rfl := Option.some.inj H
      go_wp2_with (first | ((with_reducible refine gate_callee (f := 9) rfl ?_); refine goesL_ (some 27) rfl rfl Tryd.func9 (by kernel_rfl) rfl #[.int .i64 a0, .int .i64 a1] rfl (by (try simp only [List.map_toArray, List.map_cons, List.map_nil]); first | done | rfl | (simp only [List.length_drop, List.length_take]; rfl)) ?_; (with_reducible refine (iNew.calls a0 a1 t402 t403 t404 t407 t408 t411 _ A10.out).mono ?_); rintro e w16 ⟨v405, v409, rfl, ho0, ho1, hb⟩; refine ⟨_, rfl, ?_⟩; have n0_ := A0_ (Kd.R_lower ho0 (below_size (by repeat (first | (with_reducible first | exact HB.out | apply Al_ | apply Dn_ | apply D1_) | exact HB.out)))); have n1_ := A0_ (Kd.R_lower ho1 (below_size (by repeat (first | (with_reducible first | exact HB.out | apply Al_ | apply Dn_ | apply D1_) | exact HB.out)))); have n2_ := A0_ (below_step (by repeat (first | (with_reducible first | exact HB.out | apply Al_ | apply Dn_ | apply D1_) | exact HB.out)) hb); clear HB; have HO406 := n0_; have HO410 := n1_; have HB := n2_; clear n0_ n1_ n2_; (try clear hb); (try clear hb2); (try clear hk); (try clear hi); (try clear ho0); (try clear ho1)) | ((with_reducible refine gate_dst (N := 5) rfl ?_); refine box_event ?hg (N := 5) ?hd (cs := #[.int .i64 0, .int .i64 0, .slice none 0 0, .int .i64 0, .slice none 0 0]) (t := 28) ?hr ?_; (case hd => rfl); (case hg => rfl); (case hr => first | (go_simp; done) | (go_simp; rfl)); intro gb412 hg w17 hbox hb; have n0_ := A0_ (Kd.R_below (by (with_reducible repeat (first | apply Ra_ | apply Rn_ | apply Rd_)); exact HO406.out) hb); have n1_ := A0_ (Kd.R_below (by (with_reducible repeat (first | apply Ra_ | apply Rn_ | apply Rd_)); exact HO410.out) hb); have n2_ := A0_ (below_step (by repeat (first | (with_reducible first | exact HB.out | apply Al_ | apply Dn_ | apply D1_) | exact HB.out)) hb); have n3_ := A0_ (hbox); have n4_ := A0_ ((by rw [hg]; exact (below_size (by repeat (first | (with_reducible first | exact HB.out | apply Al_ | apply Dn_ | apply D1_) | exact HB.out))) : w.heap.size ≤ gb412)); have n5_ := A0_ ((by rw [hg]; exact (below_size (by repeat (first | (with_reducible first | exact HB.out | apply Al_ | apply Dn_ | apply D1_) | exact HB.out))) : w.heap.size ≤ gb412)); clear HO406 HO410 HB; have HO406 := n0_; have HO410 := n1_; have HB := n2_; have BK412 := n3_; have GW412 := n4_; have GE412 := n5_; clear n0_ n1_ n2_ n3_ n4_ n5_ hb hbox hg; have hcz18_0 : w17.cell? ⟨gb412, 0, none⟩ = some (.int .i64 0) := (Bc_ BK412.out 0).trans rfl; have hcz18_1 : w17.cell? ⟨gb412, 1, none⟩ = some (.int .i64 0) := (Bc_ BK412.out 1).trans rfl; have hcz18_2 : w17.cell? ⟨gb412, 2, none⟩ = some (.slice none 0 0) := (Bc_ BK412.out 2).trans rfl; have hcz18_3 : w17.cell? ⟨gb412, 3, none⟩ = some (.int .i64 0) := (Bc_ BK412.out 3).trans rfl; have hcz18_4 : w17.cell? ⟨gb412, 4, none⟩ = some (.slice none 0 0) := (Bc_ BK412.out 4).trans rfl; have hfz18_0 := Bf_ BK412.out 0; have hfz18_1 := Bf_ BK412.out 1; have hfz18_2 := Bf_ BK412.out 2; have hfz18_3 := Bf_ BK412.out 3; have hfz18_4 := Bf_ BK412.out 4; obtain ⟨Ao19, co19, eo19⟩ := Kd.R_slice HO406.out; subst eo19; obtain ⟨Ao20, co20, eo20⟩ := Kd.R_slice HO410.out; subst eo20) | ((with_reducible refine gate_callee (f := 10) rfl ?_); refine goesL_ (some 33) rfl rfl Tryd.func10 (by kernel_rfl) rfl #[.int .i64 a0, .int .i64 a1] rfl (by (try simp only [List.map_toArray, List.map_cons, List.map_nil]); first | done | rfl | (simp only [List.length_drop, List.length_take]; rfl)) ?_; (with_reducible refine (r17New.calls a0 a1 t413 t414 t415 t418 t419 t422 _ A11.out).mono ?_); rintro e w21 ⟨v416, v420, rfl, ho0, ho1, hb⟩; refine ⟨_, rfl, ?_⟩; have n0_ := A0_ (Kd.R_elder' (by (with_reducible repeat (first | apply Ra_ | apply Rn_ | apply Rd_)); exact (Kd.R_mono (Rf_ (p := ⟨gb412, 4, none⟩) (Rf_ (p := ⟨gb412, 3, none⟩) (Rf_ (p := ⟨gb412, 2, none⟩) (Rf_ (p := ⟨gb412, 1, none⟩) (Rf_ (p := ⟨gb412, 0, none⟩) (Kd.R_types HO406.out BK412.out (by decide)) K2_ (.int .i64 t402)) K2_ (.int .i64 t403)) K2_ (.slice Ao19 t404.length co19)) K2_ (.int .i64 t407)) K2_ (.slice Ao20 t408.length co20)) (fun _ h_ => h_.1))) (Kd.R_base ho0) hb); have n1_ := A0_ (Kd.R_elder' (by (with_reducible repeat (first | apply Ra_ | apply Rn_ | apply Rd_)); exact (Kd.R_mono (Rf_ (p := ⟨gb412, 4, none⟩) (Rf_ (p := ⟨gb412, 3, none⟩) (Rf_ (p := ⟨gb412, 2, none⟩) (Rf_ (p := ⟨gb412, 1, none⟩) (Rf_ (p := ⟨gb412, 0, none⟩) (Kd.R_types HO410.out BK412.out (by decide)) K2_ (.int .i64 t402)) K2_ (.int .i64 t403)) K2_ (.slice Ao19 t404.length co19)) K2_ (.int .i64 t407)) K2_ (.slice Ao20 t408.length co20)) (fun _ h_ => h_.1))) (Kd.R_base ho1) hb); have n2_ := A0_ (Kd.R_lower (Kd.R_new' ho0 (Kd.R_lt (by (with_reducible repeat (first | apply Ra_ | apply Rn_ | apply Rd_)); exact (Kd.R_mono (Rf_ (p := ⟨gb412, 4, none⟩) (Rf_ (p := ⟨gb412, 3, none⟩) (Rf_ (p := ⟨gb412, 2, none⟩) (Rf_ (p := ⟨gb412, 1, none⟩) (Rf_ (p := ⟨gb412, 0, none⟩) (Kd.R_types HO406.out BK412.out (by decide)) K2_ (.int .i64 t402)) K2_ (.int .i64 t403)) K2_ (.slice Ao19 t404.length co19)) K2_ (.int .i64 t407)) K2_ (.slice Ao20 t408.length co20)) (fun _ h_ => h_.1))))) (below_size (by repeat (first | (with_reducible first | exact HB.out | apply Al_ | apply Dn_ | apply D1_ | refine Bs_ ?_ GE412.out) | exact HB.out)))); have n3_ := A0_ (Kd.R_lower (Kd.R_new' ho1 (Kd.R_lt (by (with_reducible repeat (first | apply Ra_ | apply Rn_ | apply Rd_)); exact (Kd.R_mono (Rf_ (p := ⟨gb412, 4, none⟩) (Rf_ (p := ⟨gb412, 3, none⟩) (Rf_ (p := ⟨gb412, 2, none⟩) (Rf_ (p := ⟨gb412, 1, none⟩) (Rf_ (p := ⟨gb412, 0, none⟩) (Kd.R_types HO410.out BK412.out (by decide)) K2_ (.int .i64 t402)) K2_ (.int .i64 t403)) K2_ (.slice Ao19 t404.length co19)) K2_ (.int .i64 t407)) K2_ (.slice Ao20 t408.length co20)) (fun _ h_ => h_.1))))) (below_size (by repeat (first | (with_reducible first | exact HB.out | apply Al_ | apply Dn_ | apply D1_ | refine Bs_ ?_ GE412.out) | exact HB.out)))); have n4_ := A0_ (blk_below (g := gb412) (o := .cells #[.int .i64 t402, .int .i64 t403, .slice Ao19 t404.length co19, .int .i64 t407, .slice Ao20 t408.length co20] 28 (0, 0)) (by (with_reducible repeat (first | refine Bn_ ?_ _ | refine Bd_ ?_ | refine Ba_ ?_ _)); refine blk_put (cs := #[.int .i64 t402, .int .i64 t403, .slice Ao19 t404.length co19, .int .i64 t407, .slice none 0 0]) ?_ 4 _ rfl; (with_reducible repeat (first | refine Bn_ ?_ _ | refine Bd_ ?_ | refine Ba_ ?_ _)); refine blk_put (cs := #[.int .i64 t402, .int .i64 t403, .slice Ao19 t404.length co19, .int .i64 0, .slice none 0 0]) ?_ 3 _ rfl; (with_reducible repeat (first | refine Bn_ ?_ _ | refine Bd_ ?_ | refine Ba_ ?_ _)); refine blk_put (cs := #[.int .i64 t402, .int .i64 t403, .slice none 0 0, .int .i64 0, .slice none 0 0]) ?_ 2 _ rfl; (with_reducible repeat (first | refine Bn_ ?_ _ | refine Bd_ ?_ | refine Ba_ ?_ _)); refine blk_put (cs := #[.int .i64 t402, .int .i64 0, .slice none 0 0, .int .i64 0, .slice none 0 0]) ?_ 1 _ rfl; (with_reducible repeat (first | refine Bn_ ?_ _ | refine Bd_ ?_ | refine Ba_ ?_ _)); refine blk_put (cs := #[.int .i64 0, .int .i64 0, .slice none 0 0, .int .i64 0, .slice none 0 0]) ?_ 0 _ rfl; (with_reducible repeat (first | refine Bn_ ?_ _ | refine Bd_ ?_ | refine Ba_ ?_ _)); exact BK412.out) hb); have n5_ := A0_ (below_step (by repeat (first | (with_reducible first | exact HB.out | apply Al_ | apply Dn_ | apply D1_ | refine Bs_ ?_ GE412.out) | exact HB.out)) hb); clear HO406 HO410 BK412 HB; have HO406 := n0_; have HO410 := n1_; have HO417 := n2_; have HO421 := n3_; have BK412 := n4_; have HB := n5_; clear n0_ n1_ n2_ n3_ n4_ n5_; (try clear hb); (try clear hb2); (try clear hk); (try clear hi); (try clear ho0); (try clear ho1)) | ((with_reducible refine gate_dst (N := 7) rfl ?_); refine box_event ?hg (N := 7) ?hd (cs := #[.int .i64 0, .int .i64 0, .slice none 0 0, .int .i64 0, .slice none 0 0]) (t := 28) ?hr ?_; (case hd => rfl); (case hg => rfl); (case hr => first | (go_simp; done) | (go_simp; rfl)); intro gb423 hg w22 hbox hb; have n0_ := A0_ (Kd.R_below (by (with_reducible repeat (first | apply Ra_ | apply Rn_ | apply Rd_)); exact HO406.out) hb); have n1_ := A0_ (Kd.R_below (by (with_reducible repeat (first | apply Ra_ | apply Rn_ | apply Rd_)); exact HO410.out) hb); have n2_ := A0_ (Kd.R_below (by (with_reducible repeat (first | apply Ra_ | apply Rn_ | apply Rd_)); exact HO417.out) hb); have n3_ := A0_ (Kd.R_below (by (with_reducible repeat (first | apply Ra_ | apply Rn_ | apply Rd_)); exact HO421.out) hb); have n4_ := A0_ (blk_below (g := gb412) (o := .cells #[.int .i64 t402, .int .i64 t403, .slice Ao19 t404.length co19, .int .i64 t407, .slice Ao20 t408.length co20] 28 (0, 0)) (by (with_reducible repeat (first | refine Bn_ ?_ _ | refine Bd_ ?_ | refine Ba_ ?_ _)); exact BK412.out) hb); have n5_ := A0_ (below_step (by repeat (first | (with_reducible first | exact HB.out | apply Al_ | apply Dn_ | apply D1_ | refine Bs_ ?_ GE412.out) | exact HB.out)) hb); have n6_ := A0_ (hbox); have n7_ := A0_ ((by rw [hg]; exact (below_size (by repeat (first | (with_reducible first | exact HB.out | apply Al_ | apply Dn_ | apply D1_ | refine Bs_ ?_ GE412.out) | exact HB.out))) : w.heap.size ≤ gb423)); have n8_ := A0_ ((by rw [hg]; exact (below_size (by repeat (first | (with_reducible first | exact HB.out | apply Al_ | apply Dn_ | apply D1_ | refine Bs_ ?_ GE412.out) | exact HB.out))) : w.heap.size ≤ gb423)); have n9_ := A0_ ((by rw [hg]; exact Nat.ne_of_lt (blk_lt (g := gb412) (o := .cells #[.int .i64 t402, .int .i64 t403, .slice Ao19 t404.length co19, .int .i64 t407, .slice Ao20 t408.length co20] 28 (0, 0)) (by (with_reducible repeat (first | refine Bn_ ?_ _ | refine Bd_ ?_ | refine Ba_ ?_ _)); exact BK412.out)) : gb412 ≠ gb423)); have n10_ := A0_ ((by rw [hg]; exact Nat.ne_of_gt (blk_lt (g := gb412) (o := .cells #[.int .i64 t402, .int .i64 t403, .slice Ao19 t404.length co19, .int .i64 t407, .slice Ao20 t408.length co20] 28 (0, 0)) (by (with_reducible repeat (first | refine Bn_ ?_ _ | refine Bd_ ?_ | refine Ba_ ?_ _)); exact BK412.out)) : gb423 ≠ gb412)); clear HO406 HO410 HO417 HO421 BK412 HB; have HO406 := n0_; have HO410 := n1_; have HO417 := n2_; have HO421 := n3_; have BK412 := n4_; have HB := n5_; have BK423 := n6_; have GW423 := n7_; have GE423 := n8_; have NB412_423 := n9_; have NB423_412 := n10_; clear n0_ n1_ n2_ n3_ n4_ n5_ n6_ n7_ n8_ n9_ n10_ hb hbox hg; have hnb23 := NB423_412.out; have hnc23 := NB412_423.out; have hcz24_0 : w22.cell? ⟨gb423, 0, none⟩ = some (.int .i64 0) := (Bc_ BK423.out 0).trans rfl; have hcz24_1 : w22.cell? ⟨gb423, 1, none⟩ = some (.int .i64 0) := (Bc_ BK423.out 1).trans rfl; have hcz24_2 : w22.cell? ⟨gb423, 2, none⟩ = some (.slice none 0 0) := (Bc_ BK423.out 2).trans rfl; have hcz24_3 : w22.cell? ⟨gb423, 3, none⟩ = some (.int .i64 0) := (Bc_ BK423.out 3).trans rfl; have hcz24_4 : w22.cell? ⟨gb423, 4, none⟩ = some (.slice none 0 0) := (Bc_ BK423.out 4).trans rfl; have hfz24_0 := Bf_ BK423.out 0; have hfz24_1 := Bf_ BK423.out 1; have hfz24_2 := Bf_ BK423.out 2; have hfz24_3 := Bf_ BK423.out 3; have hfz24_4 := Bf_ BK423.out 4; obtain ⟨Ao25, co25, eo25⟩ := Kd.R_slice HO417.out; subst eo25; obtain ⟨Ao26, co26, eo26⟩ := Kd.R_slice HO421.out; subst eo26) | ((with_reducible refine gate_callee (f := 8) rfl ?_); refine goesL_ (some 36) rfl rfl Tryd.func8 (by kernel_rfl) rfl #[] rfl (by (try simp only [List.map_toArray, List.map_cons, List.map_nil]); first | done | rfl | (simp only [List.length_drop, List.length_take]; rfl)) ?_; (with_reducible refine (l17awake.calls  true _ ?side1 A12.out).mono ?_); (case side1 => exact TabOK.below hG (by repeat (first | (with_reducible first | exact HB.out | apply Al_ | apply Dn_ | apply D1_ | refine Bs_ ?_ GE412.out | refine Bs_ ?_ GE423.out) | exact HB.out))); rintro e w27 ⟨rfl, hb⟩; refine ⟨_, rfl, ?_⟩; have n0_ := A0_ (Kd.R_below (by (with_reducible repeat (first | apply Ra_ | apply Rn_ | apply Rd_)); exact (Kd.R_mono (Rf_ (p := ⟨gb423, 4, none⟩) (Rf_ (p := ⟨gb423, 3, none⟩) (Rf_ (p := ⟨gb423, 2, none⟩) (Rf_ (p := ⟨gb423, 1, none⟩) (Rf_ (p := ⟨gb423, 0, none⟩) (Kd.R_types HO406.out BK423.out (by decide)) K2_ (.int .i64 t413)) K2_ (.int .i64 t414)) K2_ (.slice Ao25 t415.length co25)) K2_ (.int .i64 t418)) K2_ (.slice Ao26 t419.length co26)) (fun _ h_ => h_.1))) hb); have n1_ := A0_ (Kd.R_below (by (with_reducible repeat (first | apply Ra_ | apply Rn_ | apply Rd_)); exact (Kd.R_mono (Rf_ (p := ⟨gb423, 4, none⟩) (Rf_ (p := ⟨gb423, 3, none⟩) (Rf_ (p := ⟨gb423, 2, none⟩) (Rf_ (p := ⟨gb423, 1, none⟩) (Rf_ (p := ⟨gb423, 0, none⟩) (Kd.R_types HO410.out BK423.out (by decide)) K2_ (.int .i64 t413)) K2_ (.int .i64 t414)) K2_ (.slice Ao25 t415.length co25)) K2_ (.int .i64 t418)) K2_ (.slice Ao26 t419.length co26)) (fun _ h_ => h_.1))) hb); have n2_ := A0_ (Kd.R_below (by (with_reducible repeat (first | apply Ra_ | apply Rn_ | apply Rd_)); exact (Kd.R_mono (Rf_ (p := ⟨gb423, 4, none⟩) (Rf_ (p := ⟨gb423, 3, none⟩) (Rf_ (p := ⟨gb423, 2, none⟩) (Rf_ (p := ⟨gb423, 1, none⟩) (Rf_ (p := ⟨gb423, 0, none⟩) (Kd.R_types HO417.out BK423.out (by decide)) K2_ (.int .i64 t413)) K2_ (.int .i64 t414)) K2_ (.slice Ao25 t415.length co25)) K2_ (.int .i64 t418)) K2_ (.slice Ao26 t419.length co26)) (fun _ h_ => h_.1))) hb); have n3_ := A0_ (Kd.R_below (by (with_reducible repeat (first | apply Ra_ | apply Rn_ | apply Rd_)); exact (Kd.R_mono (Rf_ (p := ⟨gb423, 4, none⟩) (Rf_ (p := ⟨gb423, 3, none⟩) (Rf_ (p := ⟨gb423, 2, none⟩) (Rf_ (p := ⟨gb423, 1, none⟩) (Rf_ (p := ⟨gb423, 0, none⟩) (Kd.R_types HO421.out BK423.out (by decide)) K2_ (.int .i64 t413)) K2_ (.int .i64 t414)) K2_ (.slice Ao25 t415.length co25)) K2_ (.int .i64 t418)) K2_ (.slice Ao26 t419.length co26)) (fun _ h_ => h_.1))) hb); have n4_ := A0_ (blk_below (g := gb412) (o := .cells #[.int .i64 t402, .int .i64 t403, .slice Ao19 t404.length co19, .int .i64 t407, .slice Ao20 t408.length co20] 28 (0, 0)) (by (with_reducible repeat (first | refine Bn_ ?_ _ | refine Bd_ ?_ | refine Ba_ ?_ _)); refine Bz_ ?_ NB412_423.out _; (with_reducible repeat (first | refine Bn_ ?_ _ | refine Bd_ ?_ | refine Ba_ ?_ _)); refine Bz_ ?_ NB412_423.out _; (with_reducible repeat (first | refine Bn_ ?_ _ | refine Bd_ ?_ | refine Ba_ ?_ _)); refine Bz_ ?_ NB412_423.out _; (with_reducible repeat (first | refine Bn_ ?_ _ | refine Bd_ ?_ | refine Ba_ ?_ _)); refine Bz_ ?_ NB412_423.out _; (with_reducible repeat (first | refine Bn_ ?_ _ | refine Bd_ ?_ | refine Ba_ ?_ _)); refine Bz_ ?_ NB412_423.out _; (with_reducible repeat (first | refine Bn_ ?_ _ | refine Bd_ ?_ | refine Ba_ ?_ _)); exact BK412.out) hb); have n5_ := A0_ (blk_below (g := gb423) (o := .cells #[.int .i64 t413, .int .i64 t414, .slice Ao25 t415.length co25, .int .i64 t418, .slice Ao26 t419.length co26] 28 (0, 0)) (by (with_reducible repeat (first | refine Bn_ ?_ _ | refine Bd_ ?_ | refine Ba_ ?_ _)); refine blk_put (cs := #[.int .i64 t413, .int .i64 t414, .slice Ao25 t415.length co25, .int .i64 t418, .slice none 0 0]) ?_ 4 _ rfl; (with_reducible repeat (first | refine Bn_ ?_ _ | refine Bd_ ?_ | refine Ba_ ?_ _)); refine blk_put (cs := #[.int .i64 t413, .int .i64 t414, .slice Ao25 t415.length co25, .int .i64 0, .slice none 0 0]) ?_ 3 _ rfl; (with_reducible repeat (first | refine Bn_ ?_ _ | refine Bd_ ?_ | refine Ba_ ?_ _)); refine blk_put (cs := #[.int .i64 t413, .int .i64 t414, .slice none 0 0, .int .i64 0, .slice none 0 0]) ?_ 2 _ rfl; (with_reducible repeat (first | refine Bn_ ?_ _ | refine Bd_ ?_ | refine Ba_ ?_ _)); refine blk_put (cs := #[.int .i64 t413, .int .i64 0, .slice none 0 0, .int .i64 0, .slice none 0 0]) ?_ 1 _ rfl; (with_reducible repeat (first | refine Bn_ ?_ _ | refine Bd_ ?_ | refine Ba_ ?_ _)); refine blk_put (cs := #[.int .i64 0, .int .i64 0, .slice none 0 0, .int .i64 0, .slice none 0 0]) ?_ 0 _ rfl; (with_reducible repeat (first | refine Bn_ ?_ _ | refine Bd_ ?_ | refine Ba_ ?_ _)); exact BK423.out) hb); have n6_ := A0_ (below_step (by repeat (first | (with_reducible first | exact HB.out | apply Al_ | apply Dn_ | apply D1_ | refine Bs_ ?_ GE412.out | refine Bs_ ?_ GE423.out) | exact HB.out)) hb); clear HO406 HO410 HO417 HO421 BK412 BK423 HB; have HO406 := n0_; have HO410 := n1_; have HO417 := n2_; have HO421 := n3_; have BK412 := n4_; have BK423 := n5_; have HB := n6_; clear n0_ n1_ n2_ n3_ n4_ n5_ n6_; (try clear hb); (try clear hb2); (try clear hk); (try clear hi); have hcz28_0 : w27.cell? ⟨gb412, 0, none⟩ = some (.int .i64 t402) := (Bc_ BK412.out 0).trans rfl; have hcz28_1 : w27.cell? ⟨gb412, 1, none⟩ = some (.int .i64 t403) := (Bc_ BK412.out 1).trans rfl; have hcz28_2 : w27.cell? ⟨gb412, 2, none⟩ = some (.slice Ao19 t404.length co19) := (Bc_ BK412.out 2).trans rfl; have hcz28_3 : w27.cell? ⟨gb412, 3, none⟩ = some (.int .i64 t407) := (Bc_ BK412.out 3).trans rfl; have hcz28_4 : w27.cell? ⟨gb412, 4, none⟩ = some (.slice Ao20 t408.length co20) := (Bc_ BK412.out 4).trans rfl; have hfz28_0 := Bf_ BK412.out 0; have hfz28_1 := Bf_ BK412.out 1; have hfz28_2 := Bf_ BK412.out 2; have hfz28_3 := Bf_ BK412.out 3; have hfz28_4 := Bf_ BK412.out 4; have hcz29_0 : w27.cell? ⟨gb423, 0, none⟩ = some (.int .i64 t413) := (Bc_ BK423.out 0).trans rfl; have hcz29_1 : w27.cell? ⟨gb423, 1, none⟩ = some (.int .i64 t414) := (Bc_ BK423.out 1).trans rfl; have hcz29_2 : w27.cell? ⟨gb423, 2, none⟩ = some (.slice Ao25 t415.length co25) := (Bc_ BK423.out 2).trans rfl; have hcz29_3 : w27.cell? ⟨gb423, 3, none⟩ = some (.int .i64 t418) := (Bc_ BK423.out 3).trans rfl; have hcz29_4 : w27.cell? ⟨gb423, 4, none⟩ = some (.slice Ao26 t419.length co26) := (Bc_ BK423.out 4).trans rfl; have hfz29_0 := Bf_ BK423.out 0; have hfz29_1 := Bf_ BK423.out 1; have hfz29_2 := Bf_ BK423.out 2; have hfz29_3 := Bf_ BK423.out 3; have hfz29_4 := Bf_ BK423.out 4) | (go_at_call 11; (with_reducible refine (r17Same.calls kj2 t402 t403 _ _ t404 t407 _ _ t408 t413 t414 _ _ t415 t418 _ _ t419 true _ ?side1 ?side2 ?side3 ?side4 ?side5 ?side6 ?side7 ?side8 A14.out).mono ?_); (case side1 => repeat (first | exact (Kd.R_reads' HO406.out).2.2 | (with_reducible first | refine Kd.C_alloc ?_ _ | refine Kd.C_drewN ?_ _ | refine Kd.C_drew ?_))); (case side2 => exact (Kd.R_reads' HO406.out).2.1); (case side3 => repeat (first | exact (Kd.R_reads' HO410.out).2.2 | (with_reducible first | refine Kd.C_alloc ?_ _ | refine Kd.C_drewN ?_ _ | refine Kd.C_drew ?_))); (case side4 => exact (Kd.R_reads' HO410.out).2.1); (case side5 => repeat (first | exact (Kd.R_reads' HO417.out).2.2 | (with_reducible first | refine Kd.C_alloc ?_ _ | refine Kd.C_drewN ?_ _ | refine Kd.C_drew ?_))); (case side6 => exact (Kd.R_reads' HO417.out).2.1); (case side7 => repeat (first | exact (Kd.R_reads' HO421.out).2.2 | (with_reducible first | refine Kd.C_alloc ?_ _ | refine Kd.C_drewN ?_ _ | refine Kd.C_drew ?_))); (case side8 => exact (Kd.R_reads' HO421.out).2.1); rintro e w30 ⟨rfl, hb⟩; have n0_ := A0_ (Kd.R_below (by (with_reducible repeat (first | apply Ra_ | apply Rn_ | apply Rd_)); exact HO406.out) hb); have n1_ := A0_ (Kd.R_below (by (with_reducible repeat (first | apply Ra_ | apply Rn_ | apply Rd_)); exact HO410.out) hb); have n2_ := A0_ (Kd.R_below (by (with_reducible repeat (first | apply Ra_ | apply Rn_ | apply Rd_)); exact HO417.out) hb); have n3_ := A0_ (Kd.R_below (by (with_reducible repeat (first | apply Ra_ | apply Rn_ | apply Rd_)); exact HO421.out) hb); have n4_ := A0_ (blk_below (g := gb412) (o := .cells #[.int .i64 t402, .int .i64 t403, .slice Ao19 t404.length co19, .int .i64 t407, .slice Ao20 t408.length co20] 28 (0, 0)) (by (with_reducible repeat (first | refine Bn_ ?_ _ | refine Bd_ ?_ | refine Ba_ ?_ _)); exact BK412.out) hb); have n5_ := A0_ (blk_below (g := gb423) (o := .cells #[.int .i64 t413, .int .i64 t414, .slice Ao25 t415.length co25, .int .i64 t418, .slice Ao26 t419.length co26] 28 (0, 0)) (by (with_reducible repeat (first | refine Bn_ ?_ _ | refine Bd_ ?_ | refine Ba_ ?_ _)); exact BK423.out) hb); have n6_ := A0_ (below_step (by repeat (first | (with_reducible first | exact HB.out | apply Al_ | apply Dn_ | apply D1_ | refine Bs_ ?_ GE412.out | refine Bs_ ?_ GE423.out) | exact HB.out)) hb); clear HO406 HO410 HO417 HO421 BK412 BK423 HB; have HO406 := n0_; have HO410 := n1_; have HO417 := n2_; have HO421 := n3_; have BK412 := n4_; have BK423 := n5_; have HB := n6_; clear n0_ n1_ n2_ n3_ n4_ n5_ n6_; (try clear hb); (try clear hb2); (try clear hk); (try clear hi)))
      go_ret
      exact ⟨by first | rfl | (simp [errW_none, errW_some] <;> rfl) | (simp [*, errW_none, errW_some] <;> rfl), by repeat (first | (with_reducible first | exact HB.out | apply Al_ | apply Dn_ | apply D1_ | refine Bs_ ?_ GE412.out | refine Bs_ ?_ GE423.out) | exact HB.out)⟩
     ·
      replace c15 := Bool.eq_false_iff.mpr c15
      subst c15
      have H1 : (some false) = some r := by rw [if_neg (show ¬ (false = true) by decide)] at H; exact H
      clear H
      have H := H1
      clear H1
      exact absurd ((Option.some.inj H).trans hT.out) (by decide)
    ·
     replace c13 := Bool.eq_false_iff.mpr c13
     subst c13
     have H1 : (some false) = some r := by rw [if_neg (show ¬ (false = true) by decide)] at H; exact H
     clear H
     have H := H1
     clear H1
     exact absurd ((Option.some.inj H).trans hT.out) (by decide)
end Go.Proofs.YtnjbdcnefienhaaDoor.P

namespace Go.Proofs.YtnjbdcnefienhaaDoor.P
open Go.RowKit Go.Proofs.YtnjbdcnefienhaaDoorW.PrintWords Go.Proofs.YtnjbdcnefienhaaDoorW.PrintLast Go.Proofs.YtnjbdcnefienhaaDoorW.PrintMore
def newS (a : Int) : Int × List Int × Int := if a < 0 then (0, [], 2) else if a > 4096 then (0, [], 2) else (a, List.replicate ((a + 63) / 64).toNat 0, 0)
theorem bnew_eq (a : Int) : bNew.f a = some (newS a) := by
  unfold bNew.f newS
  by_cases h1 : a < 0
  · rw [if_pos h1, if_pos h1]
  rw [if_neg h1, if_neg h1]
  by_cases h2 : a > 4096
  · rw [if_pos h2, if_pos h2]
  rw [if_neg h2, if_neg h2, words_eq a (by omega) (by omega), Option.bind_some, if_pos (by omega), if_pos (by omega)]
theorem rnew_eq (a : Int) : r02New.f a = some (newS a) := by
  unfold r02New.f newS
  by_cases h1 : a < 0
  · rw [if_pos h1, if_pos h1]
  rw [if_neg h1, if_neg h1]
  by_cases h2 : a > 4096
  · rw [if_pos h2, if_pos h2]
  have e : wrap64 (Int.tdiv (wrap64 (a + 63)) 64) = (a + 63) / 64 := by
    rw [w64 (a + 63) (by omega) (by omega), Int.tdiv_eq_ediv_of_nonneg (by omega), w64 _ (by omega) (by omega)]
  rw [if_neg h2, if_neg h2, e, if_pos (by omega), if_pos (by omega)]
theorem same_loop (a b : Int) (l : List Int) (hl : l.length ≤ 100000) : ∀ (n k i : Nat), i + n = l.length → n < k → r02Same.l0 k i a l b l = some true := by
  intro n
  induction n with
  | zero =>
    intro k i hi hk
    obtain ⟨k, rfl⟩ : ∃ m, k = m + 1 := ⟨k - 1, by omega⟩
    rw [r02Same.l0, if_neg (by omega)]
  | succ n ih =>
    intro k i hi hk
    obtain ⟨k, rfl⟩ : ∃ m, k = m + 1 := ⟨k - 1, by omega⟩
    rw [r02Same.l0, if_pos (by omega), if_pos (by omega), if_pos (by omega), if_pos rfl, wsucc i (by omega), ih k (i + 1) (by omega) (by omega)]
theorem same_eq (a : Int) (l : List Int) {k : Nat} (hl : l.length ≤ 4000) (hk : 5000 ≤ k) : r02Same.f k a l a l = some true := by
  obtain ⟨k, rfl⟩ : ∃ m, k = m + 1 := ⟨k - 1, by omega⟩
  unfold r02Same.f
  rw [if_pos rfl, show ((l.length : Int) != (l.length : Int)) = false by simp, r02Same.j0, if_neg (by decide)]
  exact same_loop a a l (by omega) l.length k 0 (by omega) (by omega)
end Go.Proofs.YtnjbdcnefienhaaDoor.P

namespace Go.Proofs.YtnjbdcnefienhaaDoor.P
open Go.RowKit Go.Proofs.YtnjbdcnefienhaaDoorW.PrintWords Go.Proofs.YtnjbdcnefienhaaDoorW.PrintLast Go.Proofs.YtnjbdcnefienhaaDoorW.PrintMore
theorem joinE_nil (x : Int) : joinE [] x = [⟨x, 1⟩] := rfl
theorem joinE_snoc (L : List S49) (e : S49) (x : Int) : joinE (L ++ [e]) x = if wrap64 (e.f0 + e.f1) = x then L ++ [⟨e.f0, wrap64 (e.f1 + 1)⟩] else (L ++ [e]) ++ [⟨x, 1⟩] := by
  unfold joinE
  rw [List.getLast?_concat, List.dropLast_concat]
theorem joinE_len (l : List S49) (x : Int) : (joinE l x).length ≤ l.length + 1 := by
  rcases l.eq_nil_or_concat with h | ⟨L, e, h⟩
  · subst h; simp [joinE_nil]
  · rw [List.concat_eq_append] at h
    subst h
    rw [joinE_snoc]
    split <;> simp
theorem fold_len (xs : List Int) : ∀ l, (xs.foldl joinE l).length ≤ l.length + xs.length := by
  induction xs with
  | nil => intro l; simp
  | cons x xs ih => intro l; rw [List.foldl_cons]; have := ih (joinE l x); have := joinE_len l x; simp only [List.length_cons]; omega
theorem newS_yes {a : Int} (h : 0 ≤ a ∧ a ≤ 4096) : newS a = (a, List.replicate ((a + 63) / 64).toNat 0, 0) := by unfold newS; rw [if_neg (by omega), if_neg (by omega)]
end Go.Proofs.YtnjbdcnefienhaaDoor.P

namespace Go.Proofs.YtnjbdcnefienhaaDoor.P
open Go.RowKit Go.Proofs.YtnjbdcnefienhaaDoorW.PrintWords Go.Proofs.YtnjbdcnefienhaaDoorW.PrintLast Go.Proofs.YtnjbdcnefienhaaDoorW.PrintMore
theorem awake_eq : l17awake.f = some true := rfl
def szOK (sz gr : Int) : Bool := decide (1 ≤ sz ∧ sz ≤ 4096 ∧ 1 ≤ gr ∧ gr ≤ 4096)
theorem isizes_eq (sz gr : Int) : isizes.f sz gr = some (szOK sz gr) := by
  unfold isizes.f szOK
  by_cases h1 : sz ≥ 1
  · rw [if_pos h1]
    by_cases h2 : sz ≤ 4096
    · rw [if_pos h2]
      by_cases h3 : gr ≥ 1
      · rw [if_pos h3]; congr 1; rw [decide_eq_decide]; omega
      · rw [if_neg h3, decide_eq_false (by omega)]
    · rw [if_neg h2, decide_eq_false (by omega)]
  · rw [if_neg h1, decide_eq_false (by omega)]
theorem rsizes_eq (sz gr : Int) : r17sizes.f sz gr = some (szOK sz gr) := (show r17sizes.f sz gr = isizes.f sz gr from rfl).trans (isizes_eq sz gr)
theorem szOK_iff {sz gr : Int} : szOK sz gr = true ↔ 1 ≤ sz ∧ sz ≤ 4096 ∧ 1 ≤ gr ∧ gr ≤ 4096 := by unfold szOK; rw [decide_eq_true_iff]
def gran (sz gr : Int) : Int := (sz + gr - 1) / gr
theorem gran_eq' {sz gr : Int} (h : 1 ≤ gr) : gran sz gr = (sz - 1) / gr + 1 := by
  unfold gran
  rw [show sz + gr - 1 = (sz - 1) + gr from by omega, Int.add_ediv_of_dvd_right (Int.dvd_refl gr), Int.ediv_self (by omega)]
theorem gran_bd {sz gr : Int} (h : szOK sz gr = true) : 1 ≤ gran sz gr ∧ gran sz gr ≤ sz ∧ gran sz gr ≤ 4096 := by
  obtain ⟨h1, h2, h3, h4⟩ := szOK_iff.1 h
  rw [gran_eq' h3]
  have a : 0 ≤ (sz - 1) / gr := Int.ediv_nonneg (by omega) (by omega)
  have b : (sz - 1) / gr ≤ sz - 1 := Int.ediv_le_self _ (by omega)
  omega
theorem gran_eq {sz gr : Int} (h : szOK sz gr = true) : igranules.f sz gr = some (gran sz gr) := by
  obtain ⟨h1, h2, h3, h4⟩ := szOK_iff.1 h
  obtain ⟨g1, g2, g3⟩ := gran_bd h
  unfold gran at g1 g2 g3 ⊢
  unfold igranules.f
  rw [if_neg (by omega), w64 (sz + gr) (by omega) (by omega), w64 (sz + gr - 1) (by omega) (by omega), Int.tdiv_eq_ediv_of_nonneg (by omega), w64 _ (by omega) (by omega)]
theorem rgran_eq {sz gr : Int} (h : szOK sz gr = true) : r17Granules.f sz gr = some (gran sz gr) := (show r17Granules.f sz gr = igranules.f sz gr from rfl).trans (gran_eq h)
def newI (sz gr : Int) : Int × Int × List Int × Int × List Int × Int :=
  if szOK sz gr then (sz, gr, List.replicate (gran sz gr).toNat 0, gran sz gr, List.replicate ((gran sz gr + 63) / 64).toNat 0, 0) else (0, 0, [], 0, [], 2)
theorem inew_eq (sz gr : Int) : iNew.f sz gr = some (newI sz gr) := by
  unfold iNew.f newI
  rw [isizes_eq, Option.bind_some]
  by_cases h : szOK sz gr = true
  · obtain ⟨g1, g2, g3⟩ := gran_bd h
    rw [if_pos h, if_pos h, gran_eq h, Option.bind_some, bnew_eq, newS_yes ⟨by omega, by omega⟩, Option.bind_some, if_pos (by omega), if_pos (by omega)]
  · rw [if_neg h, if_neg h]
theorem rnewI_eq (sz gr : Int) : r17New.f sz gr = some (newI sz gr) := by
  unfold r17New.f newI
  rw [rsizes_eq, Option.bind_some]
  by_cases h : szOK sz gr = true
  · obtain ⟨g1, g2, g3⟩ := gran_bd h
    rw [if_pos h, if_pos h, rgran_eq h, Option.bind_some, rnew_eq, newS_yes ⟨by omega, by omega⟩, Option.bind_some, if_pos (by omega), if_pos (by omega)]
  · rw [if_neg h, if_neg h]
theorem newI_len (sz gr : Int) : (newI sz gr).2.2.1.length ≤ 4096 ∧ (newI sz gr).2.2.2.2.1.length ≤ 64 := by
  unfold newI
  by_cases h : szOK sz gr = true
  · obtain ⟨g1, g2, g3⟩ := gran_bd h
    rw [if_pos h]
    simp only [List.length_replicate]
    omega
  · rw [if_neg h]; simp
theorem isame_loop (a b c : Int) (ws l : List Int) (hl : l.length ≤ 100000) : ∀ (n k i : Nat), i + n = l.length → n < k → r17Same.l0 k i a b l c ws a b l c ws = some true := by
  intro n
  induction n with
  | zero =>
    intro k i hi hk
    obtain ⟨k, rfl⟩ : ∃ m, k = m + 1 := ⟨k - 1, by omega⟩
    rw [r17Same.l0, if_neg (by omega)]
  | succ n ih =>
    intro k i hi hk
    obtain ⟨k, rfl⟩ : ∃ m, k = m + 1 := ⟨k - 1, by omega⟩
    rw [r17Same.l0, if_pos (by omega), if_pos (by omega), if_pos (by omega), if_pos rfl, wsucc i (by omega), ih k (i + 1) (by omega) (by omega)]
theorem isame_eq (a b c : Int) (l ws : List Int) {k : Nat} (hl : l.length ≤ 5000) (hw : ws.length ≤ 4000) (hk : 6000 ≤ k) : r17Same.f k a b l c ws a b l c ws = some true := by
  unfold r17Same.f
  rw [if_pos rfl, if_pos rfl, if_pos rfl, same_eq c ws hw (by omega), Option.bind_some]
  obtain ⟨k, rfl⟩ : ∃ m, k = m + 1 := ⟨k - 1, by omega⟩
  rw [show (!true) = false from rfl, r17Same.j0, if_neg (by decide)]
  exact isame_loop a b c ws l (by omega) l.length k 0 (by omega) (by omega)
theorem makes_j (a b : Int) (x : Bool) {k : Nat} (hk : 7000 ≤ k) : l17IntentMakes.j0 k a b x = some true := by
  obtain ⟨k, rfl⟩ : ∃ m, k = m + 1 := ⟨k - 1, by omega⟩
  rw [l17IntentMakes.j0]
  cases x
  · obtain ⟨h1, h2⟩ := newI_len a b
    rw [if_neg (by decide), inew_eq, Option.bind_some, rnewI_eq, Option.bind_some, awake_eq, Option.bind_some, if_pos rfl, isame_eq _ _ _ _ _ (by omega) (by omega) (by omega), Option.bind_some, if_pos rfl]
    simp
  · rw [if_pos rfl, awake_eq]; rfl
theorem makes_true (a b : Int) {k : Nat} (hk : 7000 ≤ k) : l17IntentMakes.f k a b = some true := by
  unfold l17IntentMakes.f
  split
  · split
    · split
      · exact makes_j _ _ _ hk
      · exact makes_j _ _ _ hk
    · exact makes_j _ _ _ hk
  · exact makes_j _ _ _ hk
end Go.Proofs.YtnjbdcnefienhaaDoor.P

namespace Go.Proofs.YtnjbdcnefienhaaDoor.P
open Go.ChangeShapes Go.WideShapes Go.ChangeAt Go.RowKit
theorem gTab : Tryd.prog.globalNamed "math/bits.deBruijn64tab" = some 0 := by kernel_rfl
theorem gTabType : (Tryd.prog.globals[0]?).map (·.type) = some 136 := by kernel_rfl
theorem cells72 : Tryd.prog.cellsOf 136 = 64 := by kernel_rfl
theorem cells5 : Tryd.prog.cellsOf 5 = 1 := by kernel_rfl
theorem table {W : World} (h : laidMetH Tryd.prog [("math/bits.deBruijn64tab", Rows.laid_math_bits_deBruijn64tab)] W) : Lib.TabIs Tryd.prog W "math/bits.deBruijn64tab" .u8 (Lib.deBruijn64tab.map Int.ofNat) :=
  Lib.tabIs_of_head (rest := []) gTab gTabType Tryd.underlying136 Tryd.underlying5 cells5 cells72 h
theorem tabOK {W : World} (h : laidMetH Tryd.prog [("math/bits.deBruijn64tab", Rows.laid_math_bits_deBruijn64tab)] W) : TabOK W := by
  have hc : ∀ j, j < Lib.deBruijn64tab.length → W.cell? ⟨0, j, none⟩ = some (.int .u8 (Lib.deBruijn64tab.getD j 0)) := fun j hj => by
    have := (table h).cell gTab j (by rw [List.length_map]; exact hj)
    rw [this, List.getD_eq_getElem?_getD, List.getElem?_map, List.getElem?_eq_getElem hj, List.getD_eq_getElem?_getD, List.getElem?_eq_getElem hj]
    rfl
  exact ⟨World.block_lt_of_cell? W _ (hc 0 (by decide)), hc⟩
noncomputable def laidWorld (os : Os) : World :=
  { World.holding Tryd.prog os ⟨#[], #[], []⟩ with heap := (World.holding Tryd.prog os ⟨#[], #[], []⟩).heap.modify 0 fun
      | .cells _ t frozen => .cells (Lib.deBruijn64tab.map fun n => Value.int .u8 (Int.ofNat n)).toArray t frozen
      | o => o }
end Go.Proofs.YtnjbdcnefienhaaDoor.P
