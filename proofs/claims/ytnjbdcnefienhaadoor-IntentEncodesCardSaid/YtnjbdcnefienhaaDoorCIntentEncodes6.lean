/-
  Parts of the proof of the law IntentEncodes (part 6): what the functions it reaches come to, and the plain law. Conditions: those that each theorem names.
-/
import Derived.Test.YtnjbdcnefienhaaDoorCIntentEncodes5
namespace Go.Proofs.YtnjbdcnefienhaaDoor.P
open Go.RowKit Go.Proofs.YtnjbdcnefienhaaDoorW.PrintWords Go.Proofs.YtnjbdcnefienhaaDoorW.PrintLast Go.Proofs.YtnjbdcnefienhaaDoorW.PrintMore
attribute [local go_sem] max2_int min2_int max_two min_two max_three min_three max_four min_four   -- for this text's walks alone
set_option linter.unusedVariables false
set_option linter.unusedSimpArgs false
def r02bit.f (a0_0 : Int) (l0_1 : List Int) (a1 : Int) : Option (Bool) := if 0 ≤ (wrap64 (Int.tdiv a1 64)) then (if (wrap64 (Int.tdiv a1 64)) < (l0_1.length : Int) then (if 0 ≤ (IntKind.u64.wrap (Int.tmod a1 64)) then (some ((Go.bits .and .u64 (shr .u64 (rd l0_1 (wrap64 (Int.tdiv a1 64))) (IntKind.u64.wrap (Int.tmod a1 64))) 1) == 1)) else (none)) else (none)) else (none)
set_option maxHeartbeats 8000000 in
set_option maxRecDepth 100000 in
theorem r02bit.calls (a0_0 : Int) (A0_1 : Option Addr) (c0_1 : Nat) (l0_1 : List Int) (a1 : Int) (r : Bool) (w : World) (hr0_1 : Kd.C (Kd.int .u64) w A0_1 l0_1.length l0_1) (hc0_1 : l0_1.length ≤ c0_1) (h : r02bit.f a0_0 l0_1 a1 = some r) :
  Calls Tryd.prog 52 #[.agg #[.int .i64 a0_0, .slice A0_1 l0_1.length c0_1], .int .i64 a1] w fun e w' => e = .returned (.bool r) ∧ Below w.heap.size w w' := by
 have hu26 := Tryd.underlying26
 have HR0_1 := A0_ hr0_1
 have HC0_1 := A0_ hc0_1
 clear hr0_1 hc0_1
 have HB := A0_ (Below.refl w.heap.size w)
 have H : (if 0 ≤ (wrap64 (Int.tdiv a1 64)) then (if (wrap64 (Int.tdiv a1 64)) < (l0_1.length : Int) then (if 0 ≤ (IntKind.u64.wrap (Int.tmod a1 64)) then (some ((Go.bits .and .u64 (shr .u64 (rd l0_1 (wrap64 (Int.tdiv a1 64))) (IntKind.u64.wrap (Int.tmod a1 64))) 1) == 1)) else (none)) else (none)) else (none)) = some r := h
 clear h
 obtain ⟨ji3, hji3⟩ : ∃ j_ : Int, (wrap64 (Int.tdiv a1 64)) = j_ := ⟨_, rfl⟩
 replace H : (if 0 ≤ (ji3) then (if (ji3) < (l0_1.length : Int) then (if 0 ≤ (IntKind.u64.wrap (Int.tmod a1 64)) then (some ((Go.bits .and .u64 (shr .u64 (rd l0_1 (ji3)) (IntKind.u64.wrap (Int.tmod a1 64))) 1) == 1)) else (none)) else (none)) else (none)) = some r := by first | (rw [hji3] at H; exact H) | (simp only [hji3] at H ⊢; exact H)
 have hji3w : (IntKind.i64.wrap (Int.tdiv a1 64)) = ji3 := (i64_w _).trans hji3
 by_cases c4 : 0 ≤ (ji3)
 ·
  rw [if_pos c4] at H
  have c4b0 : decide (0 ≤ (ji3)) = true := decide_eq_true c4
  clear c4
  by_cases c5 : (ji3) < (l0_1.length : Int)
  ·
   rw [if_pos c5] at H
   have c5b0 : decide ((ji3) < (l0_1.length : Int)) = true := decide_eq_true c5
   clear c5
   obtain ⟨ji6, hji6⟩ : ∃ j_ : Int, (IntKind.u64.wrap (Int.tmod a1 64)) = j_ := ⟨_, rfl⟩
   replace H : (if 0 ≤ (ji6) then (some ((Go.bits .and .u64 (shr .u64 (rd l0_1 (ji3)) (ji6)) 1) == 1)) else (none)) = some r := by first | (rw [hji6] at H; exact H) | (simp only [hji6] at H ⊢; exact H)
   by_cases c7 : 0 ≤ (ji6)
   ·
    rw [if_pos c7] at H
    have c7b0 := eq_true c7
    have c7b1 : decide (0 ≤ (ji6)) = true := decide_eq_true c7
    clear c7
    obtain ⟨ji8, hji8⟩ : ∃ j_ : Int, (shr .u64 (rd l0_1 (ji3)) (ji6)) = j_ := ⟨_, rfl⟩
    replace H : (some ((Go.bits .and .u64 (ji8) 1) == 1)) = some r := by first | (rw [hji8] at H; exact H) | (simp only [hji8] at H ⊢; exact H)
    have hji8_ : ((rd l0_1 (ji3)) / 2 ^ min (ji6).toNat 64) = ji8 := hji8
    have hji8z : (ji6) ≤ 64 → ((rd l0_1 (ji3)) / 2 ^ (ji6).toNat) = ji8 := shr_small hji8
    obtain rfl := Option.some.inj H
    go_enter Tryd.func52, Tryd.ntmps52
    go_wp2_with (first | ((with_reducible refine gate_dst (N := 2) rfl ?_); refine box_event ?hg (N := 2) ?hd (cs := #[.int .i64 a0_0, .slice A0_1 l0_1.length c0_1]) (t := 26) ?hr ?_; (case hd => rfl); (case hg => rfl); (case hr => first | (go_simp; done) | (go_simp; rfl)); intro gb186 hg w9 hbox hb; have n0_ := A0_ (below_step (by repeat (first | (with_reducible first | exact HB.out | apply Al_ | apply Dn_ | apply D1_) | exact HB.out)) hb); have n1_ := A0_ (hbox); have n2_ := A0_ ((by rw [hg]; exact (below_size (by repeat (first | (with_reducible first | exact HB.out | apply Al_ | apply Dn_ | apply D1_) | exact HB.out))) : w.heap.size ≤ gb186)); have n3_ := A0_ ((by rw [hg]; exact (below_size (by repeat (first | (with_reducible first | exact HB.out | apply Al_ | apply Dn_ | apply D1_) | exact HB.out))) : w.heap.size ≤ gb186)); clear HB; have HB := n0_; have BK186 := n1_; have GW186 := n2_; have GE186 := n3_; clear n0_ n1_ n2_ n3_ hb hbox hg; have hcz10_0 : w9.cell? ⟨gb186, 0, none⟩ = some (.int .i64 a0_0) := (Bc_ BK186.out 0).trans rfl; have hcz10_1 : w9.cell? ⟨gb186, 1, none⟩ = some (.slice A0_1 l0_1.length c0_1) := (Bc_ BK186.out 1).trans rfl; have hfz10_0 := Bf_ BK186.out 0; have hfz10_1 := Bf_ BK186.out 1; have p187 : 0 ≤ ((ji3) : Int) := of_decide_eq_true (by first | (with_reducible assumption) | assumption); have q187 : (ji3) < (l0_1.length : Int) := of_decide_eq_true (by first | (with_reducible assumption) | assumption); obtain ⟨ad187, e187, hx187_0⟩ := Kd.at_int HR0_1.out (ji3) p187 q187; cases e187; replace hx187_0 := (HB.out.cell (World.block_lt_of_cell? w _ hx187_0)).trans hx187_0; replace p187 := eq_true p187; replace q187 := eq_true q187))
    go_ret
    exact ⟨by first | rfl | (simp [errW_none, errW_some] <;> rfl) | (simp only [← hji3, ← hji6, ← hji8]; first | rfl | (simp [errW_none, errW_some] <;> rfl)) | (simp [*, errW_none, errW_some] <;> rfl), by repeat (first | (with_reducible first | exact HB.out | apply Al_ | apply Dn_ | apply D1_ | refine Bs_ ?_ GE186.out) | exact HB.out)⟩
   ·
    rw [if_neg c7] at H
    exact absurd H (by simp)
  ·
   rw [if_neg c5] at H
   exact absurd H (by simp)
 ·
  rw [if_neg c4] at H
  exact absurd H (by simp)
mutual
def r02Check.j0 : Nat → Bool → Int → List Int → Option (Int)
 | 0, _, _, _ => none
 | k + 1, x21, x189000, x189001 => if x21 = true then (some 3) else (r02Check.l0 k x189000 x189000 x189001)
def r02Check.l0 : Nat → Int → Int → List Int → Option (Int)
 | 0, _, _, _ => none
 | k + 1, x3, x189000, x189001 => if x3 < (wrap64 (64 * (x189001.length : Int))) then ((r02bit.f x189000 x189001 x3).bind fun t189 => (if t189 = true then (some 3) else (r02Check.l0 k (wrap64 (x3 + 1)) x189000 x189001))) else (some 0)
end
def r02Check.f (k : Nat) (a0_0 : Int) (l0_1 : List Int) : Option (Int) := if a0_0 < 0 then (r02Check.j0 k true a0_0 l0_1) else (if a0_0 > 4096 then (r02Check.j0 k true a0_0 l0_1) else (r02Check.j0 k ((l0_1.length : Int) != (wrap64 (Int.tdiv (wrap64 (a0_0 + 63)) 64))) a0_0 l0_1))
set_option maxHeartbeats 8000000 in
set_option maxRecDepth 100000 in
theorem r02Check.calls (k : Nat) (a0_0 : Int) (A0_1 : Option Addr) (c0_1 : Nat) (l0_1 : List Int) (r : Int) (w : World) (hr0_1 : Kd.C (Kd.int .u64) w A0_1 l0_1.length l0_1) (hc0_1 : l0_1.length ≤ c0_1) (h : r02Check.f k a0_0 l0_1 = some r) :
  Calls Tryd.prog 51 #[.agg #[.int .i64 a0_0, .slice A0_1 l0_1.length c0_1]] w fun e w' => e = .returned (.int .i64 r) ∧ Below w.heap.size w w' := by
 have hu26 := Tryd.underlying26
 have HR0_1 := A0_ hr0_1
 have HC0_1 := A0_ hc0_1
 clear hr0_1 hc0_1
 have HB := A0_ (Below.refl w.heap.size w)
 have H : (if a0_0 < 0 then (r02Check.j0 k true a0_0 l0_1) else (if a0_0 > 4096 then (r02Check.j0 k true a0_0 l0_1) else (r02Check.j0 k ((l0_1.length : Int) != (wrap64 (Int.tdiv (wrap64 (a0_0 + 63)) 64))) a0_0 l0_1))) = some r := h
 clear h
 have HC2 := A0_ H
 clear H
 go_enter Tryd.func51, Tryd.ntmps51
 go_upto_region 1 with (first | ((with_reducible refine gate_dst (N := 1) rfl ?_); (try (refine gate_guard (by rfl) ?_; dsimp only)); refine box_event ?hg (N := 1) ?hd (cs := #[.int .i64 a0_0, .slice A0_1 l0_1.length c0_1]) (t := 26) ?hr ?_; (case hd => rfl); (case hg => rfl); (case hr => first | (go_simp; done) | (go_simp; rfl)); intro gb188 hg w3 hbox hb; have n0_ := A0_ (below_step (by repeat (first | (with_reducible first | exact HB.out | apply Al_ | apply Dn_ | apply D1_) | exact HB.out)) hb); have n1_ := A0_ (hbox); have n2_ := A0_ ((by rw [hg]; exact (below_size (by repeat (first | (with_reducible first | exact HB.out | apply Al_ | apply Dn_ | apply D1_) | exact HB.out))) : w.heap.size ≤ gb188)); have n3_ := A0_ ((by rw [hg]; exact (below_size (by repeat (first | (with_reducible first | exact HB.out | apply Al_ | apply Dn_ | apply D1_) | exact HB.out))) : w.heap.size ≤ gb188)); clear HB; have HB := n0_; have BK188 := n1_; have GW188 := n2_; have GE188 := n3_; clear n0_ n1_ n2_ n3_ hb hbox hg))
 (try simp only [Act.put, Sa_, Sz_, Ss_])
 go_cut [21] (fun v21 wc => ∃ (kq : Nat) (x21_1 : Bool), v21 = .bool x21_1 ∧ Aside0 (r02Check.j0 kq x21_1 a0_0 l0_1 = some r) ∧ Aside0 (kq ≤ k) ∧ Aside0 (wc.heap[gb188]? = some (.cells #[.int .i64 a0_0, (.slice A0_1 l0_1.length c0_1)] 26 (0, 0))) ∧ Aside0 (Below w.heap.size w wc))
 case first =>
  have H := HC2.out
  clear HC2
  by_cases c4 : a0_0 < 0
  ·
   rw [if_pos c4] at H
   have c4b0 : decide (a0_0 < 0) = true := decide_eq_true c4
   clear c4
   (first | rw [c4b0] | (simp only [i64_w, i32_w]; rw [c4b0]) | skip)
   have H' := A0_ H
   clear H
   have hcz5_0 : w3.cell? ⟨gb188, 0, none⟩ = some (.int .i64 a0_0) := (Bc_ BK188.out 0).trans rfl
   have hcz5_1 : w3.cell? ⟨gb188, 1, none⟩ = some (.slice A0_1 l0_1.length c0_1) := (Bc_ BK188.out 1).trans rfl
   have hfz5_0 := Bf_ BK188.out 0
   have hfz5_1 := Bf_ BK188.out 1
   go_wp2
   go_meet
   case rel => exact ⟨_, (true), (by first | rfl | (simp; done) | (simp [*]; done)), H', ⟨by first | omega | exact Nat.le_refl _⟩, ⟨by (with_reducible repeat (first | refine Bn_ ?_ _ | refine Bd_ ?_ | refine Ba_ ?_ _)); exact BK188.out⟩, ⟨by repeat (first | (with_reducible first | exact HB.out | apply Al_ | apply Dn_ | apply D1_ | refine Bs_ ?_ GE188.out) | exact HB.out)⟩⟩
  ·
   rw [if_neg c4] at H
   have c4b0 : decide (a0_0 < 0) = false := decide_eq_false c4
   clear c4
   (first | rw [c4b0] | (simp only [i64_w, i32_w]; rw [c4b0]) | skip)
   by_cases c6 : a0_0 > 4096
   ·
    rw [if_pos c6] at H
    have c6b0 : decide (4096 < a0_0) = true := decide_eq_true c6
    clear c6
    have H' := A0_ H
    clear H
    have hcz7_0 : w3.cell? ⟨gb188, 0, none⟩ = some (.int .i64 a0_0) := (Bc_ BK188.out 0).trans rfl
    have hcz7_1 : w3.cell? ⟨gb188, 1, none⟩ = some (.slice A0_1 l0_1.length c0_1) := (Bc_ BK188.out 1).trans rfl
    have hfz7_0 := Bf_ BK188.out 0
    have hfz7_1 := Bf_ BK188.out 1
    go_wp2
    go_meet
    case rel => exact ⟨_, (true), (by first | rfl | (simp; done) | (simp [*]; done)), H', ⟨by first | omega | exact Nat.le_refl _⟩, ⟨by (with_reducible repeat (first | refine Bn_ ?_ _ | refine Bd_ ?_ | refine Ba_ ?_ _)); exact BK188.out⟩, ⟨by repeat (first | (with_reducible first | exact HB.out | apply Al_ | apply Dn_ | apply D1_ | refine Bs_ ?_ GE188.out) | exact HB.out)⟩⟩
   ·
    rw [if_neg c6] at H
    have c6b0 : decide (4096 < a0_0) = false := decide_eq_false c6
    clear c6
    have H' := A0_ H
    clear H
    have hcz8_0 : w3.cell? ⟨gb188, 0, none⟩ = some (.int .i64 a0_0) := (Bc_ BK188.out 0).trans rfl
    have hcz8_1 : w3.cell? ⟨gb188, 1, none⟩ = some (.slice A0_1 l0_1.length c0_1) := (Bc_ BK188.out 1).trans rfl
    have hfz8_0 := Bf_ BK188.out 0
    have hfz8_1 := Bf_ BK188.out 1
    go_wp2
    go_meet
    case rel => exact ⟨_, (((l0_1.length : Int) != (wrap64 (Int.tdiv (wrap64 (a0_0 + 63)) 64)))), (by first | rfl | (simp; done) | (simp [*]; done)), H', ⟨by first | omega | exact Nat.le_refl _⟩, ⟨by (with_reducible repeat (first | refine Bn_ ?_ _ | refine Bd_ ?_ | refine Ba_ ?_ _)); exact BK188.out⟩, ⟨by repeat (first | (with_reducible first | exact HB.out | apply Al_ | apply Dn_ | apply D1_ | refine Bs_ ?_ GE188.out) | exact HB.out)⟩⟩
 case rest =>
  clear HC2
  try clear p2
  try clear c4
  try clear c4b0
  try clear c5
  try clear c6
  try clear c6b0
  try clear p6
  try clear hcz5_0
  try clear hcz5_1
  try clear hcz7_0
  try clear hcz7_1
  try clear hcz8_0
  try clear hcz8_1
  try clear hfz5_0
  try clear hfz5_1
  try clear hfz7_0
  try clear hfz7_1
  try clear hfz8_0
  try clear hfz8_1
  obtain ⟨kq, x21_1, rfl, HA, HJ1, BK188, HB⟩ := hcut
  cases kq with
  | zero => exact absurd HA.out (by simp [r02Check.j0])
  | succ kj1 =>
   have H := HA.out
   clear HA
   simp only [r02Check.j0] at H
   by_cases c9 : x21_1 = true
   ·
    subst c9
    have H1 : (some 3) = some r := by rw [if_pos rfl] at H; exact H
    clear H
    have H := H1
    clear H1
    obtain rfl := Option.some.inj H
    go_wp2
    go_ret
    exact ⟨by first | rfl | (simp [errW_none, errW_some] <;> rfl) | (simp [*, errW_none, errW_some] <;> rfl), by repeat (first | (with_reducible first | exact HB.out | apply Al_ | apply Dn_ | apply D1_ | refine Bs_ ?_ GE188.out) | exact HB.out)⟩
   ·
    replace c9 := Bool.eq_false_iff.mpr c9
    subst c9
    have H1 : (r02Check.l0 kj1 a0_0 a0_0 l0_1) = some r := by rw [if_neg (show ¬ (false = true) by decide)] at H; exact H
    clear H
    have H := H1
    clear H1
    have H' := A0_ H
    clear H
    have hcz10_0 : wc.cell? ⟨gb188, 0, none⟩ = some (.int .i64 a0_0) := (Bc_ BK188.out 0).trans rfl
    have hcz10_1 : wc.cell? ⟨gb188, 1, none⟩ = some (.slice A0_1 l0_1.length c0_1) := (Bc_ BK188.out 1).trans rfl
    have hfz10_0 := Bf_ BK188.out 0
    have hfz10_1 := Bf_ BK188.out 1
    go_wp2
    go_loopg [3] kj1 (fun kq v3 w' => ∃ (x3_2 : Int), v3 = .int .i64 x3_2 ∧ Aside0 (r02Check.l0 kq x3_2 a0_0 l0_1 = some r) ∧ Aside0 (kq ≤ kj1) ∧ Aside0 (w'.heap[gb188]? = some (.cells #[.int .i64 a0_0, (.slice A0_1 l0_1.length c0_1)] 26 (0, 0))) ∧ Aside0 (Below w.heap.size w w'))
    case atStart => exact ⟨(a0_0), (by first | rfl | (simp; done) | (simp [*]; done)), H', ⟨Nat.le_refl _⟩, ⟨by (with_reducible repeat (first | refine Bn_ ?_ _ | refine Bd_ ?_ | refine Ba_ ?_ _)); exact BK188.out⟩, ⟨by repeat (first | (with_reducible first | exact HB.out | apply Al_ | apply Dn_ | apply D1_ | refine Bs_ ?_ GE188.out) | exact HB.out)⟩⟩
    case round =>
     clear H'
     try clear p2
     try clear c4
     try clear c4b0
     try clear c5
     try clear c6
     try clear c6b0
     try clear p6
     try clear c9
     try clear hcz10_0
     try clear hcz10_1
     try clear hcz5_0
     try clear hcz5_1
     try clear hcz7_0
     try clear hcz7_1
     try clear hcz8_0
     try clear hcz8_1
     try clear hfz10_0
     try clear hfz10_1
     try clear hfz5_0
     try clear hfz5_1
     try clear hfz7_0
     try clear hfz7_1
     try clear hfz8_0
     try clear hfz8_1
     try clear p2
     try clear p6
     try clear BK188
     obtain ⟨x3_2, rfl, HA, HK2, BK188, HB⟩ := hrel
     cases gk with
     | zero => exact absurd HA.out (by simp [r02Check.l0])
     | succ k2 =>
      have H := HA.out
      clear HA
      simp only [r02Check.l0] at H
      by_cases c11 : x3_2 < (wrap64 (64 * (l0_1.length : Int)))
      ·
       rw [if_pos c11] at H
       have c11b0 : decide (x3_2 < (wrap64 (64 * (l0_1.length : Int)))) = true := decide_eq_true c11
       clear c11
       replace H := Option.bind_eq_some_iff.mp H
       obtain ⟨t189, A120, H⟩ := H
       replace H : (if t189 = true then (some 3) else (r02Check.l0 k2 (wrap64 (x3_2 + 1)) a0_0 l0_1)) = some r := H
       have A12 := A0_ A120
       clear A120
       by_cases c13 : t189 = true
       ·
        subst c13
        have H1 : (some 3) = some r := by rw [if_pos rfl] at H; exact H
        clear H
        have H := H1
        clear H1
        obtain rfl := Option.some.inj H
        have hcz14_0 : wr.cell? ⟨gb188, 0, none⟩ = some (.int .i64 a0_0) := (Bc_ BK188.out 0).trans rfl
        have hcz14_1 : wr.cell? ⟨gb188, 1, none⟩ = some (.slice A0_1 l0_1.length c0_1) := (Bc_ BK188.out 1).trans rfl
        have hfz14_0 := Bf_ BK188.out 0
        have hfz14_1 := Bf_ BK188.out 1
        go_wp2_with (first | ((with_reducible refine gate_callee (f := 52) rfl ?_); refine goesL_ (some 34) rfl rfl Tryd.func52 (by kernel_rfl) rfl #[.agg #[.int .i64 a0_0, .slice A0_1 l0_1.length c0_1], .int .i64 x3_2] rfl (by (try simp only [List.map_toArray, List.map_cons, List.map_nil]); first | done | rfl | (simp only [List.length_drop, List.length_take]; rfl)) ?_; (with_reducible refine (r02bit.calls a0_0 _ _ l0_1 x3_2 true _ ?side1 ?side2 A12.out).mono ?_); (case side1 => repeat (first | exact (Kd.C_below HR0_1.out HB.out) | (with_reducible first | refine Kd.C_alloc ?_ _ | refine Kd.C_drewN ?_ _ | refine Kd.C_drew ?_))); (case side2 => exact HC0_1.out); rintro e w15 ⟨rfl, hb⟩; refine ⟨_, rfl, ?_⟩; have n0_ := A0_ (blk_below (g := gb188) (o := .cells #[.int .i64 a0_0, .slice A0_1 l0_1.length c0_1] 26 (0, 0)) (by (with_reducible repeat (first | refine Bn_ ?_ _ | refine Bd_ ?_ | refine Ba_ ?_ _)); exact BK188.out) hb); have n1_ := A0_ (below_step (by repeat (first | (with_reducible first | exact HB.out | apply Al_ | apply Dn_ | apply D1_ | refine Bs_ ?_ GE188.out) | exact HB.out)) hb); clear BK188 HB; have BK188 := n0_; have HB := n1_; clear n0_ n1_; (try clear hb); (try clear hb2); (try clear hk); (try clear hi)))
        go_ret
        exact ⟨by first | rfl | (simp [errW_none, errW_some] <;> rfl) | (simp [*, errW_none, errW_some] <;> rfl), by repeat (first | (with_reducible first | exact HB.out | apply Al_ | apply Dn_ | apply D1_ | refine Bs_ ?_ GE188.out) | exact HB.out)⟩
       ·
        replace c13 := Bool.eq_false_iff.mpr c13
        subst c13
        have H1 : (r02Check.l0 k2 (wrap64 (x3_2 + 1)) a0_0 l0_1) = some r := by rw [if_neg (show ¬ (false = true) by decide)] at H; exact H
        clear H
        have H := H1
        clear H1
        have H' := A0_ H
        clear H
        have hcz16_0 : wr.cell? ⟨gb188, 0, none⟩ = some (.int .i64 a0_0) := (Bc_ BK188.out 0).trans rfl
        have hcz16_1 : wr.cell? ⟨gb188, 1, none⟩ = some (.slice A0_1 l0_1.length c0_1) := (Bc_ BK188.out 1).trans rfl
        have hfz16_0 := Bf_ BK188.out 0
        have hfz16_1 := Bf_ BK188.out 1
        go_wp2_with (first | ((with_reducible refine gate_callee (f := 52) rfl ?_); refine goesL_ (some 34) rfl rfl Tryd.func52 (by kernel_rfl) rfl #[.agg #[.int .i64 a0_0, .slice A0_1 l0_1.length c0_1], .int .i64 x3_2] rfl (by (try simp only [List.map_toArray, List.map_cons, List.map_nil]); first | done | rfl | (simp only [List.length_drop, List.length_take]; rfl)) ?_; (with_reducible refine (r02bit.calls a0_0 _ _ l0_1 x3_2 false _ ?side1 ?side2 A12.out).mono ?_); (case side1 => repeat (first | exact (Kd.C_below HR0_1.out HB.out) | (with_reducible first | refine Kd.C_alloc ?_ _ | refine Kd.C_drewN ?_ _ | refine Kd.C_drew ?_))); (case side2 => exact HC0_1.out); rintro e w17 ⟨rfl, hb⟩; refine ⟨_, rfl, ?_⟩; have n0_ := A0_ (blk_below (g := gb188) (o := .cells #[.int .i64 a0_0, .slice A0_1 l0_1.length c0_1] 26 (0, 0)) (by (with_reducible repeat (first | refine Bn_ ?_ _ | refine Bd_ ?_ | refine Ba_ ?_ _)); exact BK188.out) hb); have n1_ := A0_ (below_step (by repeat (first | (with_reducible first | exact HB.out | apply Al_ | apply Dn_ | apply D1_ | refine Bs_ ?_ GE188.out) | exact HB.out)) hb); clear BK188 HB; have BK188 := n0_; have HB := n1_; clear n0_ n1_; (try clear hb); (try clear hb2); (try clear hk); (try clear hi)))
        go_roundg k2
        case measure => have := HJ1.out; have := HK2.out; omega
        case rel => exact ⟨(wrap64 (x3_2 + 1)), (by first | rfl | (simp; done) | (simp [*]; done)), H', ⟨by have := HJ1.out; have := HK2.out; omega⟩, ⟨by (with_reducible repeat (first | refine Bn_ ?_ _ | refine Bd_ ?_ | refine Ba_ ?_ _)); exact BK188.out⟩, ⟨by repeat (first | (with_reducible first | exact HB.out | apply Al_ | apply Dn_ | apply D1_ | refine Bs_ ?_ GE188.out) | exact HB.out)⟩⟩
      ·
       rw [if_neg c11] at H
       have c11b0 : decide (x3_2 < (wrap64 (64 * (l0_1.length : Int)))) = false := decide_eq_false c11
       clear c11
       obtain rfl := Option.some.inj H
       have hcz18_0 : wr.cell? ⟨gb188, 0, none⟩ = some (.int .i64 a0_0) := (Bc_ BK188.out 0).trans rfl
       have hcz18_1 : wr.cell? ⟨gb188, 1, none⟩ = some (.slice A0_1 l0_1.length c0_1) := (Bc_ BK188.out 1).trans rfl
       have hfz18_0 := Bf_ BK188.out 0
       have hfz18_1 := Bf_ BK188.out 1
       go_wp2
       go_ret
       exact ⟨by first | rfl | (simp [errW_none, errW_some] <;> rfl) | (simp [*, errW_none, errW_some] <;> rfl), by repeat (first | (with_reducible first | exact HB.out | apply Al_ | apply Dn_ | apply D1_ | refine Bs_ ?_ GE188.out) | exact HB.out)⟩
def r02Extents.l0 : Nat → List (S49) → Int → Int → List Int → Option ((List (S49)))
 | 0, _, _, _, _ => none
 | k + 1, x3, x4, x191000, x191001 => if x4 < x191000 then ((r02bit.f x191000 x191001 x4).bind fun t192 => (if t192 = true then (if (x3.length : Int) > 0 then (if 0 ≤ (wrap64 ((x3.length : Int) - 1)) then (if (wrap64 ((x3.length : Int) - 1)) < (x3.length : Int) then (if (wrap64 (((rd_T49 x3 (wrap64 ((x3.length : Int) - 1))).f0) + ((rd_T49 x3 (wrap64 ((x3.length : Int) - 1))).f1))) = x4 then (r02Extents.l0 k (x3.set ((wrap64 ((x3.length : Int) - 1)) : Int).toNat (⟨(rd_T49 x3 (wrap64 ((x3.length : Int) - 1))).f0, wrap64 (((rd_T49 x3 (wrap64 ((x3.length : Int) - 1))).f1) + 1)⟩ : S49)) (wrap64 (x4 + 1)) x191000 x191001) else (if x3.length < 8796093022208 then (r02Extents.l0 k (x3 ++ [(⟨x4, 1⟩ : S49)]) (wrap64 (x4 + 1)) x191000 x191001) else (none))) else (none)) else (none)) else (if x3.length < 8796093022208 then (r02Extents.l0 k (x3 ++ [(⟨x4, 1⟩ : S49)]) (wrap64 (x4 + 1)) x191000 x191001) else (none))) else (r02Extents.l0 k x3 (wrap64 (x4 + 1)) x191000 x191001))) else (some x3)
def r02Extents.f (k : Nat) (a0_0 : Int) (l0_1 : List Int) : Option ((List (S49))) := (r02Check.f k a0_0 l0_1).bind fun t191 => (if t191 = 0 then (r02Extents.l0 k ([] : List (S49)) 0 a0_0 l0_1) else (some ([] : List (S49))))
set_option maxHeartbeats 8000000 in
set_option maxRecDepth 100000 in
theorem r02Extents.calls (k : Nat) (a0_0 : Int) (A0_1 : Option Addr) (c0_1 : Nat) (l0_1 : List Int) (r : List (S49)) (w : World) (hr0_1 : Kd.C (Kd.int .u64) w A0_1 l0_1.length l0_1) (hc0_1 : l0_1.length ≤ c0_1) (h : r02Extents.f k a0_0 l0_1 = some r) :
  Calls Tryd.prog 26 #[.agg #[.int .i64 a0_0, .slice A0_1 l0_1.length c0_1]] w fun e w' => ∃ v0_ : Value, e = .returned (v0_) ∧ Kd.R k49 49 w' w.heap.size (fun _ => True) v0_ r ∧ Below w.heap.size w w' := by
 have hu26 := Tryd.underlying26
 have hu49 := Tryd.underlying49
 have HR0_1 := A0_ hr0_1
 have HC0_1 := A0_ hc0_1
 clear hr0_1 hc0_1
 have HB := A0_ (Below.refl w.heap.size w)
 have H : ((r02Check.f k a0_0 l0_1).bind fun t191 => (if t191 = 0 then (r02Extents.l0 k ([] : List (S49)) 0 a0_0 l0_1) else (some ([] : List (S49))))) = some r := h
 clear h
 replace H := Option.bind_eq_some_iff.mp H
 obtain ⟨t191, A20, H⟩ := H
 replace H : (if t191 = 0 then (r02Extents.l0 k ([] : List (S49)) 0 a0_0 l0_1) else (some ([] : List (S49)))) = some r := H
 have A2 := A0_ A20
 clear A20
 by_cases c3 : t191 = 0
 ·
  rw [if_pos c3] at H
  have c3b0 : (t191 == 0) = true := beq_iff_eq.mpr c3
  have c3b1 : (t191 != 0) = false := bne_eq_false_iff_eq.mpr c3
  clear c3
  have H' := A0_ H
  clear H
  go_enter Tryd.func26, Tryd.ntmps26
  go_wp2_with (first | ((with_reducible refine gate_dst (N := 1) rfl ?_); refine box_event ?hg (N := 1) ?hd (cs := #[.int .i64 a0_0, .slice A0_1 l0_1.length c0_1]) (t := 26) ?hr ?_; (case hd => rfl); (case hg => rfl); (case hr => first | (go_simp; done) | (go_simp; rfl)); intro gb190 hg w4 hbox hb; have n0_ := A0_ (below_step (by repeat (first | (with_reducible first | exact HB.out | apply Al_ | apply Dn_ | apply D1_) | exact HB.out)) hb); have n1_ := A0_ (hbox); have n2_ := A0_ ((by rw [hg]; exact (below_size (by repeat (first | (with_reducible first | exact HB.out | apply Al_ | apply Dn_ | apply D1_) | exact HB.out))) : w.heap.size ≤ gb190)); have n3_ := A0_ ((by rw [hg]; exact (below_size (by repeat (first | (with_reducible first | exact HB.out | apply Al_ | apply Dn_ | apply D1_) | exact HB.out))) : w.heap.size ≤ gb190)); clear HB; have HB := n0_; have BK190 := n1_; have GW190 := n2_; have GE190 := n3_; clear n0_ n1_ n2_ n3_ hb hbox hg; have hcz5_0 : w4.cell? ⟨gb190, 0, none⟩ = some (.int .i64 a0_0) := (Bc_ BK190.out 0).trans rfl; have hcz5_1 : w4.cell? ⟨gb190, 1, none⟩ = some (.slice A0_1 l0_1.length c0_1) := (Bc_ BK190.out 1).trans rfl; have hfz5_0 := Bf_ BK190.out 0; have hfz5_1 := Bf_ BK190.out 1) | (go_at_call 51; (with_reducible refine (r02Check.calls k a0_0 _ _ l0_1 t191 _ ?side1 ?side2 A2.out).mono ?_); (case side1 => repeat (first | exact (Kd.C_below HR0_1.out HB.out) | (with_reducible first | refine Kd.C_alloc ?_ _ | refine Kd.C_drewN ?_ _ | refine Kd.C_drew ?_))); (case side2 => exact HC0_1.out); rintro e w6 ⟨rfl, hb⟩; have n0_ := A0_ (blk_below (g := gb190) (o := .cells #[.int .i64 a0_0, .slice A0_1 l0_1.length c0_1] 26 (0, 0)) (by (with_reducible repeat (first | refine Bn_ ?_ _ | refine Bd_ ?_ | refine Ba_ ?_ _)); exact BK190.out) hb); have n1_ := A0_ (below_step (by repeat (first | (with_reducible first | exact HB.out | apply Al_ | apply Dn_ | apply D1_ | refine Bs_ ?_ GE190.out) | exact HB.out)) hb); clear BK190 HB; have BK190 := n0_; have HB := n1_; clear n0_ n1_; (try clear hb); (try clear hb2); (try clear hk); (try clear hi)))
  repeat (go_quiet (first | ((with_reducible refine gate_dst (N := 1) rfl ?_); refine box_event ?hg (N := 1) ?hd (cs := #[.int .i64 a0_0, .slice A0_1 l0_1.length c0_1]) (t := 26) ?hr ?_; (case hd => rfl); (case hg => rfl); (case hr => first | (go_simp; done) | (go_simp; rfl)); intro gb190 hg w4 hbox hb; have n0_ := A0_ (below_step (by repeat (first | (with_reducible first | exact HB.out | apply Al_ | apply Dn_ | apply D1_) | exact HB.out)) hb); have n1_ := A0_ (hbox); have n2_ := A0_ ((by rw [hg]; exact (below_size (by repeat (first | (with_reducible first | exact HB.out | apply Al_ | apply Dn_ | apply D1_) | exact HB.out))) : w.heap.size ≤ gb190)); have n3_ := A0_ ((by rw [hg]; exact (below_size (by repeat (first | (with_reducible first | exact HB.out | apply Al_ | apply Dn_ | apply D1_) | exact HB.out))) : w.heap.size ≤ gb190)); clear HB; have HB := n0_; have BK190 := n1_; have GW190 := n2_; have GE190 := n3_; clear n0_ n1_ n2_ n3_ hb hbox hg; have hcz5_0 : w4.cell? ⟨gb190, 0, none⟩ = some (.int .i64 a0_0) := (Bc_ BK190.out 0).trans rfl; have hcz5_1 : w4.cell? ⟨gb190, 1, none⟩ = some (.slice A0_1 l0_1.length c0_1) := (Bc_ BK190.out 1).trans rfl; have hfz5_0 := Bf_ BK190.out 0; have hfz5_1 := Bf_ BK190.out 1) | (go_at_call 51; (with_reducible refine (r02Check.calls k a0_0 _ _ l0_1 t191 _ ?side1 ?side2 A2.out).mono ?_); (case side1 => repeat (first | exact (Kd.C_below HR0_1.out HB.out) | (with_reducible first | refine Kd.C_alloc ?_ _ | refine Kd.C_drewN ?_ _ | refine Kd.C_drew ?_))); (case side2 => exact HC0_1.out); rintro e w6 ⟨rfl, hb⟩; have n0_ := A0_ (blk_below (g := gb190) (o := .cells #[.int .i64 a0_0, .slice A0_1 l0_1.length c0_1] 26 (0, 0)) (by (with_reducible repeat (first | refine Bn_ ?_ _ | refine Bd_ ?_ | refine Ba_ ?_ _)); exact BK190.out) hb); have n1_ := A0_ (below_step (by repeat (first | (with_reducible first | exact HB.out | apply Al_ | apply Dn_ | apply D1_ | refine Bs_ ?_ GE190.out) | exact HB.out)) hb); clear BK190 HB; have BK190 := n0_; have HB := n1_; clear n0_ n1_; (try clear hb); (try clear hb2); (try clear hk); (try clear hi))); try go_wp2_with (first | ((with_reducible refine gate_dst (N := 1) rfl ?_); refine box_event ?hg (N := 1) ?hd (cs := #[.int .i64 a0_0, .slice A0_1 l0_1.length c0_1]) (t := 26) ?hr ?_; (case hd => rfl); (case hg => rfl); (case hr => first | (go_simp; done) | (go_simp; rfl)); intro gb190 hg w4 hbox hb; have n0_ := A0_ (below_step (by repeat (first | (with_reducible first | exact HB.out | apply Al_ | apply Dn_ | apply D1_) | exact HB.out)) hb); have n1_ := A0_ (hbox); have n2_ := A0_ ((by rw [hg]; exact (below_size (by repeat (first | (with_reducible first | exact HB.out | apply Al_ | apply Dn_ | apply D1_) | exact HB.out))) : w.heap.size ≤ gb190)); have n3_ := A0_ ((by rw [hg]; exact (below_size (by repeat (first | (with_reducible first | exact HB.out | apply Al_ | apply Dn_ | apply D1_) | exact HB.out))) : w.heap.size ≤ gb190)); clear HB; have HB := n0_; have BK190 := n1_; have GW190 := n2_; have GE190 := n3_; clear n0_ n1_ n2_ n3_ hb hbox hg; have hcz5_0 : w4.cell? ⟨gb190, 0, none⟩ = some (.int .i64 a0_0) := (Bc_ BK190.out 0).trans rfl; have hcz5_1 : w4.cell? ⟨gb190, 1, none⟩ = some (.slice A0_1 l0_1.length c0_1) := (Bc_ BK190.out 1).trans rfl; have hfz5_0 := Bf_ BK190.out 0; have hfz5_1 := Bf_ BK190.out 1) | (go_at_call 51; (with_reducible refine (r02Check.calls k a0_0 _ _ l0_1 t191 _ ?side1 ?side2 A2.out).mono ?_); (case side1 => repeat (first | exact (Kd.C_below HR0_1.out HB.out) | (with_reducible first | refine Kd.C_alloc ?_ _ | refine Kd.C_drewN ?_ _ | refine Kd.C_drew ?_))); (case side2 => exact HC0_1.out); rintro e w6 ⟨rfl, hb⟩; have n0_ := A0_ (blk_below (g := gb190) (o := .cells #[.int .i64 a0_0, .slice A0_1 l0_1.length c0_1] 26 (0, 0)) (by (with_reducible repeat (first | refine Bn_ ?_ _ | refine Bd_ ?_ | refine Ba_ ?_ _)); exact BK190.out) hb); have n1_ := A0_ (below_step (by repeat (first | (with_reducible first | exact HB.out | apply Al_ | apply Dn_ | apply D1_ | refine Bs_ ?_ GE190.out) | exact HB.out)) hb); clear BK190 HB; have BK190 := n0_; have HB := n1_; clear n0_ n1_; (try clear hb); (try clear hb2); (try clear hk); (try clear hi))))
  go_loopg [3, 4] k (fun kq v3 v4 w' => ∃ (x3_1 : List (S49)) (x4_1 : Int), v4 = .int .i64 x4_1 ∧ Aside0 (r02Extents.l0 kq x3_1 x4_1 a0_0 l0_1 = some r) ∧ Aside0 (kq ≤ k) ∧ Aside0 (Kd.R k49 49 w' w.heap.size (fun _ => True) v3 x3_1) ∧ Aside0 (w'.heap[gb190]? = some (.cells #[.int .i64 a0_0, (.slice A0_1 l0_1.length c0_1)] 26 (0, 0))) ∧ Aside0 (Below w.heap.size w w'))
  case atStart => exact ⟨(([] : List (S49))), (0), (by first | rfl | (simp; done) | (simp [*]; done)), H', ⟨Nat.le_refl _⟩, ⟨by first | exact Kd.R_nil _ _ _ _ _ | exact Kd.N_nil _ _ _ _ _ | exact Kd.V_nil _ _ _ _ _ | exact Kd.Q_nil _ _ _ _ _ | exact Kd.S_nil _ _ _ _ _⟩, ⟨by (with_reducible repeat (first | refine Bn_ ?_ _ | refine Bd_ ?_ | refine Ba_ ?_ _)); exact BK190.out⟩, ⟨by repeat (first | (with_reducible first | exact HB.out | apply Al_ | apply Dn_ | apply D1_ | refine Bs_ ?_ GE190.out) | exact HB.out)⟩⟩
  case round =>
   clear H'
   try clear c2
   try clear p2
   try clear c3
   try clear c3b0
   try clear c3b1
   try clear hcz5_0
   try clear hcz5_1
   try clear hfz5_0
   try clear hfz5_1
   try clear HO_3
   try clear BK190
   obtain ⟨x3_1, x4_1, rfl, HA, HK1, HO_3, BK190, HB⟩ := hrel
   cases gk with
   | zero => exact absurd HA.out (by simp [r02Extents.l0])
   | succ k1 =>
    have H := HA.out
    clear HA
    simp only [r02Extents.l0] at H
    by_cases c7 : x4_1 < a0_0
    ·
     rw [if_pos c7] at H
     have c7b0 : decide (x4_1 < a0_0) = true := decide_eq_true c7
     clear c7
     replace H := Option.bind_eq_some_iff.mp H
     obtain ⟨t192, A80, H⟩ := H
     replace H : (if t192 = true then (if (x3_1.length : Int) > 0 then (if 0 ≤ (wrap64 ((x3_1.length : Int) - 1)) then (if (wrap64 ((x3_1.length : Int) - 1)) < (x3_1.length : Int) then (if (wrap64 (((rd_T49 x3_1 (wrap64 ((x3_1.length : Int) - 1))).f0) + ((rd_T49 x3_1 (wrap64 ((x3_1.length : Int) - 1))).f1))) = x4_1 then (r02Extents.l0 k1 (x3_1.set ((wrap64 ((x3_1.length : Int) - 1)) : Int).toNat (⟨(rd_T49 x3_1 (wrap64 ((x3_1.length : Int) - 1))).f0, wrap64 (((rd_T49 x3_1 (wrap64 ((x3_1.length : Int) - 1))).f1) + 1)⟩ : S49)) (wrap64 (x4_1 + 1)) a0_0 l0_1) else (if x3_1.length < 8796093022208 then (r02Extents.l0 k1 (x3_1 ++ [(⟨x4_1, 1⟩ : S49)]) (wrap64 (x4_1 + 1)) a0_0 l0_1) else (none))) else (none)) else (none)) else (if x3_1.length < 8796093022208 then (r02Extents.l0 k1 (x3_1 ++ [(⟨x4_1, 1⟩ : S49)]) (wrap64 (x4_1 + 1)) a0_0 l0_1) else (none))) else (r02Extents.l0 k1 x3_1 (wrap64 (x4_1 + 1)) a0_0 l0_1)) = some r := H
     have A8 := A0_ A80
     clear A80
     by_cases c9 : t192 = true
     ·
      subst c9
      have H1 : (if (x3_1.length : Int) > 0 then (if 0 ≤ (wrap64 ((x3_1.length : Int) - 1)) then (if (wrap64 ((x3_1.length : Int) - 1)) < (x3_1.length : Int) then (if (wrap64 (((rd_T49 x3_1 (wrap64 ((x3_1.length : Int) - 1))).f0) + ((rd_T49 x3_1 (wrap64 ((x3_1.length : Int) - 1))).f1))) = x4_1 then (r02Extents.l0 k1 (x3_1.set ((wrap64 ((x3_1.length : Int) - 1)) : Int).toNat (⟨(rd_T49 x3_1 (wrap64 ((x3_1.length : Int) - 1))).f0, wrap64 (((rd_T49 x3_1 (wrap64 ((x3_1.length : Int) - 1))).f1) + 1)⟩ : S49)) (wrap64 (x4_1 + 1)) a0_0 l0_1) else (if x3_1.length < 8796093022208 then (r02Extents.l0 k1 (x3_1 ++ [(⟨x4_1, 1⟩ : S49)]) (wrap64 (x4_1 + 1)) a0_0 l0_1) else (none))) else (none)) else (none)) else (if x3_1.length < 8796093022208 then (r02Extents.l0 k1 (x3_1 ++ [(⟨x4_1, 1⟩ : S49)]) (wrap64 (x4_1 + 1)) a0_0 l0_1) else (none))) = some r := by rw [if_pos rfl] at H; exact H
      clear H
      have H := H1
      clear H1
      by_cases c10 : (x3_1.length : Int) > 0
      ·
       rw [if_pos c10] at H
       have c10b0 : decide (0 < (x3_1.length : Int)) = true := decide_eq_true c10
       have c10b1 : decide (0 < x3_1.length) = true := decide_eq_true (by omega)
       clear c10
       obtain ⟨ji11, hji11⟩ : ∃ j_ : Int, (wrap64 ((x3_1.length : Int) - 1)) = j_ := ⟨_, rfl⟩
       replace H : (if 0 ≤ (ji11) then (if (ji11) < (x3_1.length : Int) then (if (wrap64 (((rd_T49 x3_1 (ji11)).f0) + ((rd_T49 x3_1 (ji11)).f1))) = x4_1 then (r02Extents.l0 k1 (x3_1.set ((ji11) : Int).toNat (⟨(rd_T49 x3_1 (ji11)).f0, wrap64 (((rd_T49 x3_1 (ji11)).f1) + 1)⟩ : S49)) (wrap64 (x4_1 + 1)) a0_0 l0_1) else (if x3_1.length < 8796093022208 then (r02Extents.l0 k1 (x3_1 ++ [(⟨x4_1, 1⟩ : S49)]) (wrap64 (x4_1 + 1)) a0_0 l0_1) else (none))) else (none)) else (none)) = some r := by first | (rw [hji11] at H; exact H) | (simp only [hji11] at H ⊢; exact H)
       (try rw [hji11] at A8)
       have hji11w : (IntKind.i64.wrap ((x3_1.length : Int) - 1)) = ji11 := (i64_w _).trans hji11
       by_cases c12 : 0 ≤ (ji11)
       ·
        rw [if_pos c12] at H
        have c12b0 : decide (0 ≤ (ji11)) = true := decide_eq_true c12
        clear c12
        by_cases c13 : (ji11) < (x3_1.length : Int)
        ·
         rw [if_pos c13] at H
         have c13b0 : decide ((ji11) < (x3_1.length : Int)) = true := decide_eq_true c13
         clear c13
         by_cases c14 : (wrap64 (((rd_T49 x3_1 (ji11)).f0) + ((rd_T49 x3_1 (ji11)).f1))) = x4_1
         ·
          rw [if_pos c14] at H
          have c14b0 : ((wrap64 (((rd_T49 x3_1 (ji11)).f0) + ((rd_T49 x3_1 (ji11)).f1))) == x4_1) = true := beq_iff_eq.mpr c14
          have c14b1 : ((wrap64 (((rd_T49 x3_1 (ji11)).f0) + ((rd_T49 x3_1 (ji11)).f1))) != x4_1) = false := bne_eq_false_iff_eq.mpr c14
          clear c14
          obtain ⟨y196, hy196⟩ : ∃ y_ : List (S49), y_ = (x3_1.set ((ji11) : Int).toNat (⟨(rd_T49 x3_1 (ji11)).f0, wrap64 (((rd_T49 x3_1 (ji11)).f1) + 1)⟩ : S49)) := ⟨_, rfl⟩
          replace H : (r02Extents.l0 k1 y196 (wrap64 (x4_1 + 1)) a0_0 l0_1) = some r := by first | (rw [hy196]; with_reducible exact H) | (have H2_ := (Option.bind_some _ _).symm.trans H; rw [hy196]; with_reducible exact H2_) | (have H2_ := (Option.bind_some _ _).symm.trans H; with_reducible exact H2_) | with_reducible exact H | (rw [hy196]; exact H) | exact H
          have Ny196 := A0_ hy196
          clear hy196
          have H' := A0_ H
          clear H
          have hcz16_0 : wr.cell? ⟨gb190, 0, none⟩ = some (.int .i64 a0_0) := (Bc_ BK190.out 0).trans rfl
          have hcz16_1 : wr.cell? ⟨gb190, 1, none⟩ = some (.slice A0_1 l0_1.length c0_1) := (Bc_ BK190.out 1).trans rfl
          have hfz16_0 := Bf_ BK190.out 0
          have hfz16_1 := Bf_ BK190.out 1
          go_wp2_with (first | (go_at_call 52; (with_reducible refine (r02bit.calls a0_0 _ _ l0_1 x4_1 true _ ?side1 ?side2 A8.out).mono ?_); (case side1 => repeat (first | exact (Kd.C_below HR0_1.out HB.out) | (with_reducible first | refine Kd.C_alloc ?_ _ | refine Kd.C_drewN ?_ _ | refine Kd.C_drew ?_))); (case side2 => exact HC0_1.out); rintro e w17 ⟨rfl, hb⟩; have n0_ := A0_ (Kd.R_below (by (with_reducible repeat (first | apply Ra_ | apply Rn_ | apply Rd_)); exact HO_3.out) hb); have n1_ := A0_ (blk_below (g := gb190) (o := .cells #[.int .i64 a0_0, .slice A0_1 l0_1.length c0_1] 26 (0, 0)) (by (with_reducible repeat (first | refine Bn_ ?_ _ | refine Bd_ ?_ | refine Ba_ ?_ _)); exact BK190.out) hb); have n2_ := A0_ (below_step (by repeat (first | (with_reducible first | exact HB.out | apply Al_ | apply Dn_ | apply D1_ | refine Bs_ ?_ GE190.out) | exact HB.out)) hb); clear HO_3 BK190 HB; have HO_3 := n0_; have BK190 := n1_; have HB := n2_; clear n0_ n1_ n2_; (try clear hb); (try clear hb2); (try clear hk); (try clear hi); obtain ⟨Ao18, co18, eo18⟩ := Kd.R_slice HO_3.out; subst eo18; have p193 : 0 ≤ ((ji11) : Int) := of_decide_eq_true (by first | (with_reducible assumption) | assumption); have q193 : (ji11) < (x3_1.length : Int) := of_decide_eq_true (by first | (with_reducible assumption) | assumption); obtain ⟨ad193, e193, hx193_0, hx193_1⟩ := at_T49 (Kd.R_reads' HO_3.out).2.2 (ji11) p193 q193; cases e193; replace p193 := eq_true p193; replace q193 := eq_true q193; have p194 : 0 ≤ ((ji11) : Int) := of_decide_eq_true (by first | (with_reducible assumption) | assumption); have q194 : (ji11) < (x3_1.length : Int) := of_decide_eq_true (by first | (with_reducible assumption) | assumption); obtain ⟨ad194, e194, hx194_0, hx194_1⟩ := at_T49 (Kd.R_reads' HO_3.out).2.2 (ji11) p194 q194; obtain rfl : ad193 = ad194 := (by injection e194); replace p194 := eq_true p194; replace q194 := eq_true q194; have p195 : 0 ≤ ((ji11) : Int) := of_decide_eq_true (by first | (with_reducible assumption) | assumption); have q195 : (ji11) < (x3_1.length : Int) := of_decide_eq_true (by first | (with_reducible assumption) | assumption); obtain ⟨ad195, e195, hx195_0, hx195_1⟩ := at_T49 (Kd.R_reads' HO_3.out).2.2 (ji11) p195 q195; obtain rfl : ad193 = ad195 := (by injection e195); replace p195 := eq_true p195; replace q195 := eq_true q195; have p15 : 0 ≤ ((ji11) : Int) := of_decide_eq_true (by first | (with_reducible assumption) | assumption); have q15 : ((ji11) : Int) < ((x3_1.length : Int) : Int) := of_decide_eq_true (by first | (with_reducible assumption) | assumption); obtain ⟨go15, co15, eo15, gb15, gl15, cl15, HG15⟩ := Kd.R_form HO_3.out (by omega); (first | cases eo15 | (injection eo15 with ea_ en_ ec_; (first | subst ea_ | (injection ea_ with ea_; subst ea_)); subst ec_; clear en_)); have GB15 := A0_ gb15; have GG15 := A0_ HG15; clear gb15 gl15 HG15; (first | simp only [add_plain] at hx193_0 | skip); (first | simp only [add_plain] at hx193_1 | skip); (first | simp only [add_plain] at hx194_0 | skip); (first | simp only [add_plain] at hx194_1 | skip); (first | simp only [add_plain] at hx195_0 | skip); (first | simp only [add_plain] at hx195_1 | skip); obtain ⟨ce15, hcl15, hM15, hcc15, hfr15⟩ := Kd.R_elem HO_3.out z49 ((ji11) : Int) p15 q15; obtain rfl := k49_openM hM15; have hx15_0 : w17.cell? ⟨go15, ((ji11) : Int).toNat * 2, none⟩ = some (.int .i64 ((rd_T49 x3_1 (ji11)).f0)) := hcc15 0 _ rfl; have hx15_1 : w17.cell? ⟨go15, ((ji11) : Int).toNat * 2 + 1, none⟩ = some (.int .i64 ((rd_T49 x3_1 (ji11)).f1)) := hcc15 1 _ rfl; have hf15_0 : w17.frozen? ⟨go15, ((ji11) : Int).toNat * 2, none⟩ = false := hfr15 0; have hf15_1 : w17.frozen? ⟨go15, ((ji11) : Int).toNat * 2 + 1, none⟩ = false := hfr15 1; clear hcl15 hcc15 hfr15 hM15; replace p15 := eq_true p15; replace q15 := eq_true q15; have HX19 := A0_ (show Kd.R k49 49 w17 w.heap.size (fun _ => True) (.slice (some ⟨go15, 0, none⟩) x3_1.length co18) x3_1 from (by (with_reducible repeat (first | apply Ra_ | apply Rn_ | apply Rd_)); exact HO_3.out)); obtain ⟨ce19, hcl19, hM19, hcc19, hfr19⟩ := Kd.R_elem HX19.out z49 ((ji11) : Int) (of_decide_eq_true (by first | (with_reducible assumption) | assumption)) (by have h_ : ((ji11) : Int) < ((x3_1.length : Int) : Int) := of_decide_eq_true (by first | (with_reducible assumption) | assumption); first | exact h_ | (have e_ := (Kd.R_reads' HO_3.out).1; omega) | simpa using h_); obtain rfl := k49_openM hM19; have HP19 := Kd.R_seg HX19.out ((ji11) : Int) (of_decide_eq_true (by first | (with_reducible assumption) | assumption)) (by have h_ : ((ji11) : Int) < ((x3_1.length : Int) : Int) := of_decide_eq_true (by first | (with_reducible assumption) | assumption); first | exact h_ | (have e_ := (Kd.R_reads' HO_3.out).1; omega) | simpa using h_) (seg := [.int .i64 (wrap64 (((rd_T49 x3_1 (ji11)).f1) + 1))]) (j := 1) hcl19 hcc19 (show 2 ≤ 2 from by decide) (x' := (⟨(rd_T49 x3_1 (ji11)).f0, wrap64 (((rd_T49 x3_1 (ji11)).f1) + 1)⟩ : S49)) (k49_mkM _ _ _ (⟨(rd_T49 x3_1 (ji11)).f0, wrap64 (((rd_T49 x3_1 (ji11)).f1) + 1)⟩ : S49) ) (fun _ hk => hk); have hx19_1 := hcc19 1 _ rfl; (try simp only [show (k49).sz = 2 from rfl, Nat.mul_one, Nat.add_zero] at hx19_1); have hf19_1 := hfr19 1; (try simp only [show (k49).sz = 2 from rfl, Nat.mul_one, Nat.add_zero] at hf19_1); clear hcl19 hcc19 hfr19 hM19) | ((with_reducible refine gate_store (t := 3) (p := 48) rfl ?_); (try (rw [drewN_self w17]; generalize hq_ : World.drewN w17 _ = w17; have n0_ := A0_ (Kd.R_at hq_ HO_3.out); have n1_ := A0_ (blk_at hq_ BK190.out); have n2_ := A0_ (below_at hq_ HB.out); clear hq_ HO_3 BK190 HB; have HO_3 := n0_; have BK190 := n1_; have HB := n2_; clear n0_ n1_ n2_; (try (have HX19 := A0_ (show Kd.R k49 49 w17 w.heap.size (fun _ => True) (.slice (some ⟨go15, 0, none⟩) x3_1.length co18) x3_1 from (by (with_reducible repeat (first | apply Ra_ | apply Rn_ | apply Rd_)); exact HO_3.out)))); (try (obtain ⟨ce19, hcl19, hM19, hcc19, hfr19⟩ := Kd.R_elem HX19.out z49 ((ji11) : Int) (of_decide_eq_true (by first | (with_reducible assumption) | assumption)) (by have h_ : ((ji11) : Int) < ((x3_1.length : Int) : Int) := of_decide_eq_true (by first | (with_reducible assumption) | assumption); first | exact h_ | (have e_ := (Kd.R_reads' HO_3.out).1; omega) | simpa using h_))); (try (obtain rfl := k49_openM hM19)); (try (have HP19 := Kd.R_seg HX19.out ((ji11) : Int) (of_decide_eq_true (by first | (with_reducible assumption) | assumption)) (by have h_ : ((ji11) : Int) < ((x3_1.length : Int) : Int) := of_decide_eq_true (by first | (with_reducible assumption) | assumption); first | exact h_ | (have e_ := (Kd.R_reads' HO_3.out).1; omega) | simpa using h_) (seg := [.int .i64 (wrap64 (((rd_T49 x3_1 (ji11)).f1) + 1))]) (j := 1) hcl19 hcc19 (show 2 ≤ 2 from by decide) (x' := (⟨(rd_T49 x3_1 (ji11)).f0, wrap64 (((rd_T49 x3_1 (ji11)).f1) + 1)⟩ : S49)) (k49_mkM _ _ _ (⟨(rd_T49 x3_1 (ji11)).f0, wrap64 (((rd_T49 x3_1 (ji11)).f1) + 1)⟩ : S49) ) (fun _ hk => hk))); (try (have hx19_1 := hcc19 1 _ rfl)); (try (try simp only [show (k49).sz = 2 from rfl, Nat.mul_one, Nat.add_zero] at hx19_1)); (try (have hf19_1 := hfr19 1)); (try (try simp only [show (k49).sz = 2 from rfl, Nat.mul_one, Nat.add_zero] at hf19_1)); (try (clear hcl19 hcc19 hfr19 hM19)))); refine store_event (t := 3) (p := 48) (v := ?vo_w20) (w1 := (w17.setCell ⟨go15, ((ji11) : Int).toNat * 2 + 1, none⟩ (.int .i64 (wrap64 (((rd_T49 x3_1 (ji11)).f1) + 1))))) ?hg ?ho ?hn ?hr ?_; (case ho => rfl); (case hg => rfl); (case hn => rfl); (case hr => first | (go_simp; done) | (go_simp; rfl)); intro w20 hw; have hg : w17.grownBy w20 (some go15) := (by rw [hw]; exact HP19.2); have hp_ : Kd.R k49 49 w20 w.heap.size (fun _ => True) (.slice (some ⟨go15, 0, none⟩) x3_1.length co18) y196 := (by rw [hw, Ny196.out]; exact HP19.1); clear HP19; have n0_ := A0_ (hp_); have n1_ := A0_ (blk_grown (g := gb190) (o := .cells #[.int .i64 a0_0, .slice A0_1 l0_1.length c0_1] 26 (0, 0)) (by (with_reducible repeat (first | refine Bn_ ?_ _ | refine Bd_ ?_ | refine Ba_ ?_ _)); exact BK190.out) hg (Kd.R_ne HO_3.out BK190.out (by decide))); have n2_ := A0_ ((by rw [hw]; exact Bs_ (HB.out) GB15.out : Below w.heap.size w w20)); clear HO_3 BK190 HB; have HO_3 := n0_; have BK190 := n1_; have HB := n2_; clear n0_ n1_ n2_ hg hw hp_))
          repeat (go_quiet (first | (go_at_call 52; (with_reducible refine (r02bit.calls a0_0 _ _ l0_1 x4_1 true _ ?side1 ?side2 A8.out).mono ?_); (case side1 => repeat (first | exact (Kd.C_below HR0_1.out HB.out) | (with_reducible first | refine Kd.C_alloc ?_ _ | refine Kd.C_drewN ?_ _ | refine Kd.C_drew ?_))); (case side2 => exact HC0_1.out); rintro e w17 ⟨rfl, hb⟩; have n0_ := A0_ (Kd.R_below (by (with_reducible repeat (first | apply Ra_ | apply Rn_ | apply Rd_)); exact HO_3.out) hb); have n1_ := A0_ (blk_below (g := gb190) (o := .cells #[.int .i64 a0_0, .slice A0_1 l0_1.length c0_1] 26 (0, 0)) (by (with_reducible repeat (first | refine Bn_ ?_ _ | refine Bd_ ?_ | refine Ba_ ?_ _)); exact BK190.out) hb); have n2_ := A0_ (below_step (by repeat (first | (with_reducible first | exact HB.out | apply Al_ | apply Dn_ | apply D1_ | refine Bs_ ?_ GE190.out) | exact HB.out)) hb); clear HO_3 BK190 HB; have HO_3 := n0_; have BK190 := n1_; have HB := n2_; clear n0_ n1_ n2_; (try clear hb); (try clear hb2); (try clear hk); (try clear hi); obtain ⟨Ao18, co18, eo18⟩ := Kd.R_slice HO_3.out; subst eo18; have p193 : 0 ≤ ((ji11) : Int) := of_decide_eq_true (by first | (with_reducible assumption) | assumption); have q193 : (ji11) < (x3_1.length : Int) := of_decide_eq_true (by first | (with_reducible assumption) | assumption); obtain ⟨ad193, e193, hx193_0, hx193_1⟩ := at_T49 (Kd.R_reads' HO_3.out).2.2 (ji11) p193 q193; cases e193; replace p193 := eq_true p193; replace q193 := eq_true q193; have p194 : 0 ≤ ((ji11) : Int) := of_decide_eq_true (by first | (with_reducible assumption) | assumption); have q194 : (ji11) < (x3_1.length : Int) := of_decide_eq_true (by first | (with_reducible assumption) | assumption); obtain ⟨ad194, e194, hx194_0, hx194_1⟩ := at_T49 (Kd.R_reads' HO_3.out).2.2 (ji11) p194 q194; obtain rfl : ad193 = ad194 := (by injection e194); replace p194 := eq_true p194; replace q194 := eq_true q194; have p195 : 0 ≤ ((ji11) : Int) := of_decide_eq_true (by first | (with_reducible assumption) | assumption); have q195 : (ji11) < (x3_1.length : Int) := of_decide_eq_true (by first | (with_reducible assumption) | assumption); obtain ⟨ad195, e195, hx195_0, hx195_1⟩ := at_T49 (Kd.R_reads' HO_3.out).2.2 (ji11) p195 q195; obtain rfl : ad193 = ad195 := (by injection e195); replace p195 := eq_true p195; replace q195 := eq_true q195; have p15 : 0 ≤ ((ji11) : Int) := of_decide_eq_true (by first | (with_reducible assumption) | assumption); have q15 : ((ji11) : Int) < ((x3_1.length : Int) : Int) := of_decide_eq_true (by first | (with_reducible assumption) | assumption); obtain ⟨go15, co15, eo15, gb15, gl15, cl15, HG15⟩ := Kd.R_form HO_3.out (by omega); (first | cases eo15 | (injection eo15 with ea_ en_ ec_; (first | subst ea_ | (injection ea_ with ea_; subst ea_)); subst ec_; clear en_)); have GB15 := A0_ gb15; have GG15 := A0_ HG15; clear gb15 gl15 HG15; (first | simp only [add_plain] at hx193_0 | skip); (first | simp only [add_plain] at hx193_1 | skip); (first | simp only [add_plain] at hx194_0 | skip); (first | simp only [add_plain] at hx194_1 | skip); (first | simp only [add_plain] at hx195_0 | skip); (first | simp only [add_plain] at hx195_1 | skip); obtain ⟨ce15, hcl15, hM15, hcc15, hfr15⟩ := Kd.R_elem HO_3.out z49 ((ji11) : Int) p15 q15; obtain rfl := k49_openM hM15; have hx15_0 : w17.cell? ⟨go15, ((ji11) : Int).toNat * 2, none⟩ = some (.int .i64 ((rd_T49 x3_1 (ji11)).f0)) := hcc15 0 _ rfl; have hx15_1 : w17.cell? ⟨go15, ((ji11) : Int).toNat * 2 + 1, none⟩ = some (.int .i64 ((rd_T49 x3_1 (ji11)).f1)) := hcc15 1 _ rfl; have hf15_0 : w17.frozen? ⟨go15, ((ji11) : Int).toNat * 2, none⟩ = false := hfr15 0; have hf15_1 : w17.frozen? ⟨go15, ((ji11) : Int).toNat * 2 + 1, none⟩ = false := hfr15 1; clear hcl15 hcc15 hfr15 hM15; replace p15 := eq_true p15; replace q15 := eq_true q15; have HX19 := A0_ (show Kd.R k49 49 w17 w.heap.size (fun _ => True) (.slice (some ⟨go15, 0, none⟩) x3_1.length co18) x3_1 from (by (with_reducible repeat (first | apply Ra_ | apply Rn_ | apply Rd_)); exact HO_3.out)); obtain ⟨ce19, hcl19, hM19, hcc19, hfr19⟩ := Kd.R_elem HX19.out z49 ((ji11) : Int) (of_decide_eq_true (by first | (with_reducible assumption) | assumption)) (by have h_ : ((ji11) : Int) < ((x3_1.length : Int) : Int) := of_decide_eq_true (by first | (with_reducible assumption) | assumption); first | exact h_ | (have e_ := (Kd.R_reads' HO_3.out).1; omega) | simpa using h_); obtain rfl := k49_openM hM19; have HP19 := Kd.R_seg HX19.out ((ji11) : Int) (of_decide_eq_true (by first | (with_reducible assumption) | assumption)) (by have h_ : ((ji11) : Int) < ((x3_1.length : Int) : Int) := of_decide_eq_true (by first | (with_reducible assumption) | assumption); first | exact h_ | (have e_ := (Kd.R_reads' HO_3.out).1; omega) | simpa using h_) (seg := [.int .i64 (wrap64 (((rd_T49 x3_1 (ji11)).f1) + 1))]) (j := 1) hcl19 hcc19 (show 2 ≤ 2 from by decide) (x' := (⟨(rd_T49 x3_1 (ji11)).f0, wrap64 (((rd_T49 x3_1 (ji11)).f1) + 1)⟩ : S49)) (k49_mkM _ _ _ (⟨(rd_T49 x3_1 (ji11)).f0, wrap64 (((rd_T49 x3_1 (ji11)).f1) + 1)⟩ : S49) ) (fun _ hk => hk); have hx19_1 := hcc19 1 _ rfl; (try simp only [show (k49).sz = 2 from rfl, Nat.mul_one, Nat.add_zero] at hx19_1); have hf19_1 := hfr19 1; (try simp only [show (k49).sz = 2 from rfl, Nat.mul_one, Nat.add_zero] at hf19_1); clear hcl19 hcc19 hfr19 hM19) | ((with_reducible refine gate_store (t := 3) (p := 48) rfl ?_); (try (rw [drewN_self w17]; generalize hq_ : World.drewN w17 _ = w17; have n0_ := A0_ (Kd.R_at hq_ HO_3.out); have n1_ := A0_ (blk_at hq_ BK190.out); have n2_ := A0_ (below_at hq_ HB.out); clear hq_ HO_3 BK190 HB; have HO_3 := n0_; have BK190 := n1_; have HB := n2_; clear n0_ n1_ n2_; (try (have HX19 := A0_ (show Kd.R k49 49 w17 w.heap.size (fun _ => True) (.slice (some ⟨go15, 0, none⟩) x3_1.length co18) x3_1 from (by (with_reducible repeat (first | apply Ra_ | apply Rn_ | apply Rd_)); exact HO_3.out)))); (try (obtain ⟨ce19, hcl19, hM19, hcc19, hfr19⟩ := Kd.R_elem HX19.out z49 ((ji11) : Int) (of_decide_eq_true (by first | (with_reducible assumption) | assumption)) (by have h_ : ((ji11) : Int) < ((x3_1.length : Int) : Int) := of_decide_eq_true (by first | (with_reducible assumption) | assumption); first | exact h_ | (have e_ := (Kd.R_reads' HO_3.out).1; omega) | simpa using h_))); (try (obtain rfl := k49_openM hM19)); (try (have HP19 := Kd.R_seg HX19.out ((ji11) : Int) (of_decide_eq_true (by first | (with_reducible assumption) | assumption)) (by have h_ : ((ji11) : Int) < ((x3_1.length : Int) : Int) := of_decide_eq_true (by first | (with_reducible assumption) | assumption); first | exact h_ | (have e_ := (Kd.R_reads' HO_3.out).1; omega) | simpa using h_) (seg := [.int .i64 (wrap64 (((rd_T49 x3_1 (ji11)).f1) + 1))]) (j := 1) hcl19 hcc19 (show 2 ≤ 2 from by decide) (x' := (⟨(rd_T49 x3_1 (ji11)).f0, wrap64 (((rd_T49 x3_1 (ji11)).f1) + 1)⟩ : S49)) (k49_mkM _ _ _ (⟨(rd_T49 x3_1 (ji11)).f0, wrap64 (((rd_T49 x3_1 (ji11)).f1) + 1)⟩ : S49) ) (fun _ hk => hk))); (try (have hx19_1 := hcc19 1 _ rfl)); (try (try simp only [show (k49).sz = 2 from rfl, Nat.mul_one, Nat.add_zero] at hx19_1)); (try (have hf19_1 := hfr19 1)); (try (try simp only [show (k49).sz = 2 from rfl, Nat.mul_one, Nat.add_zero] at hf19_1)); (try (clear hcl19 hcc19 hfr19 hM19)))); refine store_event (t := 3) (p := 48) (v := ?vo_w20) (w1 := (w17.setCell ⟨go15, ((ji11) : Int).toNat * 2 + 1, none⟩ (.int .i64 (wrap64 (((rd_T49 x3_1 (ji11)).f1) + 1))))) ?hg ?ho ?hn ?hr ?_; (case ho => rfl); (case hg => rfl); (case hn => rfl); (case hr => first | (go_simp; done) | (go_simp; rfl)); intro w20 hw; have hg : w17.grownBy w20 (some go15) := (by rw [hw]; exact HP19.2); have hp_ : Kd.R k49 49 w20 w.heap.size (fun _ => True) (.slice (some ⟨go15, 0, none⟩) x3_1.length co18) y196 := (by rw [hw, Ny196.out]; exact HP19.1); clear HP19; have n0_ := A0_ (hp_); have n1_ := A0_ (blk_grown (g := gb190) (o := .cells #[.int .i64 a0_0, .slice A0_1 l0_1.length c0_1] 26 (0, 0)) (by (with_reducible repeat (first | refine Bn_ ?_ _ | refine Bd_ ?_ | refine Ba_ ?_ _)); exact BK190.out) hg (Kd.R_ne HO_3.out BK190.out (by decide))); have n2_ := A0_ ((by rw [hw]; exact Bs_ (HB.out) GB15.out : Below w.heap.size w w20)); clear HO_3 BK190 HB; have HO_3 := n0_; have BK190 := n1_; have HB := n2_; clear n0_ n1_ n2_ hg hw hp_)); try go_wp2_with (first | (go_at_call 52; (with_reducible refine (r02bit.calls a0_0 _ _ l0_1 x4_1 true _ ?side1 ?side2 A8.out).mono ?_); (case side1 => repeat (first | exact (Kd.C_below HR0_1.out HB.out) | (with_reducible first | refine Kd.C_alloc ?_ _ | refine Kd.C_drewN ?_ _ | refine Kd.C_drew ?_))); (case side2 => exact HC0_1.out); rintro e w17 ⟨rfl, hb⟩; have n0_ := A0_ (Kd.R_below (by (with_reducible repeat (first | apply Ra_ | apply Rn_ | apply Rd_)); exact HO_3.out) hb); have n1_ := A0_ (blk_below (g := gb190) (o := .cells #[.int .i64 a0_0, .slice A0_1 l0_1.length c0_1] 26 (0, 0)) (by (with_reducible repeat (first | refine Bn_ ?_ _ | refine Bd_ ?_ | refine Ba_ ?_ _)); exact BK190.out) hb); have n2_ := A0_ (below_step (by repeat (first | (with_reducible first | exact HB.out | apply Al_ | apply Dn_ | apply D1_ | refine Bs_ ?_ GE190.out) | exact HB.out)) hb); clear HO_3 BK190 HB; have HO_3 := n0_; have BK190 := n1_; have HB := n2_; clear n0_ n1_ n2_; (try clear hb); (try clear hb2); (try clear hk); (try clear hi); obtain ⟨Ao18, co18, eo18⟩ := Kd.R_slice HO_3.out; subst eo18; have p193 : 0 ≤ ((ji11) : Int) := of_decide_eq_true (by first | (with_reducible assumption) | assumption); have q193 : (ji11) < (x3_1.length : Int) := of_decide_eq_true (by first | (with_reducible assumption) | assumption); obtain ⟨ad193, e193, hx193_0, hx193_1⟩ := at_T49 (Kd.R_reads' HO_3.out).2.2 (ji11) p193 q193; cases e193; replace p193 := eq_true p193; replace q193 := eq_true q193; have p194 : 0 ≤ ((ji11) : Int) := of_decide_eq_true (by first | (with_reducible assumption) | assumption); have q194 : (ji11) < (x3_1.length : Int) := of_decide_eq_true (by first | (with_reducible assumption) | assumption); obtain ⟨ad194, e194, hx194_0, hx194_1⟩ := at_T49 (Kd.R_reads' HO_3.out).2.2 (ji11) p194 q194; obtain rfl : ad193 = ad194 := (by injection e194); replace p194 := eq_true p194; replace q194 := eq_true q194; have p195 : 0 ≤ ((ji11) : Int) := of_decide_eq_true (by first | (with_reducible assumption) | assumption); have q195 : (ji11) < (x3_1.length : Int) := of_decide_eq_true (by first | (with_reducible assumption) | assumption); obtain ⟨ad195, e195, hx195_0, hx195_1⟩ := at_T49 (Kd.R_reads' HO_3.out).2.2 (ji11) p195 q195; obtain rfl : ad193 = ad195 := (by injection e195); replace p195 := eq_true p195; replace q195 := eq_true q195; have p15 : 0 ≤ ((ji11) : Int) := of_decide_eq_true (by first | (with_reducible assumption) | assumption); have q15 : ((ji11) : Int) < ((x3_1.length : Int) : Int) := of_decide_eq_true (by first | (with_reducible assumption) | assumption); obtain ⟨go15, co15, eo15, gb15, gl15, cl15, HG15⟩ := Kd.R_form HO_3.out (by omega); (first | cases eo15 | (injection eo15 with ea_ en_ ec_; (first | subst ea_ | (injection ea_ with ea_; subst ea_)); subst ec_; clear en_)); have GB15 := A0_ gb15; have GG15 := A0_ HG15; clear gb15 gl15 HG15; (first | simp only [add_plain] at hx193_0 | skip); (first | simp only [add_plain] at hx193_1 | skip); (first | simp only [add_plain] at hx194_0 | skip); (first | simp only [add_plain] at hx194_1 | skip); (first | simp only [add_plain] at hx195_0 | skip); (first | simp only [add_plain] at hx195_1 | skip); obtain ⟨ce15, hcl15, hM15, hcc15, hfr15⟩ := Kd.R_elem HO_3.out z49 ((ji11) : Int) p15 q15; obtain rfl := k49_openM hM15; have hx15_0 : w17.cell? ⟨go15, ((ji11) : Int).toNat * 2, none⟩ = some (.int .i64 ((rd_T49 x3_1 (ji11)).f0)) := hcc15 0 _ rfl; have hx15_1 : w17.cell? ⟨go15, ((ji11) : Int).toNat * 2 + 1, none⟩ = some (.int .i64 ((rd_T49 x3_1 (ji11)).f1)) := hcc15 1 _ rfl; have hf15_0 : w17.frozen? ⟨go15, ((ji11) : Int).toNat * 2, none⟩ = false := hfr15 0; have hf15_1 : w17.frozen? ⟨go15, ((ji11) : Int).toNat * 2 + 1, none⟩ = false := hfr15 1; clear hcl15 hcc15 hfr15 hM15; replace p15 := eq_true p15; replace q15 := eq_true q15; have HX19 := A0_ (show Kd.R k49 49 w17 w.heap.size (fun _ => True) (.slice (some ⟨go15, 0, none⟩) x3_1.length co18) x3_1 from (by (with_reducible repeat (first | apply Ra_ | apply Rn_ | apply Rd_)); exact HO_3.out)); obtain ⟨ce19, hcl19, hM19, hcc19, hfr19⟩ := Kd.R_elem HX19.out z49 ((ji11) : Int) (of_decide_eq_true (by first | (with_reducible assumption) | assumption)) (by have h_ : ((ji11) : Int) < ((x3_1.length : Int) : Int) := of_decide_eq_true (by first | (with_reducible assumption) | assumption); first | exact h_ | (have e_ := (Kd.R_reads' HO_3.out).1; omega) | simpa using h_); obtain rfl := k49_openM hM19; have HP19 := Kd.R_seg HX19.out ((ji11) : Int) (of_decide_eq_true (by first | (with_reducible assumption) | assumption)) (by have h_ : ((ji11) : Int) < ((x3_1.length : Int) : Int) := of_decide_eq_true (by first | (with_reducible assumption) | assumption); first | exact h_ | (have e_ := (Kd.R_reads' HO_3.out).1; omega) | simpa using h_) (seg := [.int .i64 (wrap64 (((rd_T49 x3_1 (ji11)).f1) + 1))]) (j := 1) hcl19 hcc19 (show 2 ≤ 2 from by decide) (x' := (⟨(rd_T49 x3_1 (ji11)).f0, wrap64 (((rd_T49 x3_1 (ji11)).f1) + 1)⟩ : S49)) (k49_mkM _ _ _ (⟨(rd_T49 x3_1 (ji11)).f0, wrap64 (((rd_T49 x3_1 (ji11)).f1) + 1)⟩ : S49) ) (fun _ hk => hk); have hx19_1 := hcc19 1 _ rfl; (try simp only [show (k49).sz = 2 from rfl, Nat.mul_one, Nat.add_zero] at hx19_1); have hf19_1 := hfr19 1; (try simp only [show (k49).sz = 2 from rfl, Nat.mul_one, Nat.add_zero] at hf19_1); clear hcl19 hcc19 hfr19 hM19) | ((with_reducible refine gate_store (t := 3) (p := 48) rfl ?_); (try (rw [drewN_self w17]; generalize hq_ : World.drewN w17 _ = w17; have n0_ := A0_ (Kd.R_at hq_ HO_3.out); have n1_ := A0_ (blk_at hq_ BK190.out); have n2_ := A0_ (below_at hq_ HB.out); clear hq_ HO_3 BK190 HB; have HO_3 := n0_; have BK190 := n1_; have HB := n2_; clear n0_ n1_ n2_; (try (have HX19 := A0_ (show Kd.R k49 49 w17 w.heap.size (fun _ => True) (.slice (some ⟨go15, 0, none⟩) x3_1.length co18) x3_1 from (by (with_reducible repeat (first | apply Ra_ | apply Rn_ | apply Rd_)); exact HO_3.out)))); (try (obtain ⟨ce19, hcl19, hM19, hcc19, hfr19⟩ := Kd.R_elem HX19.out z49 ((ji11) : Int) (of_decide_eq_true (by first | (with_reducible assumption) | assumption)) (by have h_ : ((ji11) : Int) < ((x3_1.length : Int) : Int) := of_decide_eq_true (by first | (with_reducible assumption) | assumption); first | exact h_ | (have e_ := (Kd.R_reads' HO_3.out).1; omega) | simpa using h_))); (try (obtain rfl := k49_openM hM19)); (try (have HP19 := Kd.R_seg HX19.out ((ji11) : Int) (of_decide_eq_true (by first | (with_reducible assumption) | assumption)) (by have h_ : ((ji11) : Int) < ((x3_1.length : Int) : Int) := of_decide_eq_true (by first | (with_reducible assumption) | assumption); first | exact h_ | (have e_ := (Kd.R_reads' HO_3.out).1; omega) | simpa using h_) (seg := [.int .i64 (wrap64 (((rd_T49 x3_1 (ji11)).f1) + 1))]) (j := 1) hcl19 hcc19 (show 2 ≤ 2 from by decide) (x' := (⟨(rd_T49 x3_1 (ji11)).f0, wrap64 (((rd_T49 x3_1 (ji11)).f1) + 1)⟩ : S49)) (k49_mkM _ _ _ (⟨(rd_T49 x3_1 (ji11)).f0, wrap64 (((rd_T49 x3_1 (ji11)).f1) + 1)⟩ : S49) ) (fun _ hk => hk))); (try (have hx19_1 := hcc19 1 _ rfl)); (try (try simp only [show (k49).sz = 2 from rfl, Nat.mul_one, Nat.add_zero] at hx19_1)); (try (have hf19_1 := hfr19 1)); (try (try simp only [show (k49).sz = 2 from rfl, Nat.mul_one, Nat.add_zero] at hf19_1)); (try (clear hcl19 hcc19 hfr19 hM19)))); refine store_event (t := 3) (p := 48) (v := ?vo_w20) (w1 := (w17.setCell ⟨go15, ((ji11) : Int).toNat * 2 + 1, none⟩ (.int .i64 (wrap64 (((rd_T49 x3_1 (ji11)).f1) + 1))))) ?hg ?ho ?hn ?hr ?_; (case ho => rfl); (case hg => rfl); (case hn => rfl); (case hr => first | (go_simp; done) | (go_simp; rfl)); intro w20 hw; have hg : w17.grownBy w20 (some go15) := (by rw [hw]; exact HP19.2); have hp_ : Kd.R k49 49 w20 w.heap.size (fun _ => True) (.slice (some ⟨go15, 0, none⟩) x3_1.length co18) y196 := (by rw [hw, Ny196.out]; exact HP19.1); clear HP19; have n0_ := A0_ (hp_); have n1_ := A0_ (blk_grown (g := gb190) (o := .cells #[.int .i64 a0_0, .slice A0_1 l0_1.length c0_1] 26 (0, 0)) (by (with_reducible repeat (first | refine Bn_ ?_ _ | refine Bd_ ?_ | refine Ba_ ?_ _)); exact BK190.out) hg (Kd.R_ne HO_3.out BK190.out (by decide))); have n2_ := A0_ ((by rw [hw]; exact Bs_ (HB.out) GB15.out : Below w.heap.size w w20)); clear HO_3 BK190 HB; have HO_3 := n0_; have BK190 := n1_; have HB := n2_; clear n0_ n1_ n2_ hg hw hp_)))
          go_roundg k1
          case measure => have := HK1.out; omega
          case rel => exact ⟨(y196), (wrap64 (x4_1 + 1)), (by first | rfl | (simp; done) | (simp [*]; done)), H', ⟨by have := HK1.out; omega⟩, ⟨by (with_reducible repeat (first | apply Ra_ | apply Rn_ | apply Rd_)); exact HO_3.out⟩, ⟨by (with_reducible repeat (first | refine Bn_ ?_ _ | refine Bd_ ?_ | refine Ba_ ?_ _)); exact BK190.out⟩, ⟨by repeat (first | (with_reducible first | exact HB.out | apply Al_ | apply Dn_ | apply D1_ | refine Bs_ ?_ GE190.out) | exact HB.out)⟩⟩
         ·
          rw [if_neg c14] at H
          have c14b0 : ((wrap64 (((rd_T49 x3_1 (ji11)).f0) + ((rd_T49 x3_1 (ji11)).f1))) == x4_1) = false := beq_eq_false_iff_ne.mpr c14
          have c14b1 : ((wrap64 (((rd_T49 x3_1 (ji11)).f0) + ((rd_T49 x3_1 (ji11)).f1))) != x4_1) = true := bne_iff_ne.mpr c14
          by_cases c21 : x3_1.length < 8796093022208
          ·
           rw [if_pos c21] at H
           have LMc21 := A0_ c21
           clear c21
           obtain ⟨y197, hy197⟩ : ∃ y_ : List (S49), y_ = (x3_1 ++ [(⟨x4_1, 1⟩ : S49)]) := ⟨_, rfl⟩
           replace H : (r02Extents.l0 k1 y197 (wrap64 (x4_1 + 1)) a0_0 l0_1) = some r := by first | (rw [hy197]; with_reducible exact H) | (have H2_ := (Option.bind_some _ _).symm.trans H; rw [hy197]; with_reducible exact H2_) | (have H2_ := (Option.bind_some _ _).symm.trans H; with_reducible exact H2_) | with_reducible exact H | (rw [hy197]; exact H) | exact H
           have Ny197 := A0_ hy197
           clear hy197
           have H' := A0_ H
           clear H
           have hcz22_0 : wr.cell? ⟨gb190, 0, none⟩ = some (.int .i64 a0_0) := (Bc_ BK190.out 0).trans rfl
           have hcz22_1 : wr.cell? ⟨gb190, 1, none⟩ = some (.slice A0_1 l0_1.length c0_1) := (Bc_ BK190.out 1).trans rfl
           have hfz22_0 := Bf_ BK190.out 0
           have hfz22_1 := Bf_ BK190.out 1
           go_wp2_with (first | (go_at_call 52; (with_reducible refine (r02bit.calls a0_0 _ _ l0_1 x4_1 true _ ?side1 ?side2 A8.out).mono ?_); (case side1 => repeat (first | exact (Kd.C_below HR0_1.out HB.out) | (with_reducible first | refine Kd.C_alloc ?_ _ | refine Kd.C_drewN ?_ _ | refine Kd.C_drew ?_))); (case side2 => exact HC0_1.out); rintro e w23 ⟨rfl, hb⟩; have n0_ := A0_ (Kd.R_below (by (with_reducible repeat (first | apply Ra_ | apply Rn_ | apply Rd_)); exact HO_3.out) hb); have n1_ := A0_ (blk_below (g := gb190) (o := .cells #[.int .i64 a0_0, .slice A0_1 l0_1.length c0_1] 26 (0, 0)) (by (with_reducible repeat (first | refine Bn_ ?_ _ | refine Bd_ ?_ | refine Ba_ ?_ _)); exact BK190.out) hb); have n2_ := A0_ (below_step (by repeat (first | (with_reducible first | exact HB.out | apply Al_ | apply Dn_ | apply D1_ | refine Bs_ ?_ GE190.out) | exact HB.out)) hb); clear HO_3 BK190 HB; have HO_3 := n0_; have BK190 := n1_; have HB := n2_; clear n0_ n1_ n2_; (try clear hb); (try clear hb2); (try clear hk); (try clear hi); obtain ⟨Ao24, co24, eo24⟩ := Kd.R_slice HO_3.out; subst eo24; have p193 : 0 ≤ ((ji11) : Int) := of_decide_eq_true (by first | (with_reducible assumption) | assumption); have q193 : (ji11) < (x3_1.length : Int) := of_decide_eq_true (by first | (with_reducible assumption) | assumption); obtain ⟨ad193, e193, hx193_0, hx193_1⟩ := at_T49 (Kd.R_reads' HO_3.out).2.2 (ji11) p193 q193; cases e193; replace p193 := eq_true p193; replace q193 := eq_true q193; have p194 : 0 ≤ ((ji11) : Int) := of_decide_eq_true (by first | (with_reducible assumption) | assumption); have q194 : (ji11) < (x3_1.length : Int) := of_decide_eq_true (by first | (with_reducible assumption) | assumption); obtain ⟨ad194, e194, hx194_0, hx194_1⟩ := at_T49 (Kd.R_reads' HO_3.out).2.2 (ji11) p194 q194; obtain rfl : ad193 = ad194 := (by injection e194); replace p194 := eq_true p194; replace q194 := eq_true q194) | ((with_reducible refine gate_builtin (b := .append) (xs := #[.tmp 49, .tmp 52]) rfl ?_); at_builtin; refine Kd.R_append k49 (w0 := w) w.heap.size rfl (.tmp 49) (.tmp 52) 56 49 (.agg #[(.int .i64 0), (.int .i64 0)]) 16 rfl Tryd.underlying56 info49 rfl (by decide) (by omega) (.slice (some ad193) x3_1.length co24) x3_1 (⟨x4_1, 1⟩ : S49) [.int .i64 x4_1, .int .i64 1] (fun _ => True) (fun _ => False) rfl rfl ?aP (fun _ hk => hk.elim) ?aF ?aO ?aB ?aS ?aL ?_; (case aP => exact k49_mkM _ _ _ (⟨x4_1, 1⟩ : S49)); (case aB => exact (by repeat (first | (with_reducible first | exact HB.out | apply Al_ | apply Dn_ | apply D1_ | refine Bs_ ?_ GE190.out) | exact HB.out))); (case aF => exact (fun _ _ => trivial)); (case aO => exact (by (with_reducible repeat (first | apply Ra_ | apply Rn_ | apply Rd_)); exact HO_3.out)); (case aS => exact (below_size (by repeat (first | (with_reducible first | exact HB.out | apply Al_ | apply Dn_ | apply D1_ | refine Bs_ ?_ GE190.out) | exact HB.out)))); (case aL => have := LMc21.out; omega); intro v198 w25 ho hb hg hat; rw [← Ny197.out] at ho; have n0_ := A0_ (blk_grown (g := gb190) (o := .cells #[.int .i64 a0_0, .slice A0_1 l0_1.length c0_1] 26 (0, 0)) (by (with_reducible repeat (first | refine Bn_ ?_ _ | refine Bd_ ?_ | refine Ba_ ?_ _)); exact BK190.out) hg (Kd.R_ne HO_3.out BK190.out (by decide))); have n1_ := A0_ (hb); have n2_ := A0_ (ho); clear BK190 HB HO_3; have BK190 := n0_; have HB := n1_; have HO199 := n2_; clear n0_ n1_ n2_ ho hb hg hat))
           repeat (go_quiet (first | (go_at_call 52; (with_reducible refine (r02bit.calls a0_0 _ _ l0_1 x4_1 true _ ?side1 ?side2 A8.out).mono ?_); (case side1 => repeat (first | exact (Kd.C_below HR0_1.out HB.out) | (with_reducible first | refine Kd.C_alloc ?_ _ | refine Kd.C_drewN ?_ _ | refine Kd.C_drew ?_))); (case side2 => exact HC0_1.out); rintro e w23 ⟨rfl, hb⟩; have n0_ := A0_ (Kd.R_below (by (with_reducible repeat (first | apply Ra_ | apply Rn_ | apply Rd_)); exact HO_3.out) hb); have n1_ := A0_ (blk_below (g := gb190) (o := .cells #[.int .i64 a0_0, .slice A0_1 l0_1.length c0_1] 26 (0, 0)) (by (with_reducible repeat (first | refine Bn_ ?_ _ | refine Bd_ ?_ | refine Ba_ ?_ _)); exact BK190.out) hb); have n2_ := A0_ (below_step (by repeat (first | (with_reducible first | exact HB.out | apply Al_ | apply Dn_ | apply D1_ | refine Bs_ ?_ GE190.out) | exact HB.out)) hb); clear HO_3 BK190 HB; have HO_3 := n0_; have BK190 := n1_; have HB := n2_; clear n0_ n1_ n2_; (try clear hb); (try clear hb2); (try clear hk); (try clear hi); obtain ⟨Ao24, co24, eo24⟩ := Kd.R_slice HO_3.out; subst eo24; have p193 : 0 ≤ ((ji11) : Int) := of_decide_eq_true (by first | (with_reducible assumption) | assumption); have q193 : (ji11) < (x3_1.length : Int) := of_decide_eq_true (by first | (with_reducible assumption) | assumption); obtain ⟨ad193, e193, hx193_0, hx193_1⟩ := at_T49 (Kd.R_reads' HO_3.out).2.2 (ji11) p193 q193; cases e193; replace p193 := eq_true p193; replace q193 := eq_true q193; have p194 : 0 ≤ ((ji11) : Int) := of_decide_eq_true (by first | (with_reducible assumption) | assumption); have q194 : (ji11) < (x3_1.length : Int) := of_decide_eq_true (by first | (with_reducible assumption) | assumption); obtain ⟨ad194, e194, hx194_0, hx194_1⟩ := at_T49 (Kd.R_reads' HO_3.out).2.2 (ji11) p194 q194; obtain rfl : ad193 = ad194 := (by injection e194); replace p194 := eq_true p194; replace q194 := eq_true q194) | ((with_reducible refine gate_builtin (b := .append) (xs := #[.tmp 49, .tmp 52]) rfl ?_); at_builtin; refine Kd.R_append k49 (w0 := w) w.heap.size rfl (.tmp 49) (.tmp 52) 56 49 (.agg #[(.int .i64 0), (.int .i64 0)]) 16 rfl Tryd.underlying56 info49 rfl (by decide) (by omega) (.slice (some ad193) x3_1.length co24) x3_1 (⟨x4_1, 1⟩ : S49) [.int .i64 x4_1, .int .i64 1] (fun _ => True) (fun _ => False) rfl rfl ?aP (fun _ hk => hk.elim) ?aF ?aO ?aB ?aS ?aL ?_; (case aP => exact k49_mkM _ _ _ (⟨x4_1, 1⟩ : S49)); (case aB => exact (by repeat (first | (with_reducible first | exact HB.out | apply Al_ | apply Dn_ | apply D1_ | refine Bs_ ?_ GE190.out) | exact HB.out))); (case aF => exact (fun _ _ => trivial)); (case aO => exact (by (with_reducible repeat (first | apply Ra_ | apply Rn_ | apply Rd_)); exact HO_3.out)); (case aS => exact (below_size (by repeat (first | (with_reducible first | exact HB.out | apply Al_ | apply Dn_ | apply D1_ | refine Bs_ ?_ GE190.out) | exact HB.out)))); (case aL => have := LMc21.out; omega); intro v198 w25 ho hb hg hat; rw [← Ny197.out] at ho; have n0_ := A0_ (blk_grown (g := gb190) (o := .cells #[.int .i64 a0_0, .slice A0_1 l0_1.length c0_1] 26 (0, 0)) (by (with_reducible repeat (first | refine Bn_ ?_ _ | refine Bd_ ?_ | refine Ba_ ?_ _)); exact BK190.out) hg (Kd.R_ne HO_3.out BK190.out (by decide))); have n1_ := A0_ (hb); have n2_ := A0_ (ho); clear BK190 HB HO_3; have BK190 := n0_; have HB := n1_; have HO199 := n2_; clear n0_ n1_ n2_ ho hb hg hat)); try go_wp2_with (first | (go_at_call 52; (with_reducible refine (r02bit.calls a0_0 _ _ l0_1 x4_1 true _ ?side1 ?side2 A8.out).mono ?_); (case side1 => repeat (first | exact (Kd.C_below HR0_1.out HB.out) | (with_reducible first | refine Kd.C_alloc ?_ _ | refine Kd.C_drewN ?_ _ | refine Kd.C_drew ?_))); (case side2 => exact HC0_1.out); rintro e w23 ⟨rfl, hb⟩; have n0_ := A0_ (Kd.R_below (by (with_reducible repeat (first | apply Ra_ | apply Rn_ | apply Rd_)); exact HO_3.out) hb); have n1_ := A0_ (blk_below (g := gb190) (o := .cells #[.int .i64 a0_0, .slice A0_1 l0_1.length c0_1] 26 (0, 0)) (by (with_reducible repeat (first | refine Bn_ ?_ _ | refine Bd_ ?_ | refine Ba_ ?_ _)); exact BK190.out) hb); have n2_ := A0_ (below_step (by repeat (first | (with_reducible first | exact HB.out | apply Al_ | apply Dn_ | apply D1_ | refine Bs_ ?_ GE190.out) | exact HB.out)) hb); clear HO_3 BK190 HB; have HO_3 := n0_; have BK190 := n1_; have HB := n2_; clear n0_ n1_ n2_; (try clear hb); (try clear hb2); (try clear hk); (try clear hi); obtain ⟨Ao24, co24, eo24⟩ := Kd.R_slice HO_3.out; subst eo24; have p193 : 0 ≤ ((ji11) : Int) := of_decide_eq_true (by first | (with_reducible assumption) | assumption); have q193 : (ji11) < (x3_1.length : Int) := of_decide_eq_true (by first | (with_reducible assumption) | assumption); obtain ⟨ad193, e193, hx193_0, hx193_1⟩ := at_T49 (Kd.R_reads' HO_3.out).2.2 (ji11) p193 q193; cases e193; replace p193 := eq_true p193; replace q193 := eq_true q193; have p194 : 0 ≤ ((ji11) : Int) := of_decide_eq_true (by first | (with_reducible assumption) | assumption); have q194 : (ji11) < (x3_1.length : Int) := of_decide_eq_true (by first | (with_reducible assumption) | assumption); obtain ⟨ad194, e194, hx194_0, hx194_1⟩ := at_T49 (Kd.R_reads' HO_3.out).2.2 (ji11) p194 q194; obtain rfl : ad193 = ad194 := (by injection e194); replace p194 := eq_true p194; replace q194 := eq_true q194) | ((with_reducible refine gate_builtin (b := .append) (xs := #[.tmp 49, .tmp 52]) rfl ?_); at_builtin; refine Kd.R_append k49 (w0 := w) w.heap.size rfl (.tmp 49) (.tmp 52) 56 49 (.agg #[(.int .i64 0), (.int .i64 0)]) 16 rfl Tryd.underlying56 info49 rfl (by decide) (by omega) (.slice (some ad193) x3_1.length co24) x3_1 (⟨x4_1, 1⟩ : S49) [.int .i64 x4_1, .int .i64 1] (fun _ => True) (fun _ => False) rfl rfl ?aP (fun _ hk => hk.elim) ?aF ?aO ?aB ?aS ?aL ?_; (case aP => exact k49_mkM _ _ _ (⟨x4_1, 1⟩ : S49)); (case aB => exact (by repeat (first | (with_reducible first | exact HB.out | apply Al_ | apply Dn_ | apply D1_ | refine Bs_ ?_ GE190.out) | exact HB.out))); (case aF => exact (fun _ _ => trivial)); (case aO => exact (by (with_reducible repeat (first | apply Ra_ | apply Rn_ | apply Rd_)); exact HO_3.out)); (case aS => exact (below_size (by repeat (first | (with_reducible first | exact HB.out | apply Al_ | apply Dn_ | apply D1_ | refine Bs_ ?_ GE190.out) | exact HB.out)))); (case aL => have := LMc21.out; omega); intro v198 w25 ho hb hg hat; rw [← Ny197.out] at ho; have n0_ := A0_ (blk_grown (g := gb190) (o := .cells #[.int .i64 a0_0, .slice A0_1 l0_1.length c0_1] 26 (0, 0)) (by (with_reducible repeat (first | refine Bn_ ?_ _ | refine Bd_ ?_ | refine Ba_ ?_ _)); exact BK190.out) hg (Kd.R_ne HO_3.out BK190.out (by decide))); have n1_ := A0_ (hb); have n2_ := A0_ (ho); clear BK190 HB HO_3; have BK190 := n0_; have HB := n1_; have HO199 := n2_; clear n0_ n1_ n2_ ho hb hg hat)))
           go_roundg k1
           case measure => have := HK1.out; omega
           case rel => exact ⟨(y197), (wrap64 (x4_1 + 1)), (by first | rfl | (simp; done) | (simp [*]; done)), H', ⟨by have := HK1.out; omega⟩, ⟨by (with_reducible repeat (first | apply Ra_ | apply Rn_ | apply Rd_)); exact HO199.out⟩, ⟨by (with_reducible repeat (first | refine Bn_ ?_ _ | refine Bd_ ?_ | refine Ba_ ?_ _)); exact BK190.out⟩, ⟨by repeat (first | (with_reducible first | exact HB.out | apply Al_ | apply Dn_ | apply D1_ | refine Bs_ ?_ GE190.out) | exact HB.out)⟩⟩
          ·
           rw [if_neg c21] at H
           exact absurd H (by simp)
        ·
         rw [if_neg c13] at H
         exact absurd H (by simp)
       ·
        rw [if_neg c12] at H
        exact absurd H (by simp)
      ·
       rw [if_neg c10] at H
       have c10b0 : decide (0 < (x3_1.length : Int)) = false := decide_eq_false c10
       have c10b1 : decide (0 < x3_1.length) = false := decide_eq_false (by omega)
       clear c10
       by_cases c26 : x3_1.length < 8796093022208
       ·
        rw [if_pos c26] at H
        have LMc26 := A0_ c26
        clear c26
        obtain ⟨y200, hy200⟩ : ∃ y_ : List (S49), y_ = (x3_1 ++ [(⟨x4_1, 1⟩ : S49)]) := ⟨_, rfl⟩
        replace H : (r02Extents.l0 k1 y200 (wrap64 (x4_1 + 1)) a0_0 l0_1) = some r := by first | (rw [hy200]; with_reducible exact H) | (have H2_ := (Option.bind_some _ _).symm.trans H; rw [hy200]; with_reducible exact H2_) | (have H2_ := (Option.bind_some _ _).symm.trans H; with_reducible exact H2_) | with_reducible exact H | (rw [hy200]; exact H) | exact H
        have Ny200 := A0_ hy200
        clear hy200
        have H' := A0_ H
        clear H
        have hcz27_0 : wr.cell? ⟨gb190, 0, none⟩ = some (.int .i64 a0_0) := (Bc_ BK190.out 0).trans rfl
        have hcz27_1 : wr.cell? ⟨gb190, 1, none⟩ = some (.slice A0_1 l0_1.length c0_1) := (Bc_ BK190.out 1).trans rfl
        have hfz27_0 := Bf_ BK190.out 0
        have hfz27_1 := Bf_ BK190.out 1
        go_wp2_with (first | (go_at_call 52; (with_reducible refine (r02bit.calls a0_0 _ _ l0_1 x4_1 true _ ?side1 ?side2 A8.out).mono ?_); (case side1 => repeat (first | exact (Kd.C_below HR0_1.out HB.out) | (with_reducible first | refine Kd.C_alloc ?_ _ | refine Kd.C_drewN ?_ _ | refine Kd.C_drew ?_))); (case side2 => exact HC0_1.out); rintro e w28 ⟨rfl, hb⟩; have n0_ := A0_ (Kd.R_below (by (with_reducible repeat (first | apply Ra_ | apply Rn_ | apply Rd_)); exact HO_3.out) hb); have n1_ := A0_ (blk_below (g := gb190) (o := .cells #[.int .i64 a0_0, .slice A0_1 l0_1.length c0_1] 26 (0, 0)) (by (with_reducible repeat (first | refine Bn_ ?_ _ | refine Bd_ ?_ | refine Ba_ ?_ _)); exact BK190.out) hb); have n2_ := A0_ (below_step (by repeat (first | (with_reducible first | exact HB.out | apply Al_ | apply Dn_ | apply D1_ | refine Bs_ ?_ GE190.out) | exact HB.out)) hb); clear HO_3 BK190 HB; have HO_3 := n0_; have BK190 := n1_; have HB := n2_; clear n0_ n1_ n2_; (try clear hb); (try clear hb2); (try clear hk); (try clear hi); obtain ⟨Ao29, co29, eo29⟩ := Kd.R_slice HO_3.out; subst eo29) | ((with_reducible refine gate_builtin (b := .append) (xs := #[.tmp 49, .tmp 52]) rfl ?_); at_builtin; refine Kd.R_append k49 (w0 := w) w.heap.size rfl (.tmp 49) (.tmp 52) 56 49 (.agg #[(.int .i64 0), (.int .i64 0)]) 16 rfl Tryd.underlying56 info49 rfl (by decide) (by omega) (.slice Ao29 x3_1.length co29) x3_1 (⟨x4_1, 1⟩ : S49) [.int .i64 x4_1, .int .i64 1] (fun _ => True) (fun _ => False) rfl rfl ?aP (fun _ hk => hk.elim) ?aF ?aO ?aB ?aS ?aL ?_; (case aP => exact k49_mkM _ _ _ (⟨x4_1, 1⟩ : S49)); (case aB => exact (by repeat (first | (with_reducible first | exact HB.out | apply Al_ | apply Dn_ | apply D1_ | refine Bs_ ?_ GE190.out) | exact HB.out))); (case aF => exact (fun _ _ => trivial)); (case aO => exact (by (with_reducible repeat (first | apply Ra_ | apply Rn_ | apply Rd_)); exact HO_3.out)); (case aS => exact (below_size (by repeat (first | (with_reducible first | exact HB.out | apply Al_ | apply Dn_ | apply D1_ | refine Bs_ ?_ GE190.out) | exact HB.out)))); (case aL => have := LMc26.out; omega); intro v201 w30 ho hb hg hat; rw [← Ny200.out] at ho; have n0_ := A0_ (blk_grown (g := gb190) (o := .cells #[.int .i64 a0_0, .slice A0_1 l0_1.length c0_1] 26 (0, 0)) (by (with_reducible repeat (first | refine Bn_ ?_ _ | refine Bd_ ?_ | refine Ba_ ?_ _)); exact BK190.out) hg (Kd.R_ne HO_3.out BK190.out (by decide))); have n1_ := A0_ (hb); have n2_ := A0_ (ho); clear BK190 HB HO_3; have BK190 := n0_; have HB := n1_; have HO202 := n2_; clear n0_ n1_ n2_ ho hb hg hat))
        repeat (go_quiet (first | (go_at_call 52; (with_reducible refine (r02bit.calls a0_0 _ _ l0_1 x4_1 true _ ?side1 ?side2 A8.out).mono ?_); (case side1 => repeat (first | exact (Kd.C_below HR0_1.out HB.out) | (with_reducible first | refine Kd.C_alloc ?_ _ | refine Kd.C_drewN ?_ _ | refine Kd.C_drew ?_))); (case side2 => exact HC0_1.out); rintro e w28 ⟨rfl, hb⟩; have n0_ := A0_ (Kd.R_below (by (with_reducible repeat (first | apply Ra_ | apply Rn_ | apply Rd_)); exact HO_3.out) hb); have n1_ := A0_ (blk_below (g := gb190) (o := .cells #[.int .i64 a0_0, .slice A0_1 l0_1.length c0_1] 26 (0, 0)) (by (with_reducible repeat (first | refine Bn_ ?_ _ | refine Bd_ ?_ | refine Ba_ ?_ _)); exact BK190.out) hb); have n2_ := A0_ (below_step (by repeat (first | (with_reducible first | exact HB.out | apply Al_ | apply Dn_ | apply D1_ | refine Bs_ ?_ GE190.out) | exact HB.out)) hb); clear HO_3 BK190 HB; have HO_3 := n0_; have BK190 := n1_; have HB := n2_; clear n0_ n1_ n2_; (try clear hb); (try clear hb2); (try clear hk); (try clear hi); obtain ⟨Ao29, co29, eo29⟩ := Kd.R_slice HO_3.out; subst eo29) | ((with_reducible refine gate_builtin (b := .append) (xs := #[.tmp 49, .tmp 52]) rfl ?_); at_builtin; refine Kd.R_append k49 (w0 := w) w.heap.size rfl (.tmp 49) (.tmp 52) 56 49 (.agg #[(.int .i64 0), (.int .i64 0)]) 16 rfl Tryd.underlying56 info49 rfl (by decide) (by omega) (.slice Ao29 x3_1.length co29) x3_1 (⟨x4_1, 1⟩ : S49) [.int .i64 x4_1, .int .i64 1] (fun _ => True) (fun _ => False) rfl rfl ?aP (fun _ hk => hk.elim) ?aF ?aO ?aB ?aS ?aL ?_; (case aP => exact k49_mkM _ _ _ (⟨x4_1, 1⟩ : S49)); (case aB => exact (by repeat (first | (with_reducible first | exact HB.out | apply Al_ | apply Dn_ | apply D1_ | refine Bs_ ?_ GE190.out) | exact HB.out))); (case aF => exact (fun _ _ => trivial)); (case aO => exact (by (with_reducible repeat (first | apply Ra_ | apply Rn_ | apply Rd_)); exact HO_3.out)); (case aS => exact (below_size (by repeat (first | (with_reducible first | exact HB.out | apply Al_ | apply Dn_ | apply D1_ | refine Bs_ ?_ GE190.out) | exact HB.out)))); (case aL => have := LMc26.out; omega); intro v201 w30 ho hb hg hat; rw [← Ny200.out] at ho; have n0_ := A0_ (blk_grown (g := gb190) (o := .cells #[.int .i64 a0_0, .slice A0_1 l0_1.length c0_1] 26 (0, 0)) (by (with_reducible repeat (first | refine Bn_ ?_ _ | refine Bd_ ?_ | refine Ba_ ?_ _)); exact BK190.out) hg (Kd.R_ne HO_3.out BK190.out (by decide))); have n1_ := A0_ (hb); have n2_ := A0_ (ho); clear BK190 HB HO_3; have BK190 := n0_; have HB := n1_; have HO202 := n2_; clear n0_ n1_ n2_ ho hb hg hat)); try go_wp2_with (first | (go_at_call 52; (with_reducible refine (r02bit.calls a0_0 _ _ l0_1 x4_1 true _ ?side1 ?side2 A8.out).mono ?_); (case side1 => repeat (first | exact (Kd.C_below HR0_1.out HB.out) | (with_reducible first | refine Kd.C_alloc ?_ _ | refine Kd.C_drewN ?_ _ | refine Kd.C_drew ?_))); (case side2 => exact HC0_1.out); rintro e w28 ⟨rfl, hb⟩; have n0_ := A0_ (Kd.R_below (by (with_reducible repeat (first | apply Ra_ | apply Rn_ | apply Rd_)); exact HO_3.out) hb); have n1_ := A0_ (blk_below (g := gb190) (o := .cells #[.int .i64 a0_0, .slice A0_1 l0_1.length c0_1] 26 (0, 0)) (by (with_reducible repeat (first | refine Bn_ ?_ _ | refine Bd_ ?_ | refine Ba_ ?_ _)); exact BK190.out) hb); have n2_ := A0_ (below_step (by repeat (first | (with_reducible first | exact HB.out | apply Al_ | apply Dn_ | apply D1_ | refine Bs_ ?_ GE190.out) | exact HB.out)) hb); clear HO_3 BK190 HB; have HO_3 := n0_; have BK190 := n1_; have HB := n2_; clear n0_ n1_ n2_; (try clear hb); (try clear hb2); (try clear hk); (try clear hi); obtain ⟨Ao29, co29, eo29⟩ := Kd.R_slice HO_3.out; subst eo29) | ((with_reducible refine gate_builtin (b := .append) (xs := #[.tmp 49, .tmp 52]) rfl ?_); at_builtin; refine Kd.R_append k49 (w0 := w) w.heap.size rfl (.tmp 49) (.tmp 52) 56 49 (.agg #[(.int .i64 0), (.int .i64 0)]) 16 rfl Tryd.underlying56 info49 rfl (by decide) (by omega) (.slice Ao29 x3_1.length co29) x3_1 (⟨x4_1, 1⟩ : S49) [.int .i64 x4_1, .int .i64 1] (fun _ => True) (fun _ => False) rfl rfl ?aP (fun _ hk => hk.elim) ?aF ?aO ?aB ?aS ?aL ?_; (case aP => exact k49_mkM _ _ _ (⟨x4_1, 1⟩ : S49)); (case aB => exact (by repeat (first | (with_reducible first | exact HB.out | apply Al_ | apply Dn_ | apply D1_ | refine Bs_ ?_ GE190.out) | exact HB.out))); (case aF => exact (fun _ _ => trivial)); (case aO => exact (by (with_reducible repeat (first | apply Ra_ | apply Rn_ | apply Rd_)); exact HO_3.out)); (case aS => exact (below_size (by repeat (first | (with_reducible first | exact HB.out | apply Al_ | apply Dn_ | apply D1_ | refine Bs_ ?_ GE190.out) | exact HB.out)))); (case aL => have := LMc26.out; omega); intro v201 w30 ho hb hg hat; rw [← Ny200.out] at ho; have n0_ := A0_ (blk_grown (g := gb190) (o := .cells #[.int .i64 a0_0, .slice A0_1 l0_1.length c0_1] 26 (0, 0)) (by (with_reducible repeat (first | refine Bn_ ?_ _ | refine Bd_ ?_ | refine Ba_ ?_ _)); exact BK190.out) hg (Kd.R_ne HO_3.out BK190.out (by decide))); have n1_ := A0_ (hb); have n2_ := A0_ (ho); clear BK190 HB HO_3; have BK190 := n0_; have HB := n1_; have HO202 := n2_; clear n0_ n1_ n2_ ho hb hg hat)))
        go_roundg k1
        case measure => have := HK1.out; omega
        case rel => exact ⟨(y200), (wrap64 (x4_1 + 1)), (by first | rfl | (simp; done) | (simp [*]; done)), H', ⟨by have := HK1.out; omega⟩, ⟨by (with_reducible repeat (first | apply Ra_ | apply Rn_ | apply Rd_)); exact HO202.out⟩, ⟨by (with_reducible repeat (first | refine Bn_ ?_ _ | refine Bd_ ?_ | refine Ba_ ?_ _)); exact BK190.out⟩, ⟨by repeat (first | (with_reducible first | exact HB.out | apply Al_ | apply Dn_ | apply D1_ | refine Bs_ ?_ GE190.out) | exact HB.out)⟩⟩
       ·
        rw [if_neg c26] at H
        exact absurd H (by simp)
     ·
      replace c9 := Bool.eq_false_iff.mpr c9
      subst c9
      have H1 : (r02Extents.l0 k1 x3_1 (wrap64 (x4_1 + 1)) a0_0 l0_1) = some r := by rw [if_neg (show ¬ (false = true) by decide)] at H; exact H
      clear H
      have H := H1
      clear H1
      have H' := A0_ H
      clear H
      have hcz31_0 : wr.cell? ⟨gb190, 0, none⟩ = some (.int .i64 a0_0) := (Bc_ BK190.out 0).trans rfl
      have hcz31_1 : wr.cell? ⟨gb190, 1, none⟩ = some (.slice A0_1 l0_1.length c0_1) := (Bc_ BK190.out 1).trans rfl
      have hfz31_0 := Bf_ BK190.out 0
      have hfz31_1 := Bf_ BK190.out 1
      go_wp2_with (first | (go_at_call 52; (with_reducible refine (r02bit.calls a0_0 _ _ l0_1 x4_1 false _ ?side1 ?side2 A8.out).mono ?_); (case side1 => repeat (first | exact (Kd.C_below HR0_1.out HB.out) | (with_reducible first | refine Kd.C_alloc ?_ _ | refine Kd.C_drewN ?_ _ | refine Kd.C_drew ?_))); (case side2 => exact HC0_1.out); rintro e w32 ⟨rfl, hb⟩; have n0_ := A0_ (Kd.R_below (by (with_reducible repeat (first | apply Ra_ | apply Rn_ | apply Rd_)); exact HO_3.out) hb); have n1_ := A0_ (blk_below (g := gb190) (o := .cells #[.int .i64 a0_0, .slice A0_1 l0_1.length c0_1] 26 (0, 0)) (by (with_reducible repeat (first | refine Bn_ ?_ _ | refine Bd_ ?_ | refine Ba_ ?_ _)); exact BK190.out) hb); have n2_ := A0_ (below_step (by repeat (first | (with_reducible first | exact HB.out | apply Al_ | apply Dn_ | apply D1_ | refine Bs_ ?_ GE190.out) | exact HB.out)) hb); clear HO_3 BK190 HB; have HO_3 := n0_; have BK190 := n1_; have HB := n2_; clear n0_ n1_ n2_; (try clear hb); (try clear hb2); (try clear hk); (try clear hi)))
      repeat (go_quiet (first | (go_at_call 52; (with_reducible refine (r02bit.calls a0_0 _ _ l0_1 x4_1 false _ ?side1 ?side2 A8.out).mono ?_); (case side1 => repeat (first | exact (Kd.C_below HR0_1.out HB.out) | (with_reducible first | refine Kd.C_alloc ?_ _ | refine Kd.C_drewN ?_ _ | refine Kd.C_drew ?_))); (case side2 => exact HC0_1.out); rintro e w32 ⟨rfl, hb⟩; have n0_ := A0_ (Kd.R_below (by (with_reducible repeat (first | apply Ra_ | apply Rn_ | apply Rd_)); exact HO_3.out) hb); have n1_ := A0_ (blk_below (g := gb190) (o := .cells #[.int .i64 a0_0, .slice A0_1 l0_1.length c0_1] 26 (0, 0)) (by (with_reducible repeat (first | refine Bn_ ?_ _ | refine Bd_ ?_ | refine Ba_ ?_ _)); exact BK190.out) hb); have n2_ := A0_ (below_step (by repeat (first | (with_reducible first | exact HB.out | apply Al_ | apply Dn_ | apply D1_ | refine Bs_ ?_ GE190.out) | exact HB.out)) hb); clear HO_3 BK190 HB; have HO_3 := n0_; have BK190 := n1_; have HB := n2_; clear n0_ n1_ n2_; (try clear hb); (try clear hb2); (try clear hk); (try clear hi))); try go_wp2_with (first | (go_at_call 52; (with_reducible refine (r02bit.calls a0_0 _ _ l0_1 x4_1 false _ ?side1 ?side2 A8.out).mono ?_); (case side1 => repeat (first | exact (Kd.C_below HR0_1.out HB.out) | (with_reducible first | refine Kd.C_alloc ?_ _ | refine Kd.C_drewN ?_ _ | refine Kd.C_drew ?_))); (case side2 => exact HC0_1.out); rintro e w32 ⟨rfl, hb⟩; have n0_ := A0_ (Kd.R_below (by (with_reducible repeat (first | apply Ra_ | apply Rn_ | apply Rd_)); exact HO_3.out) hb); have n1_ := A0_ (blk_below (g := gb190) (o := .cells #[.int .i64 a0_0, .slice A0_1 l0_1.length c0_1] 26 (0, 0)) (by (with_reducible repeat (first | refine Bn_ ?_ _ | refine Bd_ ?_ | refine Ba_ ?_ _)); exact BK190.out) hb); have n2_ := A0_ (below_step (by repeat (first | (with_reducible first | exact HB.out | apply Al_ | apply Dn_ | apply D1_ | refine Bs_ ?_ GE190.out) | exact HB.out)) hb); clear HO_3 BK190 HB; have HO_3 := n0_; have BK190 := n1_; have HB := n2_; clear n0_ n1_ n2_; (try clear hb); (try clear hb2); (try clear hk); (try clear hi))))
      go_roundg k1
      case measure => have := HK1.out; omega
      case rel => exact ⟨(x3_1), (wrap64 (x4_1 + 1)), (by first | rfl | (simp; done) | (simp [*]; done)), H', ⟨by have := HK1.out; omega⟩, ⟨by (with_reducible repeat (first | apply Ra_ | apply Rn_ | apply Rd_)); exact HO_3.out⟩, ⟨by (with_reducible repeat (first | refine Bn_ ?_ _ | refine Bd_ ?_ | refine Ba_ ?_ _)); exact BK190.out⟩, ⟨by repeat (first | (with_reducible first | exact HB.out | apply Al_ | apply Dn_ | apply D1_ | refine Bs_ ?_ GE190.out) | exact HB.out)⟩⟩
    ·
     rw [if_neg c7] at H
     have c7b0 : decide (x4_1 < a0_0) = false := decide_eq_false c7
     clear c7
     obtain rfl := Option.some.inj H
     have hcz33_0 : wr.cell? ⟨gb190, 0, none⟩ = some (.int .i64 a0_0) := (Bc_ BK190.out 0).trans rfl
     have hcz33_1 : wr.cell? ⟨gb190, 1, none⟩ = some (.slice A0_1 l0_1.length c0_1) := (Bc_ BK190.out 1).trans rfl
     have hfz33_0 := Bf_ BK190.out 0
     have hfz33_1 := Bf_ BK190.out 1
     go_wp2
     repeat (go_quiet (fail); try go_wp2)
     go_ret
     exact ⟨_, by first | rfl | (simp [errW_none, errW_some] <;> rfl) | (simp [*, errW_none, errW_some] <;> rfl), by (with_reducible repeat (first | apply Ra_ | apply Rn_ | apply Rd_)); exact HO_3.out, by repeat (first | (with_reducible first | exact HB.out | apply Al_ | apply Dn_ | apply D1_ | refine Bs_ ?_ GE190.out) | exact HB.out)⟩
 ·
  rw [if_neg c3] at H
  have c3b0 : (t191 == 0) = false := beq_eq_false_iff_ne.mpr c3
  have c3b1 : (t191 != 0) = true := bne_iff_ne.mpr c3
  obtain rfl := Option.some.inj H
  go_enter Tryd.func26, Tryd.ntmps26
  go_wp2_with (first | ((with_reducible refine gate_dst (N := 1) rfl ?_); refine box_event ?hg (N := 1) ?hd (cs := #[.int .i64 a0_0, .slice A0_1 l0_1.length c0_1]) (t := 26) ?hr ?_; (case hd => rfl); (case hg => rfl); (case hr => first | (go_simp; done) | (go_simp; rfl)); intro gb190 hg w34 hbox hb; have n0_ := A0_ (below_step (by repeat (first | (with_reducible first | exact HB.out | apply Al_ | apply Dn_ | apply D1_) | exact HB.out)) hb); have n1_ := A0_ (hbox); have n2_ := A0_ ((by rw [hg]; exact (below_size (by repeat (first | (with_reducible first | exact HB.out | apply Al_ | apply Dn_ | apply D1_) | exact HB.out))) : w.heap.size ≤ gb190)); have n3_ := A0_ ((by rw [hg]; exact (below_size (by repeat (first | (with_reducible first | exact HB.out | apply Al_ | apply Dn_ | apply D1_) | exact HB.out))) : w.heap.size ≤ gb190)); clear HB; have HB := n0_; have BK190 := n1_; have GW190 := n2_; have GE190 := n3_; clear n0_ n1_ n2_ n3_ hb hbox hg; have hcz35_0 : w34.cell? ⟨gb190, 0, none⟩ = some (.int .i64 a0_0) := (Bc_ BK190.out 0).trans rfl; have hcz35_1 : w34.cell? ⟨gb190, 1, none⟩ = some (.slice A0_1 l0_1.length c0_1) := (Bc_ BK190.out 1).trans rfl; have hfz35_0 := Bf_ BK190.out 0; have hfz35_1 := Bf_ BK190.out 1) | (go_at_call 51; (with_reducible refine (r02Check.calls k a0_0 _ _ l0_1 t191 _ ?side1 ?side2 A2.out).mono ?_); (case side1 => repeat (first | exact (Kd.C_below HR0_1.out HB.out) | (with_reducible first | refine Kd.C_alloc ?_ _ | refine Kd.C_drewN ?_ _ | refine Kd.C_drew ?_))); (case side2 => exact HC0_1.out); rintro e w36 ⟨rfl, hb⟩; have n0_ := A0_ (blk_below (g := gb190) (o := .cells #[.int .i64 a0_0, .slice A0_1 l0_1.length c0_1] 26 (0, 0)) (by (with_reducible repeat (first | refine Bn_ ?_ _ | refine Bd_ ?_ | refine Ba_ ?_ _)); exact BK190.out) hb); have n1_ := A0_ (below_step (by repeat (first | (with_reducible first | exact HB.out | apply Al_ | apply Dn_ | apply D1_ | refine Bs_ ?_ GE190.out) | exact HB.out)) hb); clear BK190 HB; have BK190 := n0_; have HB := n1_; clear n0_ n1_; (try clear hb); (try clear hb2); (try clear hk); (try clear hi)))
  repeat (go_quiet (first | ((with_reducible refine gate_dst (N := 1) rfl ?_); refine box_event ?hg (N := 1) ?hd (cs := #[.int .i64 a0_0, .slice A0_1 l0_1.length c0_1]) (t := 26) ?hr ?_; (case hd => rfl); (case hg => rfl); (case hr => first | (go_simp; done) | (go_simp; rfl)); intro gb190 hg w34 hbox hb; have n0_ := A0_ (below_step (by repeat (first | (with_reducible first | exact HB.out | apply Al_ | apply Dn_ | apply D1_) | exact HB.out)) hb); have n1_ := A0_ (hbox); have n2_ := A0_ ((by rw [hg]; exact (below_size (by repeat (first | (with_reducible first | exact HB.out | apply Al_ | apply Dn_ | apply D1_) | exact HB.out))) : w.heap.size ≤ gb190)); have n3_ := A0_ ((by rw [hg]; exact (below_size (by repeat (first | (with_reducible first | exact HB.out | apply Al_ | apply Dn_ | apply D1_) | exact HB.out))) : w.heap.size ≤ gb190)); clear HB; have HB := n0_; have BK190 := n1_; have GW190 := n2_; have GE190 := n3_; clear n0_ n1_ n2_ n3_ hb hbox hg; have hcz35_0 : w34.cell? ⟨gb190, 0, none⟩ = some (.int .i64 a0_0) := (Bc_ BK190.out 0).trans rfl; have hcz35_1 : w34.cell? ⟨gb190, 1, none⟩ = some (.slice A0_1 l0_1.length c0_1) := (Bc_ BK190.out 1).trans rfl; have hfz35_0 := Bf_ BK190.out 0; have hfz35_1 := Bf_ BK190.out 1) | (go_at_call 51; (with_reducible refine (r02Check.calls k a0_0 _ _ l0_1 t191 _ ?side1 ?side2 A2.out).mono ?_); (case side1 => repeat (first | exact (Kd.C_below HR0_1.out HB.out) | (with_reducible first | refine Kd.C_alloc ?_ _ | refine Kd.C_drewN ?_ _ | refine Kd.C_drew ?_))); (case side2 => exact HC0_1.out); rintro e w36 ⟨rfl, hb⟩; have n0_ := A0_ (blk_below (g := gb190) (o := .cells #[.int .i64 a0_0, .slice A0_1 l0_1.length c0_1] 26 (0, 0)) (by (with_reducible repeat (first | refine Bn_ ?_ _ | refine Bd_ ?_ | refine Ba_ ?_ _)); exact BK190.out) hb); have n1_ := A0_ (below_step (by repeat (first | (with_reducible first | exact HB.out | apply Al_ | apply Dn_ | apply D1_ | refine Bs_ ?_ GE190.out) | exact HB.out)) hb); clear BK190 HB; have BK190 := n0_; have HB := n1_; clear n0_ n1_; (try clear hb); (try clear hb2); (try clear hk); (try clear hi))); try go_wp2_with (first | ((with_reducible refine gate_dst (N := 1) rfl ?_); refine box_event ?hg (N := 1) ?hd (cs := #[.int .i64 a0_0, .slice A0_1 l0_1.length c0_1]) (t := 26) ?hr ?_; (case hd => rfl); (case hg => rfl); (case hr => first | (go_simp; done) | (go_simp; rfl)); intro gb190 hg w34 hbox hb; have n0_ := A0_ (below_step (by repeat (first | (with_reducible first | exact HB.out | apply Al_ | apply Dn_ | apply D1_) | exact HB.out)) hb); have n1_ := A0_ (hbox); have n2_ := A0_ ((by rw [hg]; exact (below_size (by repeat (first | (with_reducible first | exact HB.out | apply Al_ | apply Dn_ | apply D1_) | exact HB.out))) : w.heap.size ≤ gb190)); have n3_ := A0_ ((by rw [hg]; exact (below_size (by repeat (first | (with_reducible first | exact HB.out | apply Al_ | apply Dn_ | apply D1_) | exact HB.out))) : w.heap.size ≤ gb190)); clear HB; have HB := n0_; have BK190 := n1_; have GW190 := n2_; have GE190 := n3_; clear n0_ n1_ n2_ n3_ hb hbox hg; have hcz35_0 : w34.cell? ⟨gb190, 0, none⟩ = some (.int .i64 a0_0) := (Bc_ BK190.out 0).trans rfl; have hcz35_1 : w34.cell? ⟨gb190, 1, none⟩ = some (.slice A0_1 l0_1.length c0_1) := (Bc_ BK190.out 1).trans rfl; have hfz35_0 := Bf_ BK190.out 0; have hfz35_1 := Bf_ BK190.out 1) | (go_at_call 51; (with_reducible refine (r02Check.calls k a0_0 _ _ l0_1 t191 _ ?side1 ?side2 A2.out).mono ?_); (case side1 => repeat (first | exact (Kd.C_below HR0_1.out HB.out) | (with_reducible first | refine Kd.C_alloc ?_ _ | refine Kd.C_drewN ?_ _ | refine Kd.C_drew ?_))); (case side2 => exact HC0_1.out); rintro e w36 ⟨rfl, hb⟩; have n0_ := A0_ (blk_below (g := gb190) (o := .cells #[.int .i64 a0_0, .slice A0_1 l0_1.length c0_1] 26 (0, 0)) (by (with_reducible repeat (first | refine Bn_ ?_ _ | refine Bd_ ?_ | refine Ba_ ?_ _)); exact BK190.out) hb); have n1_ := A0_ (below_step (by repeat (first | (with_reducible first | exact HB.out | apply Al_ | apply Dn_ | apply D1_ | refine Bs_ ?_ GE190.out) | exact HB.out)) hb); clear BK190 HB; have BK190 := n0_; have HB := n1_; clear n0_ n1_; (try clear hb); (try clear hb2); (try clear hk); (try clear hi))))
  go_ret
  exact ⟨_, by first | rfl | (simp [errW_none, errW_some] <;> rfl) | (simp [*, errW_none, errW_some] <;> rfl), by first | exact Kd.R_nil _ _ _ _ _ | exact Kd.N_nil _ _ _ _ _ | exact Kd.V_nil _ _ _ _ _ | exact Kd.Q_nil _ _ _ _ _ | exact Kd.S_nil _ _ _ _ _, by repeat (first | (with_reducible first | exact HB.out | apply Al_ | apply Dn_ | apply D1_ | refine Bs_ ?_ GE190.out) | exact HB.out)⟩
end Go.Proofs.YtnjbdcnefienhaaDoor.P

namespace Go.Proofs.YtnjbdcnefienhaaDoor.P
open Go.RowKit Go.Proofs.YtnjbdcnefienhaaDoorW.PrintWords Go.Proofs.YtnjbdcnefienhaaDoorW.PrintLast Go.Proofs.YtnjbdcnefienhaaDoorW.PrintMore
def l17awake.f : Option Bool := some true
structure IW (w : World) (g : Nat) (sz gr : Int) (A : Option Addr) (c : Nat) (act : List Int) (ms : Int) (B : Option Addr) (d : Nat) (mw : List Int) (W : World) : Prop where
  box : W.heap[g]? = some (.cells #[.int .i64 sz, .int .i64 gr, .slice A act.length c, .int .i64 ms, .slice B mw.length d] 28 (0, 0))
  ra : Kd.V (Kd.int .i64) 3 W 0 (fun k => k ≠ g) (.slice A act.length c) act
  rm : Kd.V (Kd.int .u64) 90 W 0 (fun k => k ≠ g) (.slice B mw.length d) mw
  below : Below w.heap.size w W
  ge : w.heap.size ≤ g
theorem IW.step {w : World} {g : Nat} {sz gr : Int} {A : Option Addr} {c : Nat} {act : List Int} {ms : Int} {B : Option Addr} {d : Nat} {mw : List Int} {W X : World} (h : IW w g sz gr A c act ms B d mw W) (hb : Below W.heap.size W X) : IW w g sz gr A c act ms B d mw X :=
  ⟨blk_of_below h.box hb, Kd.V_below h.ra hb, Kd.V_below h.rm hb, below_step h.below hb, h.ge⟩
theorem IW.put {w : World} {g : Nat} {sz gr : Int} {A : Option Addr} {c : Nat} {act : List Int} {ms : Int} {B : Option Addr} {d : Nat} {mw : List Int} {W : World} (h : IW w g sz gr A c act ms B d mw W)
    {sz' gr' : Int} {A' : Option Addr} {c' : Nat} {act' : List Int} {ms' : Int} {B' : Option Addr} {d' : Nat} {mw' : List Int} (ra : Kd.V (Kd.int .i64) 3 W 0 (fun k => k ≠ g) (.slice A' act'.length c') act') (rm : Kd.V (Kd.int .u64) 90 W 0 (fun k => k ≠ g) (.slice B' mw'.length d') mw') :
    IW w g sz' gr' A' c' act' ms' B' d' mw' (((((W.setCell ⟨g, 0, none⟩ (.int .i64 sz')).setCell ⟨g, 1, none⟩ (.int .i64 gr')).setCell ⟨g, 2, none⟩ (.slice A' act'.length c')).setCell ⟨g, 3, none⟩ (.int .i64 ms')).setCell ⟨g, 4, none⟩ (.slice B' mw'.length d')) := by
  refine ⟨?_, ?_, ?_, ?_, h.ge⟩
  · exact blkPut (cs := #[.int .i64 sz', .int .i64 gr', .slice A' act'.length c', .int .i64 ms', .slice B mw.length d]) (blkPut (cs := #[.int .i64 sz', .int .i64 gr', .slice A' act'.length c', .int .i64 ms, .slice B mw.length d]) (blkPut (cs := #[.int .i64 sz', .int .i64 gr', .slice A act.length c, .int .i64 ms, .slice B mw.length d]) (blkPut (cs := #[.int .i64 sz', .int .i64 gr, .slice A act.length c, .int .i64 ms, .slice B mw.length d]) (blkPut h.box rfl) rfl) rfl) rfl) rfl
  · iterate 5 refine Kd.V_far ?_ (fun _ hk => hk) _
    exact ra
  · iterate 5 refine Kd.V_far ?_ (fun _ hk => hk) _
    exact rm
  · iterate 5 refine setC ?_ h.ge _
    exact h.below
theorem R_off {α : Type} {d : Kd α} {e base base' g t : Nat} {W : World} {ok : Nat → Prop} {v : Value} {xs : List α} {cells : Array Value} (h : d.R e W base ok v xs) (hb : W.heap[g]? = some (.cells cells t (0, 0))) (ht : ∀ q, q ∈ e :: d.E → q ≠ t) : Kd.V d e W base' (fun k => k ≠ g) v xs :=
  Kd.V_mono (Kd.R_V (Kd.R_types h hb ht)) (fun _ hk => hk.2)
theorem IW.new {w W : World} (hB : Below w.heap.size w W) {sz gr : Int} {A : Option Addr} {c : Nat} {act : List Int} {ms : Int} {B : Option Addr} {d : Nat} {mw : List Int} {b b' : Nat} {p p' : Nat → Prop} (ra : Kd.R (Kd.int .i64) 3 W b p (.slice A act.length c) act) (rm : Kd.R (Kd.int .u64) 90 W b' p' (.slice B mw.length d) mw) :
    IW w W.heap.size sz gr A c act ms B d mw (W.alloc (.cells #[.int .i64 sz, .int .i64 gr, .slice A act.length c, .int .i64 ms, .slice B mw.length d] 28)) :=
  ⟨heap_alloc_new W _, Kd.V_mono (Kd.V_alloc (Kd.R_V (Kd.R_bound ra)) _) (fun k hk => by have := hk.2.2.1; omega), Kd.V_mono (Kd.V_alloc (Kd.R_V (Kd.R_bound rm)) _) (fun k hk => by have := hk.2.2.1; omega), below_alloc hB _, hB.size⟩
theorem V_base {α : Type} {d : Kd α} {e b b' : Nat} {W : World} {ok : Nat → Prop} {v : Value} {xs : List α} (h : Kd.V d e W b ok v xs) : Kd.V d e W b' ok v xs := Kd.V_map h (fun _ hf => hf)
theorem drawn_below {w w' : World} (h : Drawn0 w w') : Below w.heap.size w w' := h.below
theorem one_ext (W : World) (a b : Int) : Kd.C k49 (W.alloc (.cells #[.int .i64 a, .int .i64 b] 49)) (some ⟨W.heap.size, 0, none⟩) 1 [⟨a, b⟩] := by
  refine ⟨rfl, by decide, fun _ => ⟨_, rfl, fun j p hj => ?_⟩⟩
  have hjl : j = 0 := by
    have := (List.getElem?_eq_some_iff.1 hj).1
    simp at this
    exact this
  subst hjl
  obtain rfl : (⟨a, b⟩ : S49) = p := by simpa using hj
  refine ⟨[.int .i64 a, .int .i64 b], rfl, k49_mk _ _, fun i u hu => ?_⟩
  have := cells_two_new W (.int .i64 a) (.int .i64 b) 49 i u hu
  simpa using this
theorem ints_at {W : World} {A : Option Addr} {l : List Int} (h : Kd.C (Kd.int .i64) W A l.length l) (h0 : 0 < l.length) : ∃ ad, A = some ad ∧ ∀ (j : Nat) (hj : j < l.length), W.cell? (ad.add j) = some (.int .i64 l[j]) := by
  obtain ⟨ad, e, hc⟩ := h.2.2 h0
  refine ⟨ad, e, fun j hj => ?_⟩
  obtain ⟨cs, hl, hk, hcell⟩ := hc j _ (List.getElem?_eq_getElem hj)
  have hcs : cs = [Value.int .i64 l[j]] := hk
  subst hcs
  have := hcell 0 _ rfl
  simpa [show (Kd.int .i64).sz = 1 from rfl] using this
set_option maxHeartbeats 8000000 in
set_option maxRecDepth 100000 in
theorem l17awake.calls  (r : Bool) (w : World) (hG : TabOK w) (h : l17awake.f  = some r) :
  Calls Tryd.prog 8 #[] w fun e w' => e = .returned (.bool r) ∧ Below w.heap.size w w' := by
  obtain rfl : true = r := Option.some.inj h
  clear h
  have HG := Aside0.mk hG
  clear hG
  go_enter Tryd.func8, Tryd.ntmps8
  go_wp2_with fail
  refine (iNew.calls 20 8 20 8 [0, 0, 0] 3 [0] 0 w (by kernel_rfl)).mono ?_
  rintro e w1 ⟨v2, v4, rfl, hR2, hR4, hb1⟩
  obtain ⟨A2, c2, rfl⟩ := Kd.R_slice hR2
  obtain ⟨A4, c4, rfl⟩ := Kd.R_slice hR4
  have I1 := IW.new (sz := 20) (gr := 8) (ms := 3) hb1 hR2 hR4
  have HI1 := Aside0.mk I1
  clear hR2 hR4 hb1 I1
  go_wp2_with fail
  refine (iBegin.calls 20 8 A2 c2 [0, 0, 0] 3 A4 c4 [0] 6 4 20 8 [1, 1, 0] 3 [3] true 0 _ (Kd.V_reads' HI1.out.ra).2.2 (Kd.V_reads' HI1.out.ra).2.1 (Kd.V_reads' HI1.out.rm).2.2 (Kd.V_reads' HI1.out.rm).2.1 (by kernel_rfl)).mono ?_
  rintro e w2 ⟨v2, v4, rfl, hR2, hR4, hb2⟩
  obtain ⟨A2', c2', rfl⟩ := Kd.R_slice hR2
  obtain ⟨A4', c4', rfl⟩ := Kd.R_slice hR4
  have I2 := HI1.out.step hb2
  obtain ⟨e00, e01, e02, e03, e04, f00, f01, f02, f03, f04⟩ := cells5' I2.box
  have HI2 := Aside0.mk (I2.put (sz' := 20) (gr' := 8) (ms' := 3) (R_off hR2 I2.box (by decide)) (R_off hR4 I2.box (by decide)))
  clear hR2 hR4 hb2 I2 HI1
  go_wp2_with fail
  clear e00 e01 e02 e03 e04 f00 f01 f02 f03 f04
  refine (iBegin.calls 20 8 A2' c2' [1, 1, 0] 3 A4' c4' [3] 9 1 20 8 [1, 2, 0] 3 [3] false 0 _ (Kd.V_reads' HI2.out.ra).2.2 (Kd.V_reads' HI2.out.ra).2.1 (Kd.V_reads' HI2.out.rm).2.2 (Kd.V_reads' HI2.out.rm).2.1 (by kernel_rfl)).mono ?_
  rintro e w3 ⟨v2, v4, rfl, hR2, hR4, hb2⟩
  obtain ⟨A5, c5, rfl⟩ := Kd.R_slice hR2
  obtain ⟨A6, c6, rfl⟩ := Kd.R_slice hR4
  have I2 := HI2.out.step hb2
  obtain ⟨e00, e01, e02, e03, e04, f00, f01, f02, f03, f04⟩ := cells5' I2.box
  have HI3 := Aside0.mk (I2.put (sz' := 20) (gr' := 8) (ms' := 3) (R_off hR2 I2.box (by decide)) (R_off hR4 I2.box (by decide)))
  clear hR2 hR4 hb2 I2 HI2
  go_wp2_with fail
  clear e00 e01 e02 e03 e04 f00 f01 f02 f03 f04
  refine (iEncode.calls 300 20 8 A5 c5 [1, 2, 0] 3 A6 c6 [3] [20, 8, 1, 0, 2] _ (HG.out.below HI3.out.below) (Kd.V_reads' HI3.out.ra).2.2 (Kd.V_reads' HI3.out.ra).2.1 (Kd.V_reads' HI3.out.rm).2.2 (Kd.V_reads' HI3.out.rm).2.1 (by kernel_rfl)).mono ?_
  rintro e w4 ⟨v2, rfl, hR2, hb2⟩
  obtain ⟨A7, c7, rfl⟩ := Kd.R_slice hR2
  have HI4 := Aside0.mk (HI3.out.step hb2)
  have HR4 := Aside0.mk hR2
  clear hR2 hb2 HI3
  go_wp2_with fail
  refine (iRecover.calls 300 20 8 A7 c7 [20, 8, 1, 0, 2] 20 8 [0, 0, 0] 3 [3] [⟨0, 16⟩] 0 w4 (Kd.R_reads' HR4.out).2.2 (Kd.R_reads' HR4.out).2.1 (by kernel_rfl)).mono ?_
  rintro e w5 ⟨v2, v4, v5, rfl, hR2, hR4, hR5, hb2⟩
  obtain ⟨A8, c8, rfl⟩ := Kd.R_slice hR2
  obtain ⟨A9, c9, rfl⟩ := Kd.R_slice hR4
  obtain ⟨A10, c10, rfl⟩ := Kd.R_slice hR5
  have HI5 := Aside0.mk (HI4.out.step hb2)
  have HR5 := Aside0.mk hR5
  clear hR2 hR4 hR5 hb2 HI4 HR4
  go_wp2_with fail
  have hC := one_ext (w5.alloc (.cells #[.int .i64 20, .int .i64 8, .slice A8 3 c8, .int .i64 3, .slice A9 1 c9] 28)) 0 16
  rw [World.size_alloc] at hC
  have HI6 := Aside0.mk ((HI5.out.step (below_alloc (Below.refl _ _) (.cells #[.int .i64 20, .int .i64 8, .slice A8 3 c8, .int .i64 3, .slice A9 1 c9] 28))).step (below_alloc (Below.refl _ _) (.cells #[.int .i64 0, .int .i64 16] 49)))
  refine (r02SameExtents.calls 300 A10 c10 [⟨0, 16⟩] _ 1 [⟨0, 16⟩] true _ (Kd.R_reads' (Kd.R_alloc (Kd.R_alloc HR5.out _) _)).2.2 (Kd.R_reads' HR5.out).2.1 hC (Nat.le_refl _) (by kernel_rfl)).mono ?_
  rintro e w6 ⟨rfl, hd⟩
  have HI7 := Aside0.mk (HI6.out.step (drawn_below hd))
  obtain ⟨e00, e01, e02, e03, e04, f00, f01, f02, f03, f04⟩ := cells5' HI7.out.box
  clear hC HI6 hd HR5 HI5
  go_wp2_with fail
  clear e00 e01 e02 e03 e04 f00 f01 f02 f03 f04
  refine (iEnd.calls 20 8 A5 c5 [1, 2, 0] 3 (fun k => k ≠ w1.heap.size) A6 c6 [3] 6 4 20 8 [0, 1, 0] 3 [3] 0 w6 (Kd.V_reads' HI7.out.ra).2.2 (Kd.V_reads' HI7.out.ra).2.1 (V_base HI7.out.rm) (by kernel_rfl)).mono ?_
  rintro e w7 ⟨v2, v4, rfl, hR2, hV4, hb2⟩
  obtain ⟨A11, c11, rfl⟩ := Kd.R_slice hR2
  obtain ⟨A12, c12, rfl⟩ := Kd.V_slice hV4
  have I2 := HI7.out.step hb2
  have hg7 := (Array.getElem?_eq_some_iff.1 HI7.out.box).1
  obtain ⟨e00, e01, e02, e03, e04, f00, f01, f02, f03, f04⟩ := cells5' I2.box
  have HI8 := Aside0.mk (I2.put (sz' := 20) (gr' := 8) (ms' := 3) (R_off hR2 I2.box (by decide)) (V_base (Kd.V_mono hV4 (fun k hk => by rcases hk.1 with h | h <;> omega))))
  clear hR2 hV4 hb2 I2 HI7 hg7
  go_wp2_with fail
  clear e00 e01 e02 e03 e04 f00 f01 f02 f03 f04
  refine (iClean.calls 300 20 8 (fun k => k ≠ w1.heap.size) A11 c11 [0, 1, 0] 3 (fun k => k ≠ w1.heap.size) A12 c12 [3] 20 8 [0, 1, 0] 3 [2] true _ (V_base HI8.out.ra) (V_base HI8.out.rm) (by kernel_rfl)).mono ?_
  rintro e w8 ⟨v2, v4, rfl, hV2, hV4, hb2⟩
  obtain ⟨A13, c13, rfl⟩ := Kd.V_slice hV2
  obtain ⟨A14, c14, rfl⟩ := Kd.V_slice hV4
  have I2 := HI8.out.step hb2
  have hg8 := (Array.getElem?_eq_some_iff.1 HI8.out.box).1
  obtain ⟨e00, e01, e02, e03, e04, f00, f01, f02, f03, f04⟩ := cells5' I2.box
  have I3 := I2.put (sz' := 20) (gr' := 8) (ms' := 3) (V_base (Kd.V_mono hV2 (fun k hk => by rcases hk with (h | h) | h <;> omega))) (V_base (Kd.V_mono hV4 (fun k hk => by rcases hk with (h | h) | h <;> omega)))
  have HI9 := Aside0.mk I3
  clear hV2 hV4 hb2 I2 HI8 hg8 I3
  go_upto_region 9 with fail
  generalize hZ : World.setCell _ _ _ = Z
  have I3 : IW w w1.heap.size 20 8 A13 c13 [0, 1, 0] 3 A14 c14 [2] Z := by rw [← hZ]; exact HI9.out
  have HI10 := Aside0.mk I3
  obtain ⟨ad, rfl, hcells⟩ := ints_at (Kd.V_reads' I3.ra).2.2 (by decide)
  have q0 := hcells 0 (by decide)
  have q1 := hcells 1 (by decide)
  simp only [Addr.add, if_pos, Nat.one_ne_zero, if_false, List.getElem_cons_zero, List.getElem_cons_succ] at q0 q1
  obtain ⟨g00, g01, g02, g03, g04, -, -, -, -, -⟩ := cells5' I3.box
  clear hZ HI9 hcells I3 e00 e01 e02 e03 e04 f00 f01 f02 f03 f04
  go_wp2_with fail
  refine (r02Extents.calls 300 3 A14 c14 [2] [⟨1, 1⟩] Z (Kd.V_reads' HI10.out.rm).2.2 (Kd.V_reads' HI10.out.rm).2.1 (by kernel_rfl)).mono ?_
  rintro e w9 ⟨v, rfl, hR, hb9⟩
  obtain ⟨A15, c15, rfl⟩ := Kd.R_slice hR
  have HB9 := Aside0.mk (below_step HI10.out.below hb9)
  have HR9 := Aside0.mk hR
  clear hR hb9 g00 g01 g02 g03 g04 q0 q1
  go_wp2_with fail
  refine (r02SameExtents.calls 300 A15 c15 [⟨1, 1⟩] _ 1 [⟨1, 1⟩] true _ (Kd.R_reads' (Kd.R_alloc HR9.out _)).2.2 (Kd.R_reads' HR9.out).2.1 (one_ext w9 1 1) (Nat.le_refl _) (by kernel_rfl)).mono ?_
  rintro e w10 ⟨rfl, hd⟩
  have HB10 := Aside0.mk (below_step (below_alloc HB9.out _) (drawn_below hd))
  clear hd
  go_wp2
  go_ret
  exact ⟨rfl, HB10.out⟩
end Go.Proofs.YtnjbdcnefienhaaDoor.P

namespace Go.Proofs.YtnjbdcnefienhaaDoor.P
open Go.RowKit Go.Proofs.YtnjbdcnefienhaaDoorW.PrintWords Go.Proofs.YtnjbdcnefienhaaDoorW.PrintLast Go.Proofs.YtnjbdcnefienhaaDoorW.PrintMore
def U1 (x : Int) : Prop := 0 ≤ x ∧ x < 18446744073709551616
def U (ws : List Int) : Prop := ∀ x ∈ ws, U1 x
def wbit (x : Int) (j : Nat) : Bool := x.toNat.testBit j
def tb (ws : List Int) (i : Nat) : Bool := wbit (ws.getD (i / 64) 0) (i % 64)
def opb : BinOp → Bool → Bool → Bool
  | .or, a, b => a || b
  | .and, a, b => a && b
  | .andNot, a, b => a && !b
  | _, _, _ => false
def OpOK (op : BinOp) : Prop := op = .or ∨ op = .and ∨ op = .andNot
theorem ofInt_toNat {x : Int} (h : U1 x) : (BitVec.ofInt 64 x).toNat = x.toNat := by
  obtain ⟨n, rfl⟩ : ∃ n : Nat, x = n := ⟨x.toNat, by have := h.1; omega⟩
  have h2 := h.2
  rw [BitVec.ofInt_natCast, BitVec.toNat_ofNat, Int.toNat_natCast]
  exact Nat.mod_eq_of_lt (by omega)
theorem wrap_bv (b : BitVec 64) : IntKind.u64.wrap (b.toNat : Int) = b.toNat := by
  rw [IntKind.wrap_u64]; have := b.isLt; omega
theorem bits_bv (op : BinOp) (hop : OpOK op) (x y : Int) : ∃ b : BitVec 64, Go.bits op .u64 x y = (b.toNat : Int) ∧ ∀ j, j < 64 → b.toNat.testBit j = opb op ((BitVec.ofInt 64 x).toNat.testBit j) ((BitVec.ofInt 64 y).toNat.testBit j) := by
  rcases hop with rfl | rfl | rfl
  · exact ⟨BitVec.ofInt 64 x ||| BitVec.ofInt 64 y, wrap_bv _, fun j hj => by rw [BitVec.toNat_or, Nat.testBit_or]; rfl⟩
  · exact ⟨BitVec.ofInt 64 x &&& BitVec.ofInt 64 y, wrap_bv _, fun j hj => by rw [BitVec.toNat_and, Nat.testBit_and]; rfl⟩
  · refine ⟨BitVec.ofInt 64 x &&& ~~~ BitVec.ofInt 64 y, wrap_bv _, fun j hj => ?_⟩
    simp only [BitVec.testBit_toNat, BitVec.getLsbD_and, BitVec.getLsbD_not]
    simp [opb, hj]
theorem bits_wbit {op : BinOp} (hop : OpOK op) {x y : Int} (hx : U1 x) (hy : U1 y) {j : Nat} (hj : j < 64) : wbit (Go.bits op .u64 x y) j = opb op (wbit x j) (wbit y j) := by
  obtain ⟨b, e, h⟩ := bits_bv op hop x y
  unfold wbit
  rw [e, Int.toNat_natCast, h j hj, ofInt_toNat hx, ofInt_toNat hy]
theorem getD_U {ws : List Int} (h : U ws) (i : Nat) : U1 (ws.getD i 0) := by
  rw [List.getD_eq_getElem?_getD]
  cases e : ws[i]? with
  | none => exact ⟨by decide, by decide⟩
  | some x => exact h x (List.mem_of_getElem? e)
theorem wbit_zero (j : Nat) : wbit 0 j = false := by simp [wbit]
theorem tb_ge {ws : List Int} {i : Nat} (h : 64 * ws.length ≤ i) : tb ws i = false := by
  unfold tb
  rw [List.getD_eq_getElem?_getD, List.getElem?_eq_none (by omega)]
  exact wbit_zero _
theorem rd_nat (ws : List Int) (i : Nat) : rd ws (i : Int) = ws.getD i 0 := rfl
theorem shr_bit {x : Int} (h : U1 x) {j : Nat} (hj : j < 64) : (Go.bits .and .u64 (shr .u64 x (j : Int)) 1 == 1) = wbit x j := by
  obtain ⟨n, rfl⟩ : ∃ n : Nat, x = n := ⟨x.toNat, by have := h.1; omega⟩
  have h2 : n < 18446744073709551616 := by have := h.2; omega
  have hs : shr .u64 (n : Int) (j : Int) = ((n / 2 ^ j : Nat) : Int) := by
    unfold shr
    rw [Int.toNat_natCast, Nat.min_eq_left (by simp only [IntKind.bits]; omega)]
    rw [show (2 : Int) ^ j = ((2 ^ j : Nat) : Int) by simp, Int.natCast_ediv]
  have hn : n / 2 ^ j < 18446744073709551616 := Nat.lt_of_le_of_lt (Nat.div_le_self _ _) h2
  have e : Go.bits .and .u64 ((n / 2 ^ j : Nat) : Int) 1 = ((n / 2 ^ j &&& 1 : Nat) : Int) := by
    show IntKind.u64.wrap ((BitVec.ofInt 64 ((n / 2 ^ j : Nat) : Int) &&& BitVec.ofInt 64 1).toNat : Int) = _
    have hU : U1 ((n / 2 ^ j : Nat) : Int) := by
      generalize n / 2 ^ j = q at hn
      exact ⟨by omega, by omega⟩
    rw [wrap_bv, BitVec.toNat_and, ofInt_toNat hU, ofInt_toNat ⟨by decide, by decide⟩]
    rfl
  rw [hs, e]
  unfold wbit
  rw [Int.toNat_natCast, Nat.testBit_eq_decide_div_mod_eq, Nat.and_one_is_mod]
  generalize n / 2 ^ j % 2 = m
  by_cases hm : m = 1
  · subst hm; rfl
  · simp [hm]; omega
theorem maskN_lt {a b : Nat} (hb : b ≤ 64) : maskN a b < 18446744073709551616 := by
  unfold maskN
  split
  · decide
  · have : (2 ^ (b - a) - 1) * 2 ^ a < 2 ^ (b - a) * 2 ^ a := Nat.mul_lt_mul_of_pos_right (Nat.sub_lt (Nat.pow_pos (by decide)) (by decide)) (Nat.pow_pos (by decide))
    rw [← Nat.pow_add] at this
    exact Nat.lt_of_lt_of_le this (by rw [show 18446744073709551616 = 2 ^ 64 from by decide]; exact Nat.pow_le_pow_right (by decide) (by omega))
theorem maskN_bit (a b j : Nat) : (maskN a b).testBit j = decide (a ≤ j ∧ j < b) := by
  unfold maskN
  split
  · rw [Nat.zero_testBit]; symm; rw [decide_eq_false_iff_not]; omega
  · rw [Nat.testBit_mul_two_pow, Nat.testBit_two_pow_sub_one]
    by_cases h : a ≤ j
    · simp [h]; omega
    · simp [h]
end Go.Proofs.YtnjbdcnefienhaaDoor.P

namespace Go.Proofs.YtnjbdcnefienhaaDoor.P
open Go.RowKit Go.Proofs.YtnjbdcnefienhaaDoorW.PrintWords Go.Proofs.YtnjbdcnefienhaaDoorW.PrintLast Go.Proofs.YtnjbdcnefienhaaDoorW.PrintMore
theorem dv64 (i : Nat) (h : i < 1000000) : wrap64 (Int.tdiv (i : Int) 64) = ((i / 64 : Nat) : Int) := by
  rw [Int.tdiv_eq_ediv_of_nonneg (by omega), w64 _ (by omega) (by omega)]; omega
theorem md64 (i : Nat) : Int.tmod (i : Int) 64 = ((i % 64 : Nat) : Int) := by
  rw [Int.tmod_eq_emod_of_nonneg (by omega)]; omega
theorem wmd64 (i : Nat) : IntKind.u64.wrap (Int.tmod (i : Int) 64) = ((i % 64 : Nat) : Int) := by
  rw [md64, IntKind.wrap_u64]; omega
theorem wsucc (i : Nat) (h : i < 1000000) : wrap64 ((i : Int) + 1) = ((i + 1 : Nat) : Int) := by rw [w64 _ (by omega) (by omega)]; rfl
theorem bit_eq (size : Int) {ws : List Int} (hU : U ws) (hl : ws.length ≤ 5000) {i : Nat} (hi : i < 64 * ws.length) : r02bit.f size ws i = some (tb ws i) := by
  unfold r02bit.f
  rw [dv64 i (by omega), wmd64, if_pos (by omega), if_pos (by omega), if_pos (by omega), rd_nat, shr_bit (getD_U hU _) (by omega)]
  rfl
theorem check_loop (size : Int) {ws : List Int} (hU : U ws) (hl : ws.length ≤ 5000) : ∀ (n k i : Nat), i + n = 64 * ws.length → n < k →
    r02Check.l0 k i size ws = some (if (List.range' i n).any (tb ws) then 3 else 0) := by
  intro n
  induction n with
  | zero =>
    intro k i hi hk
    obtain ⟨k, rfl⟩ : ∃ m, k = m + 1 := ⟨k - 1, by omega⟩
    rw [r02Check.l0, w64 _ (by omega) (by omega), if_neg (by omega)]
    rfl
  | succ n ih =>
    intro k i hi hk
    obtain ⟨k, rfl⟩ : ∃ m, k = m + 1 := ⟨k - 1, by omega⟩
    rw [r02Check.l0, w64 _ (by omega) (by omega), if_pos (by omega), bit_eq size hU hl (by omega), Option.bind_some, wsucc i (by omega), ih k (i + 1) (by omega) (by omega), List.range'_succ, List.any_cons]
    cases tb ws i
    · rw [if_neg (by decide), Bool.false_or]
    · rw [if_pos rfl, Bool.true_or]; rfl
theorem div_zero_iff {x : Int} (h : U1 x) (s : Nat) : x / 2 ^ s = 0 ↔ ∀ j, s ≤ j → j < 64 → wbit x j = false := by
  obtain ⟨n, rfl⟩ : ∃ n : Nat, x = n := ⟨x.toNat, by have := h.1; omega⟩
  have h2 : n < 2 ^ 64 := by have := h.2; omega
  rw [show (2 : Int) ^ s = ((2 ^ s : Nat) : Int) by simp, ← Int.natCast_ediv]
  unfold wbit
  rw [Int.toNat_natCast]
  have hp : 0 < 2 ^ s := Nat.pow_pos (by decide)
  constructor
  · intro e j hj _
    have hlt : n < 2 ^ s := by
      have : n / 2 ^ s = 0 := by omega
      exact (Nat.div_eq_zero_iff_lt hp).1 this
    exact Nat.testBit_lt_two_pow (Nat.lt_of_lt_of_le hlt (Nat.pow_le_pow_right (by decide) hj))
  · intro hj
    have hlt : n < 2 ^ s := Nat.lt_pow_two_of_testBit n fun j hs' => by
      rcases Nat.lt_or_ge j 64 with h | h
      · exact hj j hs' h
      · exact Nat.testBit_lt_two_pow (Nat.lt_of_lt_of_le h2 (Nat.pow_le_pow_right (by decide) h))
    have : n / 2 ^ s = 0 := (Nat.div_eq_zero_iff_lt hp).2 hlt
    omega
theorem Good.clear {size : Int} {ws : List Int} (hU : U ws) (h : Good size ws) {i : Nat} (hi : size.toNat ≤ i) : tb ws i = false := by
  rcases Nat.lt_or_ge i (64 * ws.length) with hlt | hge
  · have h1 := h.lo
    have h3 := h.len
    have hm : 0 < size % 64 := by omega
    have hl := h.last hm
    rw [show (ws.length : Int) - 1 = ((ws.length - 1 : Nat) : Int) by omega, rd_nat] at hl
    have := (div_zero_iff (getD_U hU _) _).1 hl
    unfold tb
    rw [show i / 64 = ws.length - 1 by omega]
    exact this _ (by omega) (by omega)
  · exact tb_ge hge
theorem Good.mk' {size : Int} {ws : List Int} (hU : U ws) (h0 : 0 ≤ size) (h1 : size ≤ 4096) (h2 : (ws.length : Int) = (size + 63) / 64) (h3 : ∀ i, size.toNat ≤ i → i < 64 * ws.length → tb ws i = false) : Good size ws := by
  refine ⟨h0, h1, h2, fun hm => ?_⟩
  rw [show (ws.length : Int) - 1 = ((ws.length - 1 : Nat) : Int) by omega, rd_nat, div_zero_iff (getD_U hU _) _]
  intro j hj hj2
  have := h3 (64 * (ws.length - 1) + j) (by omega) (by omega)
  unfold tb at this
  rw [show (64 * (ws.length - 1) + j) / 64 = ws.length - 1 by omega, show (64 * (ws.length - 1) + j) % 64 = j by omega] at this
  exact this
theorem rcheck_j (k : Nat) (size : Int) (ws : List Int) : r02Check.j0 (k + 1) true size ws = some 3 := by rw [r02Check.j0, if_pos rfl]
theorem rcheck_eq {size : Int} {ws : List Int} (hU : U ws) {k : Nat} (hk : 5000 ≤ k) : r02Check.f k size ws = some (if good size ws then 0 else 3) := by
  obtain ⟨k, rfl⟩ : ∃ m, k = m + 1 := ⟨k - 1, by omega⟩
  have hno : ¬ Good size ws → (if good size ws then (0 : Int) else 3) = 3 := fun h => by rw [if_neg (fun h' => h ((good_iff _ _).1 h'))]
  have hyes : Good size ws → (if good size ws then (0 : Int) else 3) = 0 := fun h => by rw [if_pos ((good_iff _ _).2 h)]
  unfold r02Check.f
  by_cases h1 : size < 0
  · rw [if_pos h1, rcheck_j, hno (fun g => by have := g.lo; omega)]
  rw [if_neg h1]
  by_cases h2 : size > 4096
  · rw [if_pos h2, rcheck_j, hno (fun g => by have := g.hi; omega)]
  rw [if_neg h2, w64 (size + 63) (by omega) (by omega), Int.tdiv_eq_ediv_of_nonneg (by omega), w64 _ (by omega) (by omega)]
  by_cases h3 : (ws.length : Int) = (size + 63) / 64
  · rw [show ((ws.length : Int) != (size + 63) / 64) = false by simpa using h3, r02Check.j0, if_neg (by decide)]
    obtain ⟨s, rfl⟩ : ∃ s : Nat, size = s := ⟨size.toNat, by omega⟩
    rw [check_loop s hU (by omega) (64 * ws.length - s) k s (by omega) (by omega)]
    by_cases h4 : (List.range' s (64 * ws.length - s)).any (tb ws) = true
    · rw [if_pos h4, hno]
      intro g
      rw [List.any_eq_true] at h4
      obtain ⟨x, hx, hb⟩ := h4
      rw [List.mem_range'_1] at hx
      have := g.clear hU (i := x) (by omega)
      rw [this] at hb
      cases hb
    · rw [if_neg h4, hyes]
      refine Good.mk' hU (by omega) (by omega) h3 fun i hi hi2 => ?_
      rw [Bool.not_eq_true] at h4
      rw [List.any_eq_false] at h4
      have := h4 i (by rw [List.mem_range'_1]; omega)
      simpa using this
  · rw [show ((ws.length : Int) != (size + 63) / 64) = true by simpa using h3, rcheck_j, hno (fun g => h3 g.len)]
theorem bcheck_eq (size : Int) (ws : List Int) (k : Nat) : bCheck.f (k + 1) size ws = some (if good size ws then 0 else 3) := by
  rcases check_any k size ws with ⟨h, e⟩ | ⟨h, e⟩
  · rw [e, if_pos ((good_iff _ _).2 h)]
  · rw [e, if_neg (fun h' => h ((good_iff _ _).1 h'))]
theorem Fits.nat {s c size : Int} (h : Fits s c size) (h0 : 0 ≤ size) (h1 : size ≤ 4096) : ∃ a n : Nat, s = a ∧ c = n ∧ (a + n : Nat) ≤ size := by
  obtain ⟨x, y, z⟩ := h.bounds h0 h1
  exact ⟨s.toNat, c.toNat, by omega, by omega, by omega⟩
end Go.Proofs.YtnjbdcnefienhaaDoor.P

namespace Go.Proofs.YtnjbdcnefienhaaDoor.P
open Go.RowKit Go.Proofs.YtnjbdcnefienhaaDoorW.PrintWords Go.Proofs.YtnjbdcnefienhaaDoorW.PrintLast Go.Proofs.YtnjbdcnefienhaaDoorW.PrintMore
theorem range'_append' (a n m : Nat) : List.range' a (n + m) = List.range' a n ++ List.range' (a + n) m := by
  rw [List.range'_append_1]
theorem filter_window (p : Nat → Bool) (lo size N : Nat) (hs : size ≤ N) :
    (List.range N).filter (fun i => decide (lo ≤ i ∧ i < size) && p i) = (List.range' lo (size - lo)).filter p := by
  rw [List.range_eq_range']
  rcases Nat.lt_or_ge size lo with h | h
  · rw [show size - lo = 0 by omega]
    simp only [List.range'_zero, List.filter_nil, List.filter_eq_nil_iff]
    intro i _
    have : decide (lo ≤ i ∧ i < size) = false := by rw [decide_eq_false_iff_not]; omega
    simp [this]
  · have e : List.range' 0 N = List.range' 0 lo ++ (List.range' lo (size - lo) ++ List.range' size (N - size)) := by
      rw [show N = lo + ((size - lo) + (N - size)) by omega, range'_append', range'_append', Nat.zero_add, show lo + (size - lo) = size by omega]
      congr 3
      omega
    rw [e, List.filter_append, List.filter_append]
    have h1 : (List.range' 0 lo).filter (fun i => decide (lo ≤ i ∧ i < size) && p i) = [] := by
      rw [List.filter_eq_nil_iff]
      intro i hi
      rw [List.mem_range'_1] at hi
      have : decide (lo ≤ i ∧ i < size) = false := by rw [decide_eq_false_iff_not]; omega
      simp [this]
    have h3 : (List.range' size (N - size)).filter (fun i => decide (lo ≤ i ∧ i < size) && p i) = [] := by
      rw [List.filter_eq_nil_iff]
      intro i hi
      rw [List.mem_range'_1] at hi
      have : decide (lo ≤ i ∧ i < size) = false := by rw [decide_eq_false_iff_not]; omega
      simp [this]
    have h2 : (List.range' lo (size - lo)).filter (fun i => decide (lo ≤ i ∧ i < size) && p i) = (List.range' lo (size - lo)).filter p := by
      apply List.filter_congr
      intro i hi
      rw [List.mem_range'_1] at hi
      have : decide (lo ≤ i ∧ i < size) = true := by rw [decide_eq_true_iff]; omega
      simp [this]
    rw [h1, h2, h3]
    simp
theorem cutW_bit {ws : List Int} (hU : U ws) {lo size : Nat} {i : Nat} (hi : i ≤ 64) (hs : size ≤ 4096) (hl : lo ≤ 9223372036854775807) {j : Nat} (hj : j < 64) :
    (cutW ws lo size i).testBit j = (decide (lo ≤ 64 * i + j ∧ 64 * i + j < size) && tb ws (64 * i + j)) := by
  have hm := mkW_eq i lo size hi (by omega) (by omega) (by omega) (by omega)
  have hb : (min ((size : Int) - i * 64) 64).toNat ≤ 64 := by omega
  have hu : U1 (mkW i lo size) := by
    rw [hm]
    have := maskN_lt (a := ((lo : Int) - i * 64).toNat) hb
    generalize maskN ((lo : Int) - i * 64).toNat (min ((size : Int) - i * 64) 64).toNat = q at this
    exact ⟨by omega, by omega⟩
  have := bits_wbit (op := .and) (.inr (.inl rfl)) (getD_U hU i) hu hj
  unfold cutW
  rw [rd_nat]
  unfold wbit at this
  rw [this]
  unfold tb wbit
  rw [show (64 * i + j) / 64 = i by omega, show (64 * i + j) % 64 = j by omega, hm, Int.toNat_natCast, maskN_bit, Bool.and_comm]
  show (_ && _) = (_ && _)
  congr 1
  rw [decide_eq_decide]
  omega
theorem elemsW_eq {ws : List Int} (hU : U ws) {lo size : Nat} {i : Nat} (hi : i ≤ 64) (hs : size ≤ 4096) (hl : lo ≤ 9223372036854775807) :
    elemsW ws lo size i = ((List.range' (64 * i) 64).filter fun j => decide (lo ≤ j ∧ j < size) && tb ws j).map fun (b : Nat) => (b : Int) := by
  unfold elemsW bitsOf
  have e : (List.range' (64 * i) 64) = (List.range 64).map (64 * i + ·) := by
    rw [List.range'_eq_map_range]
  rw [e, List.filter_map, List.map_map]
  have : (List.range 64).filter (fun j => (cutW ws lo size i).testBit j) = (List.range 64).filter ((fun j => decide (lo ≤ j ∧ j < size) && tb ws j) ∘ (64 * i + ·)) := by
    apply List.filter_congr
    intro j hj
    rw [List.mem_range] at hj
    rw [cutW_bit hU hi hs hl hj]
    rfl
  rw [this]
  apply List.map_congr_left
  intro j _
  simp only [Function.comp]
  omega
theorem flat_range (p : Nat → Bool) (f : Nat → List Int) : ∀ n, (∀ i, i < n → f i = ((List.range' (64 * i) 64).filter p).map fun (b : Nat) => (b : Int)) →
    (List.range n).flatMap f = ((List.range (64 * n)).filter p).map fun (b : Nat) => (b : Int)
  | 0, _ => rfl
  | n + 1, h => by
    rw [List.range_succ, List.flatMap_append, flat_range p f n (fun i hi => h i (by omega)), List.flatMap_singleton, h n (by omega), List.range_eq_range', List.range_eq_range', show 64 * (n + 1) = 64 * n + 64 by omega, range'_append', List.filter_append, List.map_append, Nat.zero_add]
def nats (ws : List Int) (lo size : Nat) : List Nat := (List.range' lo (size - lo)).filter (tb ws)
theorem elems_eq {ws : List Int} (hU : U ws) {lo size : Nat} (hw : ws.length ≤ 64) (hs : size ≤ 4096) (hs2 : size ≤ 64 * ws.length) (hl : lo ≤ 9223372036854775807) :
    elems ws lo size = (nats ws lo size).map fun (b : Nat) => (b : Int) := by
  unfold elems nats
  rw [flat_range (fun j => decide (lo ≤ j ∧ j < size) && tb ws j) _ _ (fun i hi => elemsW_eq hU (by omega) hs hl), filter_window _ _ _ _ hs2]
theorem Good.nat {size : Int} {ws : List Int} (g : Good size ws) : ∃ n : Nat, size = n ∧ n ≤ 4096 ∧ n ≤ 64 * ws.length ∧ 64 * ws.length < n + 64 ∧ ws.length ≤ 64 := by
  have h0 := g.lo
  have h1 := g.hi
  have h2 := g.len
  exact ⟨size.toNat, by omega, by omega, by omega, by omega, by omega⟩
theorem bElems_eq {ws : List Int} (hU : U ws) {lo size : Nat} (g : Good size ws) (hl : lo ≤ 9223372036854775807) : bElems size ws lo = (nats ws lo size).map fun (b : Nat) => (b : Int) := by
  obtain ⟨n, hn, h1, h2, h3, h4⟩ := g.nat
  obtain rfl : size = n := by omega
  unfold bElems
  rw [if_pos ((good_iff _ _).2 g), elems_eq hU h4 h1 h2 hl]
theorem nats_cons {ws : List Int} {lo size : Nat} (h : lo < size) : nats ws lo size = if tb ws lo then lo :: nats ws (lo + 1) size else nats ws (lo + 1) size := by
  unfold nats
  rw [show size - lo = (size - (lo + 1)) + 1 by omega, List.range'_succ, List.filter_cons]
theorem nats_nil {ws : List Int} {lo size : Nat} (h : size ≤ lo) : nats ws lo size = [] := by
  unfold nats
  rw [show size - lo = 0 by omega]; rfl
end Go.Proofs.YtnjbdcnefienhaaDoor.P

namespace Go.Proofs.YtnjbdcnefienhaaDoor.P
open Go.RowKit Go.Proofs.YtnjbdcnefienhaaDoorW.PrintWords Go.Proofs.YtnjbdcnefienhaaDoorW.PrintLast Go.Proofs.YtnjbdcnefienhaaDoorW.PrintMore
attribute [local go_sem] max2_int min2_int max_two min_two max_three min_three max_four min_four   -- for this text's walks alone
set_option linter.unusedVariables false
set_option linter.unusedSimpArgs false
def r17sizes.f (a0 : Int) (a1 : Int) : Option (Bool) := if a0 ≥ 1 then (if a0 ≤ 4096 then (if a1 ≥ 1 then (some (decide (a1 ≤ 4096))) else (some false)) else (some false)) else (some false)
set_option maxHeartbeats 8000000 in
set_option maxRecDepth 100000 in
theorem r17sizes.calls (a0 : Int) (a1 : Int) (r : Bool) (w : World) (h : r17sizes.f a0 a1 = some r) :
  Calls Tryd.prog 30 #[.int .i64 a0, .int .i64 a1] w fun e w' => e = .returned (.bool r) ∧ Drawn0 w w' := by
 have H : (if a0 ≥ 1 then (if a0 ≤ 4096 then (if a1 ≥ 1 then (some (decide (a1 ≤ 4096))) else (some false)) else (some false)) else (some false)) = some r := h
 clear h
 by_cases c3 : a0 ≥ 1
 ·
  rw [if_pos c3] at H
  have c3b0 : decide (1 ≤ a0) = true := decide_eq_true c3
  clear c3
  by_cases c4 : a0 ≤ 4096
  ·
   rw [if_pos c4] at H
   have c4b0 : decide (a0 ≤ 4096) = true := decide_eq_true c4
   clear c4
   by_cases c5 : a1 ≥ 1
   ·
    rw [if_pos c5] at H
    have c5b0 : decide (1 ≤ a1) = true := decide_eq_true c5
    clear c5
    obtain rfl := Option.some.inj H
    go_enter Tryd.func30, Tryd.ntmps30
    go_wp2
    go_ret
    exact ⟨by first | rfl | (simp; done) | (simp [*]; done), by repeat (first | exact Drawn0.refl _ | apply Drawn0.step)⟩
   ·
    rw [if_neg c5] at H
    have c5b0 : decide (1 ≤ a1) = false := decide_eq_false c5
    clear c5
    obtain rfl := Option.some.inj H
    go_enter Tryd.func30, Tryd.ntmps30
    go_wp2
    go_ret
    exact ⟨by first | rfl | (simp; done) | (simp [*]; done), by repeat (first | exact Drawn0.refl _ | apply Drawn0.step)⟩
  ·
   rw [if_neg c4] at H
   have c4b0 : decide (a0 ≤ 4096) = false := decide_eq_false c4
   clear c4
   obtain rfl := Option.some.inj H
   go_enter Tryd.func30, Tryd.ntmps30
   go_wp2
   go_ret
   exact ⟨by first | rfl | (simp; done) | (simp [*]; done), by repeat (first | exact Drawn0.refl _ | apply Drawn0.step)⟩
 ·
  rw [if_neg c3] at H
  have c3b0 : decide (1 ≤ a0) = false := decide_eq_false c3
  clear c3
  obtain rfl := Option.some.inj H
  go_enter Tryd.func30, Tryd.ntmps30
  go_wp2
  go_ret
  exact ⟨by first | rfl | (simp; done) | (simp [*]; done), by repeat (first | exact Drawn0.refl _ | apply Drawn0.step)⟩
def r17Granules.f (a0 : Int) (a1 : Int) : Option (Int) := if a1 = 0 then (none) else (some (wrap64 (Int.tdiv (wrap64 ((wrap64 (a0 + a1)) - 1)) a1)))
set_option maxHeartbeats 8000000 in
set_option maxRecDepth 100000 in
theorem r17Granules.calls (a0 : Int) (a1 : Int) (r : Int) (w : World) (h : r17Granules.f a0 a1 = some r) :
  Calls Tryd.prog 31 #[.int .i64 a0, .int .i64 a1] w fun e w' => e = .returned (.int .i64 r) ∧ Drawn0 w w' := by
 have H : (if a1 = 0 then (none) else (some (wrap64 (Int.tdiv (wrap64 ((wrap64 (a0 + a1)) - 1)) a1)))) = some r := h
 clear h
 by_cases c3 : a1 = 0
 ·
  rw [if_pos c3] at H
  exact absurd H (by simp)
 ·
  rw [if_neg c3] at H
  have c3b0 : (a1 == 0) = false := beq_eq_false_iff_ne.mpr c3
  have c3b1 : (a1 != 0) = true := bne_iff_ne.mpr c3
  obtain rfl := Option.some.inj H
  go_enter Tryd.func31, Tryd.ntmps31
  go_wp2
  go_ret
  exact ⟨by first | rfl | (simp; done) | (simp [*]; done), by repeat (first | exact Drawn0.refl _ | apply Drawn0.step)⟩
end Go.Proofs.YtnjbdcnefienhaaDoor.P

namespace Go.Proofs.YtnjbdcnefienhaaDoor.P
open Go.RowKit Go.Proofs.YtnjbdcnefienhaaDoorW.PrintWords Go.Proofs.YtnjbdcnefienhaaDoorW.PrintLast Go.Proofs.YtnjbdcnefienhaaDoorW.PrintMore
attribute [local go_sem] max2_int min2_int max_two min_two max_three min_three max_four min_four   -- for this text's walks alone
set_option linter.unusedVariables false
set_option linter.unusedSimpArgs false
def r02Get.f (k : Nat) (a0_0 : Int) (l0_1 : List Int) (a1 : Int) : Option (Bool) := (r02Check.f k a0_0 l0_1).bind fun t510 => (if t510 = 0 then (if a1 ≥ 0 then (if a1 < a0_0 then ((r02bit.f a0_0 l0_1 a1).bind fun t511 => (some t511)) else (some false)) else (some false)) else (some false))
set_option maxHeartbeats 8000000 in
set_option maxRecDepth 100000 in
theorem r02Get.calls (k : Nat) (a0_0 : Int) (A0_1 : Option Addr) (c0_1 : Nat) (l0_1 : List Int) (a1 : Int) (r : Bool) (w : World) (hr0_1 : Kd.C (Kd.int .u64) w A0_1 l0_1.length l0_1) (hc0_1 : l0_1.length ≤ c0_1) (h : r02Get.f k a0_0 l0_1 a1 = some r) :
  Calls Tryd.prog 21 #[.agg #[.int .i64 a0_0, .slice A0_1 l0_1.length c0_1], .int .i64 a1] w fun e w' => e = .returned (.bool r) ∧ Below w.heap.size w w' := by
 have hu26 := Tryd.underlying26
 have HR0_1 := A0_ hr0_1
 have HC0_1 := A0_ hc0_1
 clear hr0_1 hc0_1
 have HB := A0_ (Below.refl w.heap.size w)
 have H : ((r02Check.f k a0_0 l0_1).bind fun t510 => (if t510 = 0 then (if a1 ≥ 0 then (if a1 < a0_0 then ((r02bit.f a0_0 l0_1 a1).bind fun t511 => (some t511)) else (some false)) else (some false)) else (some false))) = some r := h
 clear h
 replace H := Option.bind_eq_some_iff.mp H
 obtain ⟨t510, A30, H⟩ := H
 replace H : (if t510 = 0 then (if a1 ≥ 0 then (if a1 < a0_0 then ((r02bit.f a0_0 l0_1 a1).bind fun t511 => (some t511)) else (some false)) else (some false)) else (some false)) = some r := H
 have A3 := A0_ A30
 clear A30
 by_cases c4 : t510 = 0
 ·
  rw [if_pos c4] at H
  have c4b0 : (t510 == 0) = true := beq_iff_eq.mpr c4
  have c4b1 : (t510 != 0) = false := bne_eq_false_iff_eq.mpr c4
  clear c4
  by_cases c5 : a1 ≥ 0
  ·
   rw [if_pos c5] at H
   have c5b0 : decide (0 ≤ a1) = true := decide_eq_true c5
   clear c5
   by_cases c6 : a1 < a0_0
   ·
    rw [if_pos c6] at H
    have c6b0 : decide (a1 < a0_0) = true := decide_eq_true c6
    clear c6
    replace H := Option.bind_eq_some_iff.mp H
    obtain ⟨t511, A70, H⟩ := H
    replace H : (some t511) = some r := H
    have A7 := A0_ A70
    clear A70
    obtain rfl := Option.some.inj H
    go_enter Tryd.func21, Tryd.ntmps21
    go_wp2_with (first | ((with_reducible refine gate_dst (N := 2) rfl ?_); refine box_event ?hg (N := 2) ?hd (cs := #[.int .i64 a0_0, .slice A0_1 l0_1.length c0_1]) (t := 26) ?hr ?_; (case hd => rfl); (case hg => rfl); (case hr => first | (go_simp; done) | (go_simp; rfl)); intro gb509 hg w8 hbox hb; have n0_ := A0_ (below_step (by repeat (first | (with_reducible first | exact HB.out | apply Al_ | apply Dn_ | apply D1_) | exact HB.out)) hb); have n1_ := A0_ (hbox); have n2_ := A0_ ((by rw [hg]; exact (below_size (by repeat (first | (with_reducible first | exact HB.out | apply Al_ | apply Dn_ | apply D1_) | exact HB.out))) : w.heap.size ≤ gb509)); have n3_ := A0_ ((by rw [hg]; exact (below_size (by repeat (first | (with_reducible first | exact HB.out | apply Al_ | apply Dn_ | apply D1_) | exact HB.out))) : w.heap.size ≤ gb509)); clear HB; have HB := n0_; have BK509 := n1_; have GW509 := n2_; have GE509 := n3_; clear n0_ n1_ n2_ n3_ hb hbox hg; have hcz9_0 : w8.cell? ⟨gb509, 0, none⟩ = some (.int .i64 a0_0) := (Bc_ BK509.out 0).trans rfl; have hcz9_1 : w8.cell? ⟨gb509, 1, none⟩ = some (.slice A0_1 l0_1.length c0_1) := (Bc_ BK509.out 1).trans rfl; have hfz9_0 := Bf_ BK509.out 0; have hfz9_1 := Bf_ BK509.out 1) | ((with_reducible refine gate_callee (f := 51) rfl ?_); refine goesL_ (some 6) rfl rfl Tryd.func51 (by kernel_rfl) rfl #[.agg #[.int .i64 a0_0, .slice A0_1 l0_1.length c0_1]] rfl (by (try simp only [List.map_toArray, List.map_cons, List.map_nil]); first | done | rfl | (simp only [List.length_drop, List.length_take]; rfl)) ?_; (with_reducible refine (r02Check.calls k a0_0 _ _ l0_1 t510 _ ?side1 ?side2 A3.out).mono ?_); (case side1 => repeat (first | exact (Kd.C_below HR0_1.out HB.out) | (with_reducible first | refine Kd.C_alloc ?_ _ | refine Kd.C_drewN ?_ _ | refine Kd.C_drew ?_))); (case side2 => exact HC0_1.out); rintro e w10 ⟨rfl, hb⟩; refine ⟨_, rfl, ?_⟩; have n0_ := A0_ (blk_below (g := gb509) (o := .cells #[.int .i64 a0_0, .slice A0_1 l0_1.length c0_1] 26 (0, 0)) (by (with_reducible repeat (first | refine Bn_ ?_ _ | refine Bd_ ?_ | refine Ba_ ?_ _)); exact BK509.out) hb); have n1_ := A0_ (below_step (by repeat (first | (with_reducible first | exact HB.out | apply Al_ | apply Dn_ | apply D1_ | refine Bs_ ?_ GE509.out) | exact HB.out)) hb); clear BK509 HB; have BK509 := n0_; have HB := n1_; clear n0_ n1_; (try clear hb); (try clear hb2); (try clear hk); (try clear hi); have hcz11_0 : w10.cell? ⟨gb509, 0, none⟩ = some (.int .i64 a0_0) := (Bc_ BK509.out 0).trans rfl; have hcz11_1 : w10.cell? ⟨gb509, 1, none⟩ = some (.slice A0_1 l0_1.length c0_1) := (Bc_ BK509.out 1).trans rfl; have hfz11_0 := Bf_ BK509.out 0; have hfz11_1 := Bf_ BK509.out 1) | (go_at_call 52; (with_reducible refine (r02bit.calls a0_0 _ _ l0_1 a1 t511 _ ?side1 ?side2 A7.out).mono ?_); (case side1 => repeat (first | exact (Kd.C_below HR0_1.out HB.out) | (with_reducible first | refine Kd.C_alloc ?_ _ | refine Kd.C_drewN ?_ _ | refine Kd.C_drew ?_))); (case side2 => exact HC0_1.out); rintro e w12 ⟨rfl, hb⟩; have n0_ := A0_ (blk_below (g := gb509) (o := .cells #[.int .i64 a0_0, .slice A0_1 l0_1.length c0_1] 26 (0, 0)) (by (with_reducible repeat (first | refine Bn_ ?_ _ | refine Bd_ ?_ | refine Ba_ ?_ _)); exact BK509.out) hb); have n1_ := A0_ (below_step (by repeat (first | (with_reducible first | exact HB.out | apply Al_ | apply Dn_ | apply D1_ | refine Bs_ ?_ GE509.out) | exact HB.out)) hb); clear BK509 HB; have BK509 := n0_; have HB := n1_; clear n0_ n1_; (try clear hb); (try clear hb2); (try clear hk); (try clear hi)))
    go_ret
    exact ⟨by first | rfl | (simp [errW_none, errW_some] <;> rfl) | (simp [*, errW_none, errW_some] <;> rfl), by repeat (first | (with_reducible first | exact HB.out | apply Al_ | apply Dn_ | apply D1_ | refine Bs_ ?_ GE509.out) | exact HB.out)⟩
   ·
    rw [if_neg c6] at H
    have c6b0 : decide (a1 < a0_0) = false := decide_eq_false c6
    clear c6
    obtain rfl := Option.some.inj H
    go_enter Tryd.func21, Tryd.ntmps21
    go_wp2_with (first | ((with_reducible refine gate_dst (N := 2) rfl ?_); refine box_event ?hg (N := 2) ?hd (cs := #[.int .i64 a0_0, .slice A0_1 l0_1.length c0_1]) (t := 26) ?hr ?_; (case hd => rfl); (case hg => rfl); (case hr => first | (go_simp; done) | (go_simp; rfl)); intro gb509 hg w13 hbox hb; have n0_ := A0_ (below_step (by repeat (first | (with_reducible first | exact HB.out | apply Al_ | apply Dn_ | apply D1_) | exact HB.out)) hb); have n1_ := A0_ (hbox); have n2_ := A0_ ((by rw [hg]; exact (below_size (by repeat (first | (with_reducible first | exact HB.out | apply Al_ | apply Dn_ | apply D1_) | exact HB.out))) : w.heap.size ≤ gb509)); have n3_ := A0_ ((by rw [hg]; exact (below_size (by repeat (first | (with_reducible first | exact HB.out | apply Al_ | apply Dn_ | apply D1_) | exact HB.out))) : w.heap.size ≤ gb509)); clear HB; have HB := n0_; have BK509 := n1_; have GW509 := n2_; have GE509 := n3_; clear n0_ n1_ n2_ n3_ hb hbox hg; have hcz14_0 : w13.cell? ⟨gb509, 0, none⟩ = some (.int .i64 a0_0) := (Bc_ BK509.out 0).trans rfl; have hcz14_1 : w13.cell? ⟨gb509, 1, none⟩ = some (.slice A0_1 l0_1.length c0_1) := (Bc_ BK509.out 1).trans rfl; have hfz14_0 := Bf_ BK509.out 0; have hfz14_1 := Bf_ BK509.out 1) | ((with_reducible refine gate_callee (f := 51) rfl ?_); refine goesL_ (some 6) rfl rfl Tryd.func51 (by kernel_rfl) rfl #[.agg #[.int .i64 a0_0, .slice A0_1 l0_1.length c0_1]] rfl (by (try simp only [List.map_toArray, List.map_cons, List.map_nil]); first | done | rfl | (simp only [List.length_drop, List.length_take]; rfl)) ?_; (with_reducible refine (r02Check.calls k a0_0 _ _ l0_1 t510 _ ?side1 ?side2 A3.out).mono ?_); (case side1 => repeat (first | exact (Kd.C_below HR0_1.out HB.out) | (with_reducible first | refine Kd.C_alloc ?_ _ | refine Kd.C_drewN ?_ _ | refine Kd.C_drew ?_))); (case side2 => exact HC0_1.out); rintro e w15 ⟨rfl, hb⟩; refine ⟨_, rfl, ?_⟩; have n0_ := A0_ (blk_below (g := gb509) (o := .cells #[.int .i64 a0_0, .slice A0_1 l0_1.length c0_1] 26 (0, 0)) (by (with_reducible repeat (first | refine Bn_ ?_ _ | refine Bd_ ?_ | refine Ba_ ?_ _)); exact BK509.out) hb); have n1_ := A0_ (below_step (by repeat (first | (with_reducible first | exact HB.out | apply Al_ | apply Dn_ | apply D1_ | refine Bs_ ?_ GE509.out) | exact HB.out)) hb); clear BK509 HB; have BK509 := n0_; have HB := n1_; clear n0_ n1_; (try clear hb); (try clear hb2); (try clear hk); (try clear hi); have hcz16_0 : w15.cell? ⟨gb509, 0, none⟩ = some (.int .i64 a0_0) := (Bc_ BK509.out 0).trans rfl; have hcz16_1 : w15.cell? ⟨gb509, 1, none⟩ = some (.slice A0_1 l0_1.length c0_1) := (Bc_ BK509.out 1).trans rfl; have hfz16_0 := Bf_ BK509.out 0; have hfz16_1 := Bf_ BK509.out 1))
    go_ret
    exact ⟨by first | rfl | (simp [errW_none, errW_some] <;> rfl) | (simp [*, errW_none, errW_some] <;> rfl), by repeat (first | (with_reducible first | exact HB.out | apply Al_ | apply Dn_ | apply D1_ | refine Bs_ ?_ GE509.out) | exact HB.out)⟩
  ·
   rw [if_neg c5] at H
   have c5b0 : decide (0 ≤ a1) = false := decide_eq_false c5
   clear c5
   obtain rfl := Option.some.inj H
   go_enter Tryd.func21, Tryd.ntmps21
   go_wp2_with (first | ((with_reducible refine gate_dst (N := 2) rfl ?_); refine box_event ?hg (N := 2) ?hd (cs := #[.int .i64 a0_0, .slice A0_1 l0_1.length c0_1]) (t := 26) ?hr ?_; (case hd => rfl); (case hg => rfl); (case hr => first | (go_simp; done) | (go_simp; rfl)); intro gb509 hg w17 hbox hb; have n0_ := A0_ (below_step (by repeat (first | (with_reducible first | exact HB.out | apply Al_ | apply Dn_ | apply D1_) | exact HB.out)) hb); have n1_ := A0_ (hbox); have n2_ := A0_ ((by rw [hg]; exact (below_size (by repeat (first | (with_reducible first | exact HB.out | apply Al_ | apply Dn_ | apply D1_) | exact HB.out))) : w.heap.size ≤ gb509)); have n3_ := A0_ ((by rw [hg]; exact (below_size (by repeat (first | (with_reducible first | exact HB.out | apply Al_ | apply Dn_ | apply D1_) | exact HB.out))) : w.heap.size ≤ gb509)); clear HB; have HB := n0_; have BK509 := n1_; have GW509 := n2_; have GE509 := n3_; clear n0_ n1_ n2_ n3_ hb hbox hg; have hcz18_0 : w17.cell? ⟨gb509, 0, none⟩ = some (.int .i64 a0_0) := (Bc_ BK509.out 0).trans rfl; have hcz18_1 : w17.cell? ⟨gb509, 1, none⟩ = some (.slice A0_1 l0_1.length c0_1) := (Bc_ BK509.out 1).trans rfl; have hfz18_0 := Bf_ BK509.out 0; have hfz18_1 := Bf_ BK509.out 1) | ((with_reducible refine gate_callee (f := 51) rfl ?_); refine goesL_ (some 6) rfl rfl Tryd.func51 (by kernel_rfl) rfl #[.agg #[.int .i64 a0_0, .slice A0_1 l0_1.length c0_1]] rfl (by (try simp only [List.map_toArray, List.map_cons, List.map_nil]); first | done | rfl | (simp only [List.length_drop, List.length_take]; rfl)) ?_; (with_reducible refine (r02Check.calls k a0_0 _ _ l0_1 t510 _ ?side1 ?side2 A3.out).mono ?_); (case side1 => repeat (first | exact (Kd.C_below HR0_1.out HB.out) | (with_reducible first | refine Kd.C_alloc ?_ _ | refine Kd.C_drewN ?_ _ | refine Kd.C_drew ?_))); (case side2 => exact HC0_1.out); rintro e w19 ⟨rfl, hb⟩; refine ⟨_, rfl, ?_⟩; have n0_ := A0_ (blk_below (g := gb509) (o := .cells #[.int .i64 a0_0, .slice A0_1 l0_1.length c0_1] 26 (0, 0)) (by (with_reducible repeat (first | refine Bn_ ?_ _ | refine Bd_ ?_ | refine Ba_ ?_ _)); exact BK509.out) hb); have n1_ := A0_ (below_step (by repeat (first | (with_reducible first | exact HB.out | apply Al_ | apply Dn_ | apply D1_ | refine Bs_ ?_ GE509.out) | exact HB.out)) hb); clear BK509 HB; have BK509 := n0_; have HB := n1_; clear n0_ n1_; (try clear hb); (try clear hb2); (try clear hk); (try clear hi)))
   go_ret
   exact ⟨by first | rfl | (simp [errW_none, errW_some] <;> rfl) | (simp [*, errW_none, errW_some] <;> rfl), by repeat (first | (with_reducible first | exact HB.out | apply Al_ | apply Dn_ | apply D1_ | refine Bs_ ?_ GE509.out) | exact HB.out)⟩
 ·
  rw [if_neg c4] at H
  have c4b0 : (t510 == 0) = false := beq_eq_false_iff_ne.mpr c4
  have c4b1 : (t510 != 0) = true := bne_iff_ne.mpr c4
  obtain rfl := Option.some.inj H
  go_enter Tryd.func21, Tryd.ntmps21
  go_wp2_with (first | ((with_reducible refine gate_dst (N := 2) rfl ?_); refine box_event ?hg (N := 2) ?hd (cs := #[.int .i64 a0_0, .slice A0_1 l0_1.length c0_1]) (t := 26) ?hr ?_; (case hd => rfl); (case hg => rfl); (case hr => first | (go_simp; done) | (go_simp; rfl)); intro gb509 hg w20 hbox hb; have n0_ := A0_ (below_step (by repeat (first | (with_reducible first | exact HB.out | apply Al_ | apply Dn_ | apply D1_) | exact HB.out)) hb); have n1_ := A0_ (hbox); have n2_ := A0_ ((by rw [hg]; exact (below_size (by repeat (first | (with_reducible first | exact HB.out | apply Al_ | apply Dn_ | apply D1_) | exact HB.out))) : w.heap.size ≤ gb509)); have n3_ := A0_ ((by rw [hg]; exact (below_size (by repeat (first | (with_reducible first | exact HB.out | apply Al_ | apply Dn_ | apply D1_) | exact HB.out))) : w.heap.size ≤ gb509)); clear HB; have HB := n0_; have BK509 := n1_; have GW509 := n2_; have GE509 := n3_; clear n0_ n1_ n2_ n3_ hb hbox hg; have hcz21_0 : w20.cell? ⟨gb509, 0, none⟩ = some (.int .i64 a0_0) := (Bc_ BK509.out 0).trans rfl; have hcz21_1 : w20.cell? ⟨gb509, 1, none⟩ = some (.slice A0_1 l0_1.length c0_1) := (Bc_ BK509.out 1).trans rfl; have hfz21_0 := Bf_ BK509.out 0; have hfz21_1 := Bf_ BK509.out 1) | ((with_reducible refine gate_callee (f := 51) rfl ?_); refine goesL_ (some 6) rfl rfl Tryd.func51 (by kernel_rfl) rfl #[.agg #[.int .i64 a0_0, .slice A0_1 l0_1.length c0_1]] rfl (by (try simp only [List.map_toArray, List.map_cons, List.map_nil]); first | done | rfl | (simp only [List.length_drop, List.length_take]; rfl)) ?_; (with_reducible refine (r02Check.calls k a0_0 _ _ l0_1 t510 _ ?side1 ?side2 A3.out).mono ?_); (case side1 => repeat (first | exact (Kd.C_below HR0_1.out HB.out) | (with_reducible first | refine Kd.C_alloc ?_ _ | refine Kd.C_drewN ?_ _ | refine Kd.C_drew ?_))); (case side2 => exact HC0_1.out); rintro e w22 ⟨rfl, hb⟩; refine ⟨_, rfl, ?_⟩; have n0_ := A0_ (blk_below (g := gb509) (o := .cells #[.int .i64 a0_0, .slice A0_1 l0_1.length c0_1] 26 (0, 0)) (by (with_reducible repeat (first | refine Bn_ ?_ _ | refine Bd_ ?_ | refine Ba_ ?_ _)); exact BK509.out) hb); have n1_ := A0_ (below_step (by repeat (first | (with_reducible first | exact HB.out | apply Al_ | apply Dn_ | apply D1_ | refine Bs_ ?_ GE509.out) | exact HB.out)) hb); clear BK509 HB; have BK509 := n0_; have HB := n1_; clear n0_ n1_; (try clear hb); (try clear hb2); (try clear hk); (try clear hi)))
  go_ret
  exact ⟨by first | rfl | (simp [errW_none, errW_some] <;> rfl) | (simp [*, errW_none, errW_some] <;> rfl), by repeat (first | (with_reducible first | exact HB.out | apply Al_ | apply Dn_ | apply D1_ | refine Bs_ ?_ GE509.out) | exact HB.out)⟩
def l17few.f (a0_0 : Int) (a0_1 : Int) (l0_2 : List Int) (a0_3 : Int) (l0_4 : List Int) : Option (Bool) := if (l0_2.length : Int) ≤ 300 then (some (decide ((l0_4.length : Int) ≤ 10))) else (some false)
set_option maxHeartbeats 8000000 in
set_option maxRecDepth 100000 in
theorem l17few.calls (a0_0 : Int) (a0_1 : Int) (A0_2 : Option Addr) (c0_2 : Nat) (l0_2 : List Int) (a0_3 : Int) (A0_4 : Option Addr) (c0_4 : Nat) (l0_4 : List Int) (r : Bool) (w : World) (hr0_2 : Kd.C (Kd.int .i64) w A0_2 l0_2.length l0_2) (hc0_2 : l0_2.length ≤ c0_2) (hr0_4 : Kd.C (Kd.int .u64) w A0_4 l0_4.length l0_4) (hc0_4 : l0_4.length ≤ c0_4) (h : l17few.f a0_0 a0_1 l0_2 a0_3 l0_4 = some r) :
  Calls Tryd.prog 22 #[.agg #[.int .i64 a0_0, .int .i64 a0_1, .slice A0_2 l0_2.length c0_2, .int .i64 a0_3, .slice A0_4 l0_4.length c0_4]] w fun e w' => e = .returned (.bool r) ∧ Below w.heap.size w w' := by
 have hu28 := Tryd.underlying28
 have HR0_2 := A0_ hr0_2
 have HC0_2 := A0_ hc0_2
 clear hr0_2 hc0_2
 have HR0_4 := A0_ hr0_4
 have HC0_4 := A0_ hc0_4
 clear hr0_4 hc0_4
 have HB := A0_ (Below.refl w.heap.size w)
 have H : (if (l0_2.length : Int) ≤ 300 then (some (decide ((l0_4.length : Int) ≤ 10))) else (some false)) = some r := h
 clear h
 by_cases c2 : (l0_2.length : Int) ≤ 300
 ·
  rw [if_pos c2] at H
  have c2b0 : decide ((l0_2.length : Int) ≤ 300) = true := decide_eq_true c2
  have c2b1 : decide (l0_2.length ≤ 300) = true := decide_eq_true (by omega)
  clear c2
  obtain rfl := Option.some.inj H
  go_enter Tryd.func22, Tryd.ntmps22
  go_wp2_with (first | ((with_reducible refine gate_dst (N := 1) rfl ?_); (try (refine gate_guard (by rfl) ?_; dsimp only)); refine box_event ?hg (N := 1) ?hd (cs := #[.int .i64 a0_0, .int .i64 a0_1, .slice A0_2 l0_2.length c0_2, .int .i64 a0_3, .slice A0_4 l0_4.length c0_4]) (t := 28) ?hr ?_; (case hd => rfl); (case hg => rfl); (case hr => first | (go_simp; done) | (go_simp; rfl)); intro gb560 hg w3 hbox hb; have n0_ := A0_ (below_step (by repeat (first | (with_reducible first | exact HB.out | apply Al_ | apply Dn_ | apply D1_) | exact HB.out)) hb); have n1_ := A0_ (hbox); have n2_ := A0_ ((by rw [hg]; exact (below_size (by repeat (first | (with_reducible first | exact HB.out | apply Al_ | apply Dn_ | apply D1_) | exact HB.out))) : w.heap.size ≤ gb560)); have n3_ := A0_ ((by rw [hg]; exact (below_size (by repeat (first | (with_reducible first | exact HB.out | apply Al_ | apply Dn_ | apply D1_) | exact HB.out))) : w.heap.size ≤ gb560)); clear HB; have HB := n0_; have BK560 := n1_; have GW560 := n2_; have GE560 := n3_; clear n0_ n1_ n2_ n3_ hb hbox hg; have hcz4_0 : w3.cell? ⟨gb560, 0, none⟩ = some (.int .i64 a0_0) := (Bc_ BK560.out 0).trans rfl; have hcz4_1 : w3.cell? ⟨gb560, 1, none⟩ = some (.int .i64 a0_1) := (Bc_ BK560.out 1).trans rfl; have hcz4_2 : w3.cell? ⟨gb560, 2, none⟩ = some (.slice A0_2 l0_2.length c0_2) := (Bc_ BK560.out 2).trans rfl; have hcz4_3 : w3.cell? ⟨gb560, 3, none⟩ = some (.int .i64 a0_3) := (Bc_ BK560.out 3).trans rfl; have hcz4_4 : w3.cell? ⟨gb560, 4, none⟩ = some (.slice A0_4 l0_4.length c0_4) := (Bc_ BK560.out 4).trans rfl; have hfz4_0 := Bf_ BK560.out 0; have hfz4_1 := Bf_ BK560.out 1; have hfz4_2 := Bf_ BK560.out 2; have hfz4_3 := Bf_ BK560.out 3; have hfz4_4 := Bf_ BK560.out 4))
  go_ret
  exact ⟨by first | rfl | (simp [errW_none, errW_some] <;> rfl) | (simp [*, errW_none, errW_some] <;> rfl), by repeat (first | (with_reducible first | exact HB.out | apply Al_ | apply Dn_ | apply D1_ | refine Bs_ ?_ GE560.out) | exact HB.out)⟩
 ·
  rw [if_neg c2] at H
  have c2b0 : decide ((l0_2.length : Int) ≤ 300) = false := decide_eq_false c2
  have c2b1 : decide (l0_2.length ≤ 300) = false := decide_eq_false (by omega)
  clear c2
  obtain rfl := Option.some.inj H
  go_enter Tryd.func22, Tryd.ntmps22
  go_wp2_with (first | ((with_reducible refine gate_dst (N := 1) rfl ?_); (try (refine gate_guard (by rfl) ?_; dsimp only)); refine box_event ?hg (N := 1) ?hd (cs := #[.int .i64 a0_0, .int .i64 a0_1, .slice A0_2 l0_2.length c0_2, .int .i64 a0_3, .slice A0_4 l0_4.length c0_4]) (t := 28) ?hr ?_; (case hd => rfl); (case hg => rfl); (case hr => first | (go_simp; done) | (go_simp; rfl)); intro gb560 hg w5 hbox hb; have n0_ := A0_ (below_step (by repeat (first | (with_reducible first | exact HB.out | apply Al_ | apply Dn_ | apply D1_) | exact HB.out)) hb); have n1_ := A0_ (hbox); have n2_ := A0_ ((by rw [hg]; exact (below_size (by repeat (first | (with_reducible first | exact HB.out | apply Al_ | apply Dn_ | apply D1_) | exact HB.out))) : w.heap.size ≤ gb560)); have n3_ := A0_ ((by rw [hg]; exact (below_size (by repeat (first | (with_reducible first | exact HB.out | apply Al_ | apply Dn_ | apply D1_) | exact HB.out))) : w.heap.size ≤ gb560)); clear HB; have HB := n0_; have BK560 := n1_; have GW560 := n2_; have GE560 := n3_; clear n0_ n1_ n2_ n3_ hb hbox hg; have hcz6_0 : w5.cell? ⟨gb560, 0, none⟩ = some (.int .i64 a0_0) := (Bc_ BK560.out 0).trans rfl; have hcz6_1 : w5.cell? ⟨gb560, 1, none⟩ = some (.int .i64 a0_1) := (Bc_ BK560.out 1).trans rfl; have hcz6_2 : w5.cell? ⟨gb560, 2, none⟩ = some (.slice A0_2 l0_2.length c0_2) := (Bc_ BK560.out 2).trans rfl; have hcz6_3 : w5.cell? ⟨gb560, 3, none⟩ = some (.int .i64 a0_3) := (Bc_ BK560.out 3).trans rfl; have hcz6_4 : w5.cell? ⟨gb560, 4, none⟩ = some (.slice A0_4 l0_4.length c0_4) := (Bc_ BK560.out 4).trans rfl; have hfz6_0 := Bf_ BK560.out 0; have hfz6_1 := Bf_ BK560.out 1; have hfz6_2 := Bf_ BK560.out 2; have hfz6_3 := Bf_ BK560.out 3; have hfz6_4 := Bf_ BK560.out 4))
  go_ret
  exact ⟨by first | rfl | (simp [errW_none, errW_some] <;> rfl) | (simp [*, errW_none, errW_some] <;> rfl), by repeat (first | (with_reducible first | exact HB.out | apply Al_ | apply Dn_ | apply D1_ | refine Bs_ ?_ GE560.out) | exact HB.out)⟩
def bytes_Equal.f (l0 : List Int) (l1 : List Int) : Option (Bool) := some ((strOfNums l0).toList == (strOfNums l1).toList)
set_option maxHeartbeats 8000000 in
set_option maxRecDepth 100000 in
theorem bytes_Equal.calls (A0 : Option Addr) (c0 : Nat) (l0 : List Int) (A1 : Option Addr) (c1 : Nat) (l1 : List Int) (r : Bool) (w : World) (hr0 : Kd.C (Kd.int .u8) w A0 l0.length l0) (hc0 : l0.length ≤ c0) (hr1 : Kd.C (Kd.int .u8) w A1 l1.length l1) (hc1 : l1.length ≤ c1) (h : bytes_Equal.f l0 l1 = some r) :
  Calls Tryd.prog 23 #[.slice A0 l0.length c0, .slice A1 l1.length c1] w fun e w' => e = .returned (.bool r) ∧ Drawn0 w w' := by
 have HR0 := A0_ hr0
 have HC0 := A0_ hc0
 clear hr0 hc0
 have HR1 := A0_ hr1
 have HC1 := A0_ hc1
 clear hr1 hc1
 have H : (some ((strOfNums l0).toList == (strOfNums l1).toList)) = some r := h
 clear h
 obtain rfl := Option.some.inj H
 have hcv3 := Kd.C_string (P := Tryd.prog) (A := A0) (c := c0) Tryd.underlying37 Tryd.underlying5 Tryd.underlying9 HR0.out
 have hcv4 := Kd.C_string (P := Tryd.prog) (A := A1) (c := c1) Tryd.underlying37 Tryd.underlying5 Tryd.underlying9 HR1.out
 go_enter Tryd.func23, Tryd.ntmps23
 go_wp2
 go_ret
 exact ⟨by first | rfl | (simp; done) | (simp [*]; done), by repeat (first | exact Drawn0.refl _ | apply Drawn0.step)⟩
end Go.Proofs.YtnjbdcnefienhaaDoor.P

namespace Go.Proofs.YtnjbdcnefienhaaDoor.P
open Go.RowKit Go.Proofs.YtnjbdcnefienhaaDoorW.PrintWords Go.Proofs.YtnjbdcnefienhaaDoorW.PrintLast Go.Proofs.YtnjbdcnefienhaaDoorW.PrintMore
def getS (size : Int) (ws : List Int) (i : Int) : Bool := good size ws && (decide (0 ≤ i ∧ i < size) && tb ws i.toNat)
theorem bget_eq {size : Int} {ws : List Int} (hU : U ws) (i : Int) {k : Nat} (hk : 5000 ≤ k) : bGet.f k size ws i = some (getS size ws i) := by
  unfold bGet.f getS
  rw [show k = (k - 1) + 1 by omega, bcheck_eq, Option.bind_some]
  by_cases hg : good size ws = true
  · have g := (good_iff _ _).1 hg
    obtain ⟨n, rfl, h1, h2, h3, h4⟩ := g.nat
    rw [if_pos hg, if_pos rfl, hg, Bool.true_and]
    by_cases h0 : i ≥ 0
    · rw [if_pos h0]
      obtain ⟨j, rfl⟩ : ∃ j : Nat, i = j := ⟨i.toNat, by omega⟩
      by_cases hj : (j : Int) < n
      · have hx := getD_U hU (j / 64)
        rw [if_pos hj, dv64 j (by omega), md64, if_pos (by omega), if_pos (by omega), if_pos (by omega), rd_nat, shr_bit hx (by omega)]
        rw [show decide ((0 : Int) ≤ (j : Int) ∧ (j : Int) < n) = true by rw [decide_eq_true_iff]; omega]
        rfl
      · rw [if_neg hj, show decide ((0 : Int) ≤ (j : Int) ∧ (j : Int) < n) = false by rw [decide_eq_false_iff_not]; omega]; rfl
    · rw [if_neg h0, show decide ((0 : Int) ≤ i ∧ i < n) = false by rw [decide_eq_false_iff_not]; omega]; rfl
  · rw [if_neg hg, if_neg (by decide)]
    rw [Bool.not_eq_true] at hg
    rw [hg]; rfl
theorem rget_eq {size : Int} {ws : List Int} (hU : U ws) (i : Int) {k : Nat} (hk : 5000 ≤ k) : r02Get.f k size ws i = some (getS size ws i) := by
  unfold r02Get.f getS
  rw [rcheck_eq hU hk, Option.bind_some]
  by_cases hg : good size ws = true
  · have g := (good_iff _ _).1 hg
    obtain ⟨n, rfl, h1, h2, h3, h4⟩ := g.nat
    rw [if_pos hg, if_pos rfl, hg, Bool.true_and]
    by_cases h0 : i ≥ 0
    · rw [if_pos h0]
      obtain ⟨j, rfl⟩ : ∃ j : Nat, i = j := ⟨i.toNat, by omega⟩
      by_cases hj : (j : Int) < n
      · rw [if_pos hj, bit_eq _ hU (by omega) (by omega), Option.bind_some]
        rw [show decide ((0 : Int) ≤ (j : Int) ∧ (j : Int) < n) = true by rw [decide_eq_true_iff]; omega]
        rfl
      · rw [if_neg hj, show decide ((0 : Int) ≤ (j : Int) ∧ (j : Int) < n) = false by rw [decide_eq_false_iff_not]; omega]; rfl
    · rw [if_neg h0, show decide ((0 : Int) ≤ i ∧ i < n) = false by rw [decide_eq_false_iff_not]; omega]; rfl
  · rw [if_neg hg, if_neg (by decide)]
    rw [Bool.not_eq_true] at hg
    rw [hg]; rfl
end Go.Proofs.YtnjbdcnefienhaaDoor.P

namespace Go.Proofs.YtnjbdcnefienhaaDoor.P
open Go.RowKit Go.Proofs.YtnjbdcnefienhaaDoorW.PrintWords Go.Proofs.YtnjbdcnefienhaaDoorW.PrintLast Go.Proofs.YtnjbdcnefienhaaDoorW.PrintMore
theorem joinE_nil (x : Int) : joinE [] x = [⟨x, 1⟩] := rfl
theorem joinE_snoc (L : List S49) (e : S49) (x : Int) : joinE (L ++ [e]) x = if wrap64 (e.f0 + e.f1) = x then L ++ [⟨e.f0, wrap64 (e.f1 + 1)⟩] else (L ++ [e]) ++ [⟨x, 1⟩] := by
  unfold joinE
  rw [List.getLast?_concat, List.dropLast_concat]
theorem joinE_len (l : List S49) (x : Int) : (joinE l x).length ≤ l.length + 1 := by
  rcases l.eq_nil_or_concat with h | ⟨L, e, h⟩
  · subst h; simp [joinE_nil]
  · rw [List.concat_eq_append] at h
    subst h
    rw [joinE_snoc]
    split <;> simp
def extS (size : Int) (ws : List Int) : List S49 := (bElems size ws 0).foldl joinE []
theorem rext_loop {ws : List Int} (hU : U ws) (size : Nat) (hl : ws.length ≤ 64) (hs : size ≤ 64 * ws.length) : ∀ (n k i : Nat) (l : List S49), i + n = size → n < k → l.length + n ≤ 5000 →
    r02Extents.l0 k l i size ws = some (((nats ws i size).map fun (b : Nat) => (b : Int)).foldl joinE l) := by
  intro n
  induction n with
  | zero =>
    intro k i l hi hk hb
    obtain ⟨k, rfl⟩ : ∃ m, k = m + 1 := ⟨k - 1, by omega⟩
    rw [r02Extents.l0, if_neg (by omega), nats_nil (by omega)]; rfl
  | succ n ih =>
    intro k i l hi hk hb
    obtain ⟨k, rfl⟩ : ∃ m, k = m + 1 := ⟨k - 1, by omega⟩
    rw [r02Extents.l0, if_pos (by omega), bit_eq _ hU (by omega) (by omega), Option.bind_some, wsucc i (by omega), nats_cons (lo := i) (by omega)]
    cases tb ws i
    · rw [if_neg (by decide), if_neg (by decide), ih k (i + 1) l (by omega) (by omega) (by omega)]
    · rw [if_pos rfl, if_pos rfl, List.map_cons, List.foldl_cons]
      rcases l.eq_nil_or_concat with h | ⟨L, e, h⟩
      · subst h
        rw [if_neg (by simp), if_pos (by simp), ih k (i + 1) _ (by omega) (by omega) (by simp at hb ⊢; omega)]
        rfl
      · rw [List.concat_eq_append] at h
        subst h
        have hlen : (L ++ [e]).length = L.length + 1 := by simp
        have hd : wrap64 (((L ++ [e]).length : Int) - 1) = (L.length : Int) := by rw [hlen, w64 _ (by omega) (by omega)]; omega
        have hr : rd_T49 (L ++ [e]) (L.length : Int) = e := by
          unfold rd_T49
          rw [Int.toNat_natCast, List.getD_eq_getElem?_getD, List.getElem?_append_right (Nat.le_refl _)]
          simp
        rw [if_pos (by rw [hlen]; omega), hd, if_pos (by omega), if_pos (by rw [hlen]; omega), hr, joinE_snoc, Int.toNat_natCast]
        by_cases hj : wrap64 (e.f0 + e.f1) = (i : Int)
        · rw [if_pos hj, if_pos hj]
          have hset : (L ++ [e]).set L.length (⟨e.f0, wrap64 (e.f1 + 1)⟩ : S49) = L ++ [⟨e.f0, wrap64 (e.f1 + 1)⟩] := by
            rw [List.set_append_right _ _ (Nat.le_refl _)]; simp
          rw [hset, ih k (i + 1) _ (by omega) (by omega) (by simp at hb ⊢; omega)]
        · rw [if_neg hj, if_neg hj, if_pos (by omega), ih k (i + 1) _ (by omega) (by omega) (by simp at hb ⊢; omega)]
theorem rext_eq {size : Int} {ws : List Int} (hU : U ws) {k : Nat} (hk : 5000 ≤ k) : r02Extents.f k size ws = some (extS size ws) := by
  unfold r02Extents.f extS
  rw [rcheck_eq hU hk, Option.bind_some]
  by_cases hg : good size ws = true
  · have g := (good_iff _ _).1 hg
    obtain ⟨n, rfl, h1, h2, h3, h4⟩ := g.nat
    rw [if_pos hg, if_pos rfl]
    have := bElems_eq hU (lo := 0) g (by omega)
    rw [show ((0 : Nat) : Int) = 0 from rfl] at this
    rw [this]
    exact rext_loop hU n h4 h2 n k 0 [] (by omega) (by omega) (by simp; omega)
  · rw [if_neg hg, if_neg (by decide)]
    unfold bElems
    rw [if_neg hg]; rfl
theorem bext_eq (size : Int) (ws : List Int) : bExtents.f size ws = some (extS size ws) := rfl
theorem fold_len (xs : List Int) : ∀ l, (xs.foldl joinE l).length ≤ l.length + xs.length := by
  induction xs with
  | nil => intro l; simp
  | cons x xs ih => intro l; rw [List.foldl_cons]; have := ih (joinE l x); have := joinE_len l x; simp only [List.length_cons]; omega
theorem nats_len (ws : List Int) (lo size : Nat) : (nats ws lo size).length ≤ size - lo := by
  unfold nats
  refine Nat.le_trans (List.length_filter_le _ _) ?_
  rw [List.length_range']
  exact Nat.le_refl _
theorem extS_len {size : Int} {ws : List Int} (hU : U ws) : (extS size ws).length ≤ 4096 := by
  unfold extS
  by_cases hg : good size ws = true
  · have g := (good_iff _ _).1 hg
    obtain ⟨n, rfl, h1, h2, h3, h4⟩ := g.nat
    have := bElems_eq hU (lo := 0) g (by omega)
    rw [show ((0 : Nat) : Int) = 0 from rfl] at this
    rw [this]
    have h := fold_len ((nats ws 0 n).map fun (b : Nat) => (b : Int)) []
    rw [List.length_map] at h
    have := nats_len ws 0 n
    simp only [List.length_nil] at h
    omega
  · unfold bElems
    rw [if_neg hg]; simp
theorem drop_cons (l : List S49) {i : Nat} (hi : i < l.length) : l.drop i = rd_T49 l (i : Int) :: l.drop (i + 1) := by
  rw [List.drop_eq_getElem_cons hi]
  unfold rd_T49
  rw [Int.toNat_natCast, List.getD_eq_getElem?_getD, List.getElem?_eq_getElem hi]; rfl
end Go.Proofs.YtnjbdcnefienhaaDoor.P

namespace Go.Proofs.YtnjbdcnefienhaaDoor.P
open Go.RowKit Go.Proofs.YtnjbdcnefienhaaDoorW.PrintWords Go.Proofs.YtnjbdcnefienhaaDoorW.PrintLast Go.Proofs.YtnjbdcnefienhaaDoorW.PrintMore
attribute [local go_sem] max2_int min2_int max_two min_two max_three min_three max_four min_four   -- for this text's walks alone
set_option linter.unusedVariables false
set_option linter.unusedSimpArgs false
mutual
def r17Check.j0 : Nat → Int → Bool → Int → Int → List Int → Int → List Int → Option (Int)
 | 0, _, _, _, _, _, _, _ => none
 | k + 1, x3, x33, x562000, x562001, x562002, x562003, x562004 => if x33 = true then (some 3) else (r17Check.l0 k x3 0 x562000 x562001 x562002 x562003 x562004)
def r17Check.l0 : Nat → Int → Int → Int → Int → List Int → Int → List Int → Option (Int)
 | 0, _, _, _, _, _, _, _ => none
 | k + 1, x3, x4, x562000, x562001, x562002, x562003, x562004 => if x4 < x3 then (if 0 ≤ x4 then (if x4 < (x562002.length : Int) then (if (rd x562002 x4) < 0 then (some 3) else (if (rd x562002 x4) > 4096 then (some 3) else (if (rd x562002 x4) > 0 then ((r02Get.f k x562003 x562004 x4).bind fun t568 => (if t568 = true then (r17Check.l0 k x3 (wrap64 (x4 + 1)) x562000 x562001 x562002 x562003 x562004) else (some 3))) else (r17Check.l0 k x3 (wrap64 (x4 + 1)) x562000 x562001 x562002 x562003 x562004)))) else (none)) else (none)) else (some 0)
end
def r17Check.f (k : Nat) (a0_0 : Int) (a0_1 : Int) (l0_2 : List Int) (a0_3 : Int) (l0_4 : List Int) : Option (Int) := (r17sizes.f a0_0 a0_1).bind fun t562 => (if t562 = true then ((r17Granules.f a0_0 a0_1).bind fun t563 => (if (l0_2.length : Int) = t563 then ((r02Check.f k a0_3 l0_4).bind fun t564 => (if t564 = 0 then (r17Check.j0 k t563 (a0_3 != t563) a0_0 a0_1 l0_2 a0_3 l0_4) else (r17Check.j0 k t563 true a0_0 a0_1 l0_2 a0_3 l0_4))) else (r17Check.j0 k t563 true a0_0 a0_1 l0_2 a0_3 l0_4))) else (some 3))
set_option maxHeartbeats 8000000 in
set_option maxRecDepth 100000 in
theorem r17Check.calls (k : Nat) (a0_0 : Int) (a0_1 : Int) (A0_2 : Option Addr) (c0_2 : Nat) (l0_2 : List Int) (a0_3 : Int) (A0_4 : Option Addr) (c0_4 : Nat) (l0_4 : List Int) (r : Int) (w : World) (hr0_2 : Kd.C (Kd.int .i64) w A0_2 l0_2.length l0_2) (hc0_2 : l0_2.length ≤ c0_2) (hr0_4 : Kd.C (Kd.int .u64) w A0_4 l0_4.length l0_4) (hc0_4 : l0_4.length ≤ c0_4) (h : r17Check.f k a0_0 a0_1 l0_2 a0_3 l0_4 = some r) :
  Calls Tryd.prog 53 #[.agg #[.int .i64 a0_0, .int .i64 a0_1, .slice A0_2 l0_2.length c0_2, .int .i64 a0_3, .slice A0_4 l0_4.length c0_4]] w fun e w' => e = .returned (.int .i64 r) ∧ Below w.heap.size w w' := by
 have hu28 := Tryd.underlying28
 have hu26 := Tryd.underlying26
 have HR0_2 := A0_ hr0_2
 have HC0_2 := A0_ hc0_2
 clear hr0_2 hc0_2
 have HR0_4 := A0_ hr0_4
 have HC0_4 := A0_ hc0_4
 clear hr0_4 hc0_4
 have HB := A0_ (Below.refl w.heap.size w)
 have H : ((r17sizes.f a0_0 a0_1).bind fun t562 => (if t562 = true then ((r17Granules.f a0_0 a0_1).bind fun t563 => (if (l0_2.length : Int) = t563 then ((r02Check.f k a0_3 l0_4).bind fun t564 => (if t564 = 0 then (r17Check.j0 k t563 (a0_3 != t563) a0_0 a0_1 l0_2 a0_3 l0_4) else (r17Check.j0 k t563 true a0_0 a0_1 l0_2 a0_3 l0_4))) else (r17Check.j0 k t563 true a0_0 a0_1 l0_2 a0_3 l0_4))) else (some 3))) = some r := h
 clear h
 replace H := Option.bind_eq_some_iff.mp H
 obtain ⟨t562, A20, H⟩ := H
 replace H : (if t562 = true then ((r17Granules.f a0_0 a0_1).bind fun t563 => (if (l0_2.length : Int) = t563 then ((r02Check.f k a0_3 l0_4).bind fun t564 => (if t564 = 0 then (r17Check.j0 k t563 (a0_3 != t563) a0_0 a0_1 l0_2 a0_3 l0_4) else (r17Check.j0 k t563 true a0_0 a0_1 l0_2 a0_3 l0_4))) else (r17Check.j0 k t563 true a0_0 a0_1 l0_2 a0_3 l0_4))) else (some 3)) = some r := H
 have A2 := A0_ A20
 clear A20
 by_cases c3 : t562 = true
 ·
  subst c3
  have H1 : ((r17Granules.f a0_0 a0_1).bind fun t563 => (if (l0_2.length : Int) = t563 then ((r02Check.f k a0_3 l0_4).bind fun t564 => (if t564 = 0 then (r17Check.j0 k t563 (a0_3 != t563) a0_0 a0_1 l0_2 a0_3 l0_4) else (r17Check.j0 k t563 true a0_0 a0_1 l0_2 a0_3 l0_4))) else (r17Check.j0 k t563 true a0_0 a0_1 l0_2 a0_3 l0_4))) = some r := by rw [if_pos rfl] at H; exact H
  clear H
  have H := H1
  clear H1
  replace H := Option.bind_eq_some_iff.mp H
  obtain ⟨t563, A40, H⟩ := H
  replace H : (if (l0_2.length : Int) = t563 then ((r02Check.f k a0_3 l0_4).bind fun t564 => (if t564 = 0 then (r17Check.j0 k t563 (a0_3 != t563) a0_0 a0_1 l0_2 a0_3 l0_4) else (r17Check.j0 k t563 true a0_0 a0_1 l0_2 a0_3 l0_4))) else (r17Check.j0 k t563 true a0_0 a0_1 l0_2 a0_3 l0_4)) = some r := H
  have A4 := A0_ A40
  clear A40
  have HC5 := A0_ H
  clear H
  go_enter Tryd.func53, Tryd.ntmps53
  go_upto_region 4 with (first | ((with_reducible refine gate_dst (N := 1) rfl ?_); refine box_event ?hg (N := 1) ?hd (cs := #[.int .i64 a0_0, .int .i64 a0_1, .slice A0_2 l0_2.length c0_2, .int .i64 a0_3, .slice A0_4 l0_4.length c0_4]) (t := 28) ?hr ?_; (case hd => rfl); (case hg => rfl); (case hr => first | (go_simp; done) | (go_simp; rfl)); intro gb561 hg w6 hbox hb; have n0_ := A0_ (below_step (by repeat (first | (with_reducible first | exact HB.out | apply Al_ | apply Dn_ | apply D1_) | exact HB.out)) hb); have n1_ := A0_ (hbox); have n2_ := A0_ ((by rw [hg]; exact (below_size (by repeat (first | (with_reducible first | exact HB.out | apply Al_ | apply Dn_ | apply D1_) | exact HB.out))) : w.heap.size ≤ gb561)); have n3_ := A0_ ((by rw [hg]; exact (below_size (by repeat (first | (with_reducible first | exact HB.out | apply Al_ | apply Dn_ | apply D1_) | exact HB.out))) : w.heap.size ≤ gb561)); clear HB; have HB := n0_; have BK561 := n1_; have GW561 := n2_; have GE561 := n3_; clear n0_ n1_ n2_ n3_ hb hbox hg; have hcz7_0 : w6.cell? ⟨gb561, 0, none⟩ = some (.int .i64 a0_0) := (Bc_ BK561.out 0).trans rfl; have hcz7_1 : w6.cell? ⟨gb561, 1, none⟩ = some (.int .i64 a0_1) := (Bc_ BK561.out 1).trans rfl; have hcz7_2 : w6.cell? ⟨gb561, 2, none⟩ = some (.slice A0_2 l0_2.length c0_2) := (Bc_ BK561.out 2).trans rfl; have hcz7_3 : w6.cell? ⟨gb561, 3, none⟩ = some (.int .i64 a0_3) := (Bc_ BK561.out 3).trans rfl; have hcz7_4 : w6.cell? ⟨gb561, 4, none⟩ = some (.slice A0_4 l0_4.length c0_4) := (Bc_ BK561.out 4).trans rfl; have hfz7_0 := Bf_ BK561.out 0; have hfz7_1 := Bf_ BK561.out 1; have hfz7_2 := Bf_ BK561.out 2; have hfz7_3 := Bf_ BK561.out 3; have hfz7_4 := Bf_ BK561.out 4) | ((with_reducible refine gate_callee (f := 30) rfl ?_); refine goesL_ (some 9) rfl rfl Tryd.func30 (by kernel_rfl) rfl #[.int .i64 a0_0, .int .i64 a0_1] rfl (by (try simp only [List.map_toArray, List.map_cons, List.map_nil]); first | done | rfl | (simp only [List.length_drop, List.length_take]; rfl)) ?_; (with_reducible refine (r17sizes.calls a0_0 a0_1 true _ A2.out).mono ?_); rintro e w' ⟨rfl, ⟨nd, rfl⟩⟩; refine ⟨_, rfl, ?_⟩) | ((with_reducible refine gate_callee (f := 31) rfl ?_); refine goesL_ (some 15) rfl rfl Tryd.func31 (by kernel_rfl) rfl #[.int .i64 a0_0, .int .i64 a0_1] rfl (by (try simp only [List.map_toArray, List.map_cons, List.map_nil]); first | done | rfl | (simp only [List.length_drop, List.length_take]; rfl)) ?_; (with_reducible refine (r17Granules.calls a0_0 a0_1 t563 _ A4.out).mono ?_); rintro e w' ⟨rfl, ⟨nd, rfl⟩⟩; refine ⟨_, rfl, ?_⟩))
  (try simp only [Act.put, Sa_, Sz_, Ss_])
  go_cut [33] (fun v33 wc => ∃ (kq : Nat) (x33_4 : Bool), v33 = .bool x33_4 ∧ Aside0 (r17Check.j0 kq t563 x33_4 a0_0 a0_1 l0_2 a0_3 l0_4 = some r) ∧ Aside0 (kq ≤ k) ∧ Aside0 (wc.heap[gb561]? = some (.cells #[.int .i64 a0_0, .int .i64 a0_1, (.slice A0_2 l0_2.length c0_2), .int .i64 a0_3, (.slice A0_4 l0_4.length c0_4)] 28 (0, 0))) ∧ Aside0 (Below w.heap.size w wc))
  case first =>
   have H := HC5.out
   clear HC5
   by_cases c8 : (l0_2.length : Int) = t563
   ·
    rw [if_pos c8] at H
    have c8b0 : ((l0_2.length : Int) == t563) = true := beq_iff_eq.mpr c8
    have c8b1 : ((l0_2.length : Int) != t563) = false := bne_eq_false_iff_eq.mpr c8
    clear c8
    (first | rw [c8b0] | (simp only [i64_w, i32_w]; rw [c8b0]) | skip)
    replace H := Option.bind_eq_some_iff.mp H
    obtain ⟨t564, A90, H⟩ := H
    replace H : (if t564 = 0 then (r17Check.j0 k t563 (a0_3 != t563) a0_0 a0_1 l0_2 a0_3 l0_4) else (r17Check.j0 k t563 true a0_0 a0_1 l0_2 a0_3 l0_4)) = some r := H
    have A9 := A0_ A90
    clear A90
    by_cases c10 : t564 = 0
    ·
     rw [if_pos c10] at H
     have c10b0 : (t564 == 0) = true := beq_iff_eq.mpr c10
     have c10b1 : (t564 != 0) = false := bne_eq_false_iff_eq.mpr c10
     clear c10
     have H' := A0_ H
     clear H
     have hcz11_0 : w6.cell? ⟨gb561, 0, none⟩ = some (.int .i64 a0_0) := (Bc_ BK561.out 0).trans rfl
     have hcz11_1 : w6.cell? ⟨gb561, 1, none⟩ = some (.int .i64 a0_1) := (Bc_ BK561.out 1).trans rfl
     have hcz11_2 : w6.cell? ⟨gb561, 2, none⟩ = some (.slice A0_2 l0_2.length c0_2) := (Bc_ BK561.out 2).trans rfl
     have hcz11_3 : w6.cell? ⟨gb561, 3, none⟩ = some (.int .i64 a0_3) := (Bc_ BK561.out 3).trans rfl
     have hcz11_4 : w6.cell? ⟨gb561, 4, none⟩ = some (.slice A0_4 l0_4.length c0_4) := (Bc_ BK561.out 4).trans rfl
     have hfz11_0 := Bf_ BK561.out 0
     have hfz11_1 := Bf_ BK561.out 1
     have hfz11_2 := Bf_ BK561.out 2
     have hfz11_3 := Bf_ BK561.out 3
     have hfz11_4 := Bf_ BK561.out 4
     go_wp2_with (first | (go_at_call 51; (with_reducible refine (r02Check.calls k a0_3 _ _ l0_4 t564 _ ?side1 ?side2 A9.out).mono ?_); (case side1 => repeat (first | exact (Kd.C_below HR0_4.out HB.out) | (with_reducible first | refine Kd.C_alloc ?_ _ | refine Kd.C_drewN ?_ _ | refine Kd.C_drew ?_))); (case side2 => exact HC0_4.out); rintro e w12 ⟨rfl, hb⟩; have n0_ := A0_ (blk_below (g := gb561) (o := .cells #[.int .i64 a0_0, .int .i64 a0_1, .slice A0_2 l0_2.length c0_2, .int .i64 a0_3, .slice A0_4 l0_4.length c0_4] 28 (0, 0)) (by (with_reducible repeat (first | refine Bn_ ?_ _ | refine Bd_ ?_ | refine Ba_ ?_ _)); exact BK561.out) hb); have n1_ := A0_ (below_step (by repeat (first | (with_reducible first | exact HB.out | apply Al_ | apply Dn_ | apply D1_ | refine Bs_ ?_ GE561.out) | exact HB.out)) hb); clear BK561 HB; have BK561 := n0_; have HB := n1_; clear n0_ n1_; (try clear hb); (try clear hb2); (try clear hk); (try clear hi); have hcz13_0 : w12.cell? ⟨gb561, 0, none⟩ = some (.int .i64 a0_0) := (Bc_ BK561.out 0).trans rfl; have hcz13_1 : w12.cell? ⟨gb561, 1, none⟩ = some (.int .i64 a0_1) := (Bc_ BK561.out 1).trans rfl; have hcz13_2 : w12.cell? ⟨gb561, 2, none⟩ = some (.slice A0_2 l0_2.length c0_2) := (Bc_ BK561.out 2).trans rfl; have hcz13_3 : w12.cell? ⟨gb561, 3, none⟩ = some (.int .i64 a0_3) := (Bc_ BK561.out 3).trans rfl; have hcz13_4 : w12.cell? ⟨gb561, 4, none⟩ = some (.slice A0_4 l0_4.length c0_4) := (Bc_ BK561.out 4).trans rfl; have hfz13_0 := Bf_ BK561.out 0; have hfz13_1 := Bf_ BK561.out 1; have hfz13_2 := Bf_ BK561.out 2; have hfz13_3 := Bf_ BK561.out 3; have hfz13_4 := Bf_ BK561.out 4))
     go_meet
     case rel => exact ⟨_, ((a0_3 != t563)), (by first | rfl | (simp; done) | (simp [*]; done)), H', ⟨by first | omega | exact Nat.le_refl _⟩, ⟨by (with_reducible repeat (first | refine Bn_ ?_ _ | refine Bd_ ?_ | refine Ba_ ?_ _)); exact BK561.out⟩, ⟨by repeat (first | (with_reducible first | exact HB.out | apply Al_ | apply Dn_ | apply D1_ | refine Bs_ ?_ GE561.out) | exact HB.out)⟩⟩
    ·
     rw [if_neg c10] at H
     have c10b0 : (t564 == 0) = false := beq_eq_false_iff_ne.mpr c10
     have c10b1 : (t564 != 0) = true := bne_iff_ne.mpr c10
     have H' := A0_ H
     clear H
     have hcz14_0 : w6.cell? ⟨gb561, 0, none⟩ = some (.int .i64 a0_0) := (Bc_ BK561.out 0).trans rfl
     have hcz14_1 : w6.cell? ⟨gb561, 1, none⟩ = some (.int .i64 a0_1) := (Bc_ BK561.out 1).trans rfl
     have hcz14_2 : w6.cell? ⟨gb561, 2, none⟩ = some (.slice A0_2 l0_2.length c0_2) := (Bc_ BK561.out 2).trans rfl
     have hcz14_3 : w6.cell? ⟨gb561, 3, none⟩ = some (.int .i64 a0_3) := (Bc_ BK561.out 3).trans rfl
     have hcz14_4 : w6.cell? ⟨gb561, 4, none⟩ = some (.slice A0_4 l0_4.length c0_4) := (Bc_ BK561.out 4).trans rfl
     have hfz14_0 := Bf_ BK561.out 0
     have hfz14_1 := Bf_ BK561.out 1
     have hfz14_2 := Bf_ BK561.out 2
     have hfz14_3 := Bf_ BK561.out 3
     have hfz14_4 := Bf_ BK561.out 4
     go_wp2_with (first | (go_at_call 51; (with_reducible refine (r02Check.calls k a0_3 _ _ l0_4 t564 _ ?side1 ?side2 A9.out).mono ?_); (case side1 => repeat (first | exact (Kd.C_below HR0_4.out HB.out) | (with_reducible first | refine Kd.C_alloc ?_ _ | refine Kd.C_drewN ?_ _ | refine Kd.C_drew ?_))); (case side2 => exact HC0_4.out); rintro e w15 ⟨rfl, hb⟩; have n0_ := A0_ (blk_below (g := gb561) (o := .cells #[.int .i64 a0_0, .int .i64 a0_1, .slice A0_2 l0_2.length c0_2, .int .i64 a0_3, .slice A0_4 l0_4.length c0_4] 28 (0, 0)) (by (with_reducible repeat (first | refine Bn_ ?_ _ | refine Bd_ ?_ | refine Ba_ ?_ _)); exact BK561.out) hb); have n1_ := A0_ (below_step (by repeat (first | (with_reducible first | exact HB.out | apply Al_ | apply Dn_ | apply D1_ | refine Bs_ ?_ GE561.out) | exact HB.out)) hb); clear BK561 HB; have BK561 := n0_; have HB := n1_; clear n0_ n1_; (try clear hb); (try clear hb2); (try clear hk); (try clear hi)))
     go_meet
     case rel => exact ⟨_, (true), (by first | rfl | (simp; done) | (simp [*]; done)), H', ⟨by first | omega | exact Nat.le_refl _⟩, ⟨by (with_reducible repeat (first | refine Bn_ ?_ _ | refine Bd_ ?_ | refine Ba_ ?_ _)); exact BK561.out⟩, ⟨by repeat (first | (with_reducible first | exact HB.out | apply Al_ | apply Dn_ | apply D1_ | refine Bs_ ?_ GE561.out) | exact HB.out)⟩⟩
   ·
    rw [if_neg c8] at H
    have c8b0 : ((l0_2.length : Int) == t563) = false := beq_eq_false_iff_ne.mpr c8
    have c8b1 : ((l0_2.length : Int) != t563) = true := bne_iff_ne.mpr c8
    (first | rw [c8b0] | (simp only [i64_w, i32_w]; rw [c8b0]) | skip)
    have H' := A0_ H
    clear H
    have hcz16_0 : w6.cell? ⟨gb561, 0, none⟩ = some (.int .i64 a0_0) := (Bc_ BK561.out 0).trans rfl
    have hcz16_1 : w6.cell? ⟨gb561, 1, none⟩ = some (.int .i64 a0_1) := (Bc_ BK561.out 1).trans rfl
    have hcz16_2 : w6.cell? ⟨gb561, 2, none⟩ = some (.slice A0_2 l0_2.length c0_2) := (Bc_ BK561.out 2).trans rfl
    have hcz16_3 : w6.cell? ⟨gb561, 3, none⟩ = some (.int .i64 a0_3) := (Bc_ BK561.out 3).trans rfl
    have hcz16_4 : w6.cell? ⟨gb561, 4, none⟩ = some (.slice A0_4 l0_4.length c0_4) := (Bc_ BK561.out 4).trans rfl
    have hfz16_0 := Bf_ BK561.out 0
    have hfz16_1 := Bf_ BK561.out 1
    have hfz16_2 := Bf_ BK561.out 2
    have hfz16_3 := Bf_ BK561.out 3
    have hfz16_4 := Bf_ BK561.out 4
    go_wp2
    go_meet
    case rel => exact ⟨_, (true), (by first | rfl | (simp; done) | (simp [*]; done)), H', ⟨by first | omega | exact Nat.le_refl _⟩, ⟨by (with_reducible repeat (first | refine Bn_ ?_ _ | refine Bd_ ?_ | refine Ba_ ?_ _)); exact BK561.out⟩, ⟨by repeat (first | (with_reducible first | exact HB.out | apply Al_ | apply Dn_ | apply D1_ | refine Bs_ ?_ GE561.out) | exact HB.out)⟩⟩
  case rest =>
   clear HC5
   try clear c1
   try clear p2
   try clear c3
   try clear c5
   try clear c8
   try clear c8b0
   try clear c8b1
   try clear c10
   try clear c10b0
   try clear c10b1
   try clear hcz11_0
   try clear hcz11_1
   try clear hcz11_2
   try clear hcz11_3
   try clear hcz11_4
   try clear hcz13_0
   try clear hcz13_1
   try clear hcz13_2
   try clear hcz13_3
   try clear hcz13_4
   try clear hcz14_0
   try clear hcz14_1
   try clear hcz14_2
   try clear hcz14_3
   try clear hcz14_4
   try clear hcz16_0
   try clear hcz16_1
   try clear hcz16_2
   try clear hcz16_3
   try clear hcz16_4
   try clear hcz7_0
   try clear hcz7_1
   try clear hcz7_2
   try clear hcz7_3
   try clear hcz7_4
   try clear hfz11_0
   try clear hfz11_1
   try clear hfz11_2
   try clear hfz11_3
   try clear hfz11_4
   try clear hfz13_0
   try clear hfz13_1
   try clear hfz13_2
   try clear hfz13_3
   try clear hfz13_4
   try clear hfz14_0
   try clear hfz14_1
   try clear hfz14_2
   try clear hfz14_3
   try clear hfz14_4
   try clear hfz16_0
   try clear hfz16_1
   try clear hfz16_2
   try clear hfz16_3
   try clear hfz16_4
   try clear hfz7_0
   try clear hfz7_1
   try clear hfz7_2
   try clear hfz7_3
   try clear hfz7_4
   obtain ⟨kq, x33_4, rfl, HA, HJ4, BK561, HB⟩ := hcut
   cases kq with
   | zero => exact absurd HA.out (by simp [r17Check.j0])
   | succ kj4 =>
    have H := HA.out
    clear HA
    simp only [r17Check.j0] at H
    by_cases c17 : x33_4 = true
    ·
     subst c17
     have H1 : (some 3) = some r := by rw [if_pos rfl] at H; exact H
     clear H
     have H := H1
     clear H1
     obtain rfl := Option.some.inj H
     go_wp2
     go_ret
     exact ⟨by first | rfl | (simp [errW_none, errW_some] <;> rfl) | (simp [*, errW_none, errW_some] <;> rfl), by repeat (first | (with_reducible first | exact HB.out | apply Al_ | apply Dn_ | apply D1_ | refine Bs_ ?_ GE561.out) | exact HB.out)⟩
    ·
     replace c17 := Bool.eq_false_iff.mpr c17
     subst c17
     have H1 : (r17Check.l0 kj4 t563 0 a0_0 a0_1 l0_2 a0_3 l0_4) = some r := by rw [if_neg (show ¬ (false = true) by decide)] at H; exact H
     clear H
     have H := H1
     clear H1
     have H' := A0_ H
     clear H
     go_wp2
     go_loopg [4] kj4 (fun kq v4 w' => ∃ (x4_2 : Int), v4 = .int .i64 x4_2 ∧ Aside0 (r17Check.l0 kq t563 x4_2 a0_0 a0_1 l0_2 a0_3 l0_4 = some r) ∧ Aside0 (kq ≤ kj4) ∧ Aside0 (w'.heap[gb561]? = some (.cells #[.int .i64 a0_0, .int .i64 a0_1, (.slice A0_2 l0_2.length c0_2), .int .i64 a0_3, (.slice A0_4 l0_4.length c0_4)] 28 (0, 0))) ∧ Aside0 (Below w.heap.size w w'))
     case atStart => exact ⟨(0), (by first | rfl | (simp; done) | (simp [*]; done)), H', ⟨Nat.le_refl _⟩, ⟨by (with_reducible repeat (first | refine Bn_ ?_ _ | refine Bd_ ?_ | refine Ba_ ?_ _)); exact BK561.out⟩, ⟨by repeat (first | (with_reducible first | exact HB.out | apply Al_ | apply Dn_ | apply D1_ | refine Bs_ ?_ GE561.out) | exact HB.out)⟩⟩
     case round =>
      clear H'
      try clear c1
      try clear p2
      try clear c3
      try clear c5
      try clear c8
      try clear c8b0
      try clear c8b1
      try clear c10
      try clear c10b0
      try clear c10b1
      try clear c17
      try clear hcz11_0
      try clear hcz11_1
      try clear hcz11_2
      try clear hcz11_3
      try clear hcz11_4
      try clear hcz13_0
      try clear hcz13_1
      try clear hcz13_2
      try clear hcz13_3
      try clear hcz13_4
      try clear hcz14_0
      try clear hcz14_1
      try clear hcz14_2
      try clear hcz14_3
      try clear hcz14_4
      try clear hcz16_0
      try clear hcz16_1
      try clear hcz16_2
      try clear hcz16_3
      try clear hcz16_4
      try clear hcz7_0
      try clear hcz7_1
      try clear hcz7_2
      try clear hcz7_3
      try clear hcz7_4
      try clear hfz11_0
      try clear hfz11_1
      try clear hfz11_2
      try clear hfz11_3
      try clear hfz11_4
      try clear hfz13_0
      try clear hfz13_1
      try clear hfz13_2
      try clear hfz13_3
      try clear hfz13_4
      try clear hfz14_0
      try clear hfz14_1
      try clear hfz14_2
      try clear hfz14_3
      try clear hfz14_4
      try clear hfz16_0
      try clear hfz16_1
      try clear hfz16_2
      try clear hfz16_3
      try clear hfz16_4
      try clear hfz7_0
      try clear hfz7_1
      try clear hfz7_2
      try clear hfz7_3
      try clear hfz7_4
      try clear p2
      try clear BK561
      obtain ⟨x4_2, rfl, HA, HK2, BK561, HB⟩ := hrel
      cases gk with
      | zero => exact absurd HA.out (by simp [r17Check.l0])
      | succ k2 =>
       have H := HA.out
       clear HA
       simp only [r17Check.l0] at H
       by_cases c18 : x4_2 < t563
       ·
        rw [if_pos c18] at H
        have c18b0 : decide (x4_2 < t563) = true := decide_eq_true c18
        clear c18
        by_cases c19 : 0 ≤ x4_2
        ·
         rw [if_pos c19] at H
         have c19b0 : decide (0 ≤ x4_2) = true := decide_eq_true c19
         clear c19
         by_cases c20 : x4_2 < (l0_2.length : Int)
         ·
          rw [if_pos c20] at H
          have c20b0 : decide (x4_2 < (l0_2.length : Int)) = true := decide_eq_true c20
          clear c20
          by_cases c21 : (rd l0_2 x4_2) < 0
          ·
           rw [if_pos c21] at H
           have c21b0 : decide ((rd l0_2 x4_2) < 0) = true := decide_eq_true c21
           clear c21
           obtain rfl := Option.some.inj H
           have hcz22_0 : wr.cell? ⟨gb561, 0, none⟩ = some (.int .i64 a0_0) := (Bc_ BK561.out 0).trans rfl
           have hcz22_1 : wr.cell? ⟨gb561, 1, none⟩ = some (.int .i64 a0_1) := (Bc_ BK561.out 1).trans rfl
           have hcz22_2 : wr.cell? ⟨gb561, 2, none⟩ = some (.slice A0_2 l0_2.length c0_2) := (Bc_ BK561.out 2).trans rfl
           have hcz22_3 : wr.cell? ⟨gb561, 3, none⟩ = some (.int .i64 a0_3) := (Bc_ BK561.out 3).trans rfl
           have hcz22_4 : wr.cell? ⟨gb561, 4, none⟩ = some (.slice A0_4 l0_4.length c0_4) := (Bc_ BK561.out 4).trans rfl
           have hfz22_0 := Bf_ BK561.out 0
           have hfz22_1 := Bf_ BK561.out 1
           have hfz22_2 := Bf_ BK561.out 2
           have hfz22_3 := Bf_ BK561.out 3
           have hfz22_4 := Bf_ BK561.out 4
           have p565 : 0 ≤ (x4_2 : Int) := of_decide_eq_true (by first | (with_reducible assumption) | assumption)
           have q565 : x4_2 < (l0_2.length : Int) := of_decide_eq_true (by first | (with_reducible assumption) | assumption)
           obtain ⟨ad565, e565, hx565_0⟩ := Kd.at_int HR0_2.out x4_2 p565 q565
           cases e565
           replace hx565_0 := (HB.out.cell (World.block_lt_of_cell? w _ hx565_0)).trans hx565_0
           replace p565 := eq_true p565
           replace q565 := eq_true q565
           go_wp2
           go_ret
           exact ⟨by first | rfl | (simp [errW_none, errW_some] <;> rfl) | (simp [*, errW_none, errW_some] <;> rfl), by repeat (first | (with_reducible first | exact HB.out | apply Al_ | apply Dn_ | apply D1_ | refine Bs_ ?_ GE561.out) | exact HB.out)⟩
          ·
           rw [if_neg c21] at H
           have c21b0 : decide ((rd l0_2 x4_2) < 0) = false := decide_eq_false c21
           clear c21
           by_cases c23 : (rd l0_2 x4_2) > 4096
           ·
            rw [if_pos c23] at H
            have c23b0 : decide (4096 < (rd l0_2 x4_2)) = true := decide_eq_true c23
            clear c23
            obtain rfl := Option.some.inj H
            have hcz24_0 : wr.cell? ⟨gb561, 0, none⟩ = some (.int .i64 a0_0) := (Bc_ BK561.out 0).trans rfl
            have hcz24_1 : wr.cell? ⟨gb561, 1, none⟩ = some (.int .i64 a0_1) := (Bc_ BK561.out 1).trans rfl
            have hcz24_2 : wr.cell? ⟨gb561, 2, none⟩ = some (.slice A0_2 l0_2.length c0_2) := (Bc_ BK561.out 2).trans rfl
            have hcz24_3 : wr.cell? ⟨gb561, 3, none⟩ = some (.int .i64 a0_3) := (Bc_ BK561.out 3).trans rfl
            have hcz24_4 : wr.cell? ⟨gb561, 4, none⟩ = some (.slice A0_4 l0_4.length c0_4) := (Bc_ BK561.out 4).trans rfl
            have hfz24_0 := Bf_ BK561.out 0
            have hfz24_1 := Bf_ BK561.out 1
            have hfz24_2 := Bf_ BK561.out 2
            have hfz24_3 := Bf_ BK561.out 3
            have hfz24_4 := Bf_ BK561.out 4
            have p565 : 0 ≤ (x4_2 : Int) := of_decide_eq_true (by first | (with_reducible assumption) | assumption)
            have q565 : x4_2 < (l0_2.length : Int) := of_decide_eq_true (by first | (with_reducible assumption) | assumption)
            obtain ⟨ad565, e565, hx565_0⟩ := Kd.at_int HR0_2.out x4_2 p565 q565
            cases e565
            replace hx565_0 := (HB.out.cell (World.block_lt_of_cell? w _ hx565_0)).trans hx565_0
            replace p565 := eq_true p565
            replace q565 := eq_true q565
            have p566 : 0 ≤ (x4_2 : Int) := of_decide_eq_true (by first | (with_reducible assumption) | assumption)
            have q566 : x4_2 < (l0_2.length : Int) := of_decide_eq_true (by first | (with_reducible assumption) | assumption)
            obtain ⟨ad566, e566, hx566_0⟩ := Kd.at_int HR0_2.out x4_2 p566 q566
            obtain rfl : ad565 = ad566 := (by injection e566)
            replace hx566_0 := (HB.out.cell (World.block_lt_of_cell? w _ hx566_0)).trans hx566_0
            replace p566 := eq_true p566
            replace q566 := eq_true q566
            go_wp2
            go_ret
            exact ⟨by first | rfl | (simp [errW_none, errW_some] <;> rfl) | (simp [*, errW_none, errW_some] <;> rfl), by repeat (first | (with_reducible first | exact HB.out | apply Al_ | apply Dn_ | apply D1_ | refine Bs_ ?_ GE561.out) | exact HB.out)⟩
           ·
            rw [if_neg c23] at H
            have c23b0 : decide (4096 < (rd l0_2 x4_2)) = false := decide_eq_false c23
            clear c23
            by_cases c25 : (rd l0_2 x4_2) > 0
            ·
             rw [if_pos c25] at H
             have c25b0 : decide (0 < (rd l0_2 x4_2)) = true := decide_eq_true c25
             clear c25
             replace H := Option.bind_eq_some_iff.mp H
             obtain ⟨t568, A260, H⟩ := H
             replace H : (if t568 = true then (r17Check.l0 k2 t563 (wrap64 (x4_2 + 1)) a0_0 a0_1 l0_2 a0_3 l0_4) else (some 3)) = some r := H
             have A26 := A0_ A260
             clear A260
             by_cases c27 : t568 = true
             ·
              subst c27
              have H1 : (r17Check.l0 k2 t563 (wrap64 (x4_2 + 1)) a0_0 a0_1 l0_2 a0_3 l0_4) = some r := by rw [if_pos rfl] at H; exact H
              clear H
              have H := H1
              clear H1
              have H' := A0_ H
              clear H
              have hcz28_0 : wr.cell? ⟨gb561, 0, none⟩ = some (.int .i64 a0_0) := (Bc_ BK561.out 0).trans rfl
              have hcz28_1 : wr.cell? ⟨gb561, 1, none⟩ = some (.int .i64 a0_1) := (Bc_ BK561.out 1).trans rfl
              have hcz28_2 : wr.cell? ⟨gb561, 2, none⟩ = some (.slice A0_2 l0_2.length c0_2) := (Bc_ BK561.out 2).trans rfl
              have hcz28_3 : wr.cell? ⟨gb561, 3, none⟩ = some (.int .i64 a0_3) := (Bc_ BK561.out 3).trans rfl
              have hcz28_4 : wr.cell? ⟨gb561, 4, none⟩ = some (.slice A0_4 l0_4.length c0_4) := (Bc_ BK561.out 4).trans rfl
              have hfz28_0 := Bf_ BK561.out 0
              have hfz28_1 := Bf_ BK561.out 1
              have hfz28_2 := Bf_ BK561.out 2
              have hfz28_3 := Bf_ BK561.out 3
              have hfz28_4 := Bf_ BK561.out 4
              have p565 : 0 ≤ (x4_2 : Int) := of_decide_eq_true (by first | (with_reducible assumption) | assumption)
              have q565 : x4_2 < (l0_2.length : Int) := of_decide_eq_true (by first | (with_reducible assumption) | assumption)
              obtain ⟨ad565, e565, hx565_0⟩ := Kd.at_int HR0_2.out x4_2 p565 q565
              cases e565
              replace hx565_0 := (HB.out.cell (World.block_lt_of_cell? w _ hx565_0)).trans hx565_0
              replace p565 := eq_true p565
              replace q565 := eq_true q565
              have p566 : 0 ≤ (x4_2 : Int) := of_decide_eq_true (by first | (with_reducible assumption) | assumption)
              have q566 : x4_2 < (l0_2.length : Int) := of_decide_eq_true (by first | (with_reducible assumption) | assumption)
              obtain ⟨ad566, e566, hx566_0⟩ := Kd.at_int HR0_2.out x4_2 p566 q566
              obtain rfl : ad565 = ad566 := (by injection e566)
              replace hx566_0 := (HB.out.cell (World.block_lt_of_cell? w _ hx566_0)).trans hx566_0
              replace p566 := eq_true p566
              replace q566 := eq_true q566
              have p567 : 0 ≤ (x4_2 : Int) := of_decide_eq_true (by first | (with_reducible assumption) | assumption)
              have q567 : x4_2 < (l0_2.length : Int) := of_decide_eq_true (by first | (with_reducible assumption) | assumption)
              obtain ⟨ad567, e567, hx567_0⟩ := Kd.at_int HR0_2.out x4_2 p567 q567
              obtain rfl : ad565 = ad567 := (by injection e567)
              replace hx567_0 := (HB.out.cell (World.block_lt_of_cell? w _ hx567_0)).trans hx567_0
              replace p567 := eq_true p567
              replace q567 := eq_true q567
              go_wp2_with (first | (go_at_call 21; (with_reducible refine (r02Get.calls k2 a0_3 _ _ l0_4 x4_2 true _ ?side1 ?side2 A26.out).mono ?_); (case side1 => repeat (first | exact (Kd.C_below HR0_4.out HB.out) | (with_reducible first | refine Kd.C_alloc ?_ _ | refine Kd.C_drewN ?_ _ | refine Kd.C_drew ?_))); (case side2 => exact HC0_4.out); rintro e w29 ⟨rfl, hb⟩; have n0_ := A0_ (blk_below (g := gb561) (o := .cells #[.int .i64 a0_0, .int .i64 a0_1, .slice (some ad565) l0_2.length c0_2, .int .i64 a0_3, .slice A0_4 l0_4.length c0_4] 28 (0, 0)) (by (with_reducible repeat (first | refine Bn_ ?_ _ | refine Bd_ ?_ | refine Ba_ ?_ _)); exact BK561.out) hb); have n1_ := A0_ (below_step (by repeat (first | (with_reducible first | exact HB.out | apply Al_ | apply Dn_ | apply D1_ | refine Bs_ ?_ GE561.out) | exact HB.out)) hb); clear BK561 HB; have BK561 := n0_; have HB := n1_; clear n0_ n1_; (try clear hb); (try clear hb2); (try clear hk); (try clear hi)))
              go_roundg k2
              case measure => have := HJ4.out; have := HK2.out; omega
              case rel => exact ⟨(wrap64 (x4_2 + 1)), (by first | rfl | (simp; done) | (simp [*]; done)), H', ⟨by have := HJ4.out; have := HK2.out; omega⟩, ⟨by (with_reducible repeat (first | refine Bn_ ?_ _ | refine Bd_ ?_ | refine Ba_ ?_ _)); exact BK561.out⟩, ⟨by repeat (first | (with_reducible first | exact HB.out | apply Al_ | apply Dn_ | apply D1_ | refine Bs_ ?_ GE561.out) | exact HB.out)⟩⟩
             ·
              replace c27 := Bool.eq_false_iff.mpr c27
              subst c27
              have H1 : (some 3) = some r := by rw [if_neg (show ¬ (false = true) by decide)] at H; exact H
              clear H
              have H := H1
              clear H1
              obtain rfl := Option.some.inj H
              have hcz30_0 : wr.cell? ⟨gb561, 0, none⟩ = some (.int .i64 a0_0) := (Bc_ BK561.out 0).trans rfl
              have hcz30_1 : wr.cell? ⟨gb561, 1, none⟩ = some (.int .i64 a0_1) := (Bc_ BK561.out 1).trans rfl
              have hcz30_2 : wr.cell? ⟨gb561, 2, none⟩ = some (.slice A0_2 l0_2.length c0_2) := (Bc_ BK561.out 2).trans rfl
              have hcz30_3 : wr.cell? ⟨gb561, 3, none⟩ = some (.int .i64 a0_3) := (Bc_ BK561.out 3).trans rfl
              have hcz30_4 : wr.cell? ⟨gb561, 4, none⟩ = some (.slice A0_4 l0_4.length c0_4) := (Bc_ BK561.out 4).trans rfl
              have hfz30_0 := Bf_ BK561.out 0
              have hfz30_1 := Bf_ BK561.out 1
              have hfz30_2 := Bf_ BK561.out 2
              have hfz30_3 := Bf_ BK561.out 3
              have hfz30_4 := Bf_ BK561.out 4
              have p565 : 0 ≤ (x4_2 : Int) := of_decide_eq_true (by first | (with_reducible assumption) | assumption)
              have q565 : x4_2 < (l0_2.length : Int) := of_decide_eq_true (by first | (with_reducible assumption) | assumption)
              obtain ⟨ad565, e565, hx565_0⟩ := Kd.at_int HR0_2.out x4_2 p565 q565
              cases e565
              replace hx565_0 := (HB.out.cell (World.block_lt_of_cell? w _ hx565_0)).trans hx565_0
              replace p565 := eq_true p565
              replace q565 := eq_true q565
              have p566 : 0 ≤ (x4_2 : Int) := of_decide_eq_true (by first | (with_reducible assumption) | assumption)
              have q566 : x4_2 < (l0_2.length : Int) := of_decide_eq_true (by first | (with_reducible assumption) | assumption)
              obtain ⟨ad566, e566, hx566_0⟩ := Kd.at_int HR0_2.out x4_2 p566 q566
              obtain rfl : ad565 = ad566 := (by injection e566)
              replace hx566_0 := (HB.out.cell (World.block_lt_of_cell? w _ hx566_0)).trans hx566_0
              replace p566 := eq_true p566
              replace q566 := eq_true q566
              have p567 : 0 ≤ (x4_2 : Int) := of_decide_eq_true (by first | (with_reducible assumption) | assumption)
              have q567 : x4_2 < (l0_2.length : Int) := of_decide_eq_true (by first | (with_reducible assumption) | assumption)
              obtain ⟨ad567, e567, hx567_0⟩ := Kd.at_int HR0_2.out x4_2 p567 q567
              obtain rfl : ad565 = ad567 := (by injection e567)
              replace hx567_0 := (HB.out.cell (World.block_lt_of_cell? w _ hx567_0)).trans hx567_0
              replace p567 := eq_true p567
              replace q567 := eq_true q567
              go_wp2_with (first | (go_at_call 21; (with_reducible refine (r02Get.calls k2 a0_3 _ _ l0_4 x4_2 false _ ?side1 ?side2 A26.out).mono ?_); (case side1 => repeat (first | exact (Kd.C_below HR0_4.out HB.out) | (with_reducible first | refine Kd.C_alloc ?_ _ | refine Kd.C_drewN ?_ _ | refine Kd.C_drew ?_))); (case side2 => exact HC0_4.out); rintro e w31 ⟨rfl, hb⟩; have n0_ := A0_ (blk_below (g := gb561) (o := .cells #[.int .i64 a0_0, .int .i64 a0_1, .slice (some ad565) l0_2.length c0_2, .int .i64 a0_3, .slice A0_4 l0_4.length c0_4] 28 (0, 0)) (by (with_reducible repeat (first | refine Bn_ ?_ _ | refine Bd_ ?_ | refine Ba_ ?_ _)); exact BK561.out) hb); have n1_ := A0_ (below_step (by repeat (first | (with_reducible first | exact HB.out | apply Al_ | apply Dn_ | apply D1_ | refine Bs_ ?_ GE561.out) | exact HB.out)) hb); clear BK561 HB; have BK561 := n0_; have HB := n1_; clear n0_ n1_; (try clear hb); (try clear hb2); (try clear hk); (try clear hi)))
              go_ret
              exact ⟨by first | rfl | (simp [errW_none, errW_some] <;> rfl) | (simp [*, errW_none, errW_some] <;> rfl), by repeat (first | (with_reducible first | exact HB.out | apply Al_ | apply Dn_ | apply D1_ | refine Bs_ ?_ GE561.out) | exact HB.out)⟩
            ·
             rw [if_neg c25] at H
             have c25b0 : decide (0 < (rd l0_2 x4_2)) = false := decide_eq_false c25
             clear c25
             have H' := A0_ H
             clear H
             have hcz32_0 : wr.cell? ⟨gb561, 0, none⟩ = some (.int .i64 a0_0) := (Bc_ BK561.out 0).trans rfl
             have hcz32_1 : wr.cell? ⟨gb561, 1, none⟩ = some (.int .i64 a0_1) := (Bc_ BK561.out 1).trans rfl
             have hcz32_2 : wr.cell? ⟨gb561, 2, none⟩ = some (.slice A0_2 l0_2.length c0_2) := (Bc_ BK561.out 2).trans rfl
             have hcz32_3 : wr.cell? ⟨gb561, 3, none⟩ = some (.int .i64 a0_3) := (Bc_ BK561.out 3).trans rfl
             have hcz32_4 : wr.cell? ⟨gb561, 4, none⟩ = some (.slice A0_4 l0_4.length c0_4) := (Bc_ BK561.out 4).trans rfl
             have hfz32_0 := Bf_ BK561.out 0
             have hfz32_1 := Bf_ BK561.out 1
             have hfz32_2 := Bf_ BK561.out 2
             have hfz32_3 := Bf_ BK561.out 3
             have hfz32_4 := Bf_ BK561.out 4
             have p565 : 0 ≤ (x4_2 : Int) := of_decide_eq_true (by first | (with_reducible assumption) | assumption)
             have q565 : x4_2 < (l0_2.length : Int) := of_decide_eq_true (by first | (with_reducible assumption) | assumption)
             obtain ⟨ad565, e565, hx565_0⟩ := Kd.at_int HR0_2.out x4_2 p565 q565
             cases e565
             replace hx565_0 := (HB.out.cell (World.block_lt_of_cell? w _ hx565_0)).trans hx565_0
             replace p565 := eq_true p565
             replace q565 := eq_true q565
             have p566 : 0 ≤ (x4_2 : Int) := of_decide_eq_true (by first | (with_reducible assumption) | assumption)
             have q566 : x4_2 < (l0_2.length : Int) := of_decide_eq_true (by first | (with_reducible assumption) | assumption)
             obtain ⟨ad566, e566, hx566_0⟩ := Kd.at_int HR0_2.out x4_2 p566 q566
             obtain rfl : ad565 = ad566 := (by injection e566)
             replace hx566_0 := (HB.out.cell (World.block_lt_of_cell? w _ hx566_0)).trans hx566_0
             replace p566 := eq_true p566
             replace q566 := eq_true q566
             have p567 : 0 ≤ (x4_2 : Int) := of_decide_eq_true (by first | (with_reducible assumption) | assumption)
             have q567 : x4_2 < (l0_2.length : Int) := of_decide_eq_true (by first | (with_reducible assumption) | assumption)
             obtain ⟨ad567, e567, hx567_0⟩ := Kd.at_int HR0_2.out x4_2 p567 q567
             obtain rfl : ad565 = ad567 := (by injection e567)
             replace hx567_0 := (HB.out.cell (World.block_lt_of_cell? w _ hx567_0)).trans hx567_0
             replace p567 := eq_true p567
             replace q567 := eq_true q567
             go_wp2
             go_roundg k2
             case measure => have := HJ4.out; have := HK2.out; omega
             case rel => exact ⟨(wrap64 (x4_2 + 1)), (by first | rfl | (simp; done) | (simp [*]; done)), H', ⟨by have := HJ4.out; have := HK2.out; omega⟩, ⟨by (with_reducible repeat (first | refine Bn_ ?_ _ | refine Bd_ ?_ | refine Ba_ ?_ _)); exact BK561.out⟩, ⟨by repeat (first | (with_reducible first | exact HB.out | apply Al_ | apply Dn_ | apply D1_ | refine Bs_ ?_ GE561.out) | exact HB.out)⟩⟩
         ·
          rw [if_neg c20] at H
          exact absurd H (by simp)
        ·
         rw [if_neg c19] at H
         exact absurd H (by simp)
       ·
        rw [if_neg c18] at H
        have c18b0 : decide (x4_2 < t563) = false := decide_eq_false c18
        clear c18
        obtain rfl := Option.some.inj H
        go_wp2
        go_ret
        exact ⟨by first | rfl | (simp [errW_none, errW_some] <;> rfl) | (simp [*, errW_none, errW_some] <;> rfl), by repeat (first | (with_reducible first | exact HB.out | apply Al_ | apply Dn_ | apply D1_ | refine Bs_ ?_ GE561.out) | exact HB.out)⟩
 ·
  replace c3 := Bool.eq_false_iff.mpr c3
  subst c3
  have H1 : (some 3) = some r := by rw [if_neg (show ¬ (false = true) by decide)] at H; exact H
  clear H
  have H := H1
  clear H1
  obtain rfl := Option.some.inj H
  go_enter Tryd.func53, Tryd.ntmps53
  go_wp2_with (first | ((with_reducible refine gate_dst (N := 1) rfl ?_); refine box_event ?hg (N := 1) ?hd (cs := #[.int .i64 a0_0, .int .i64 a0_1, .slice A0_2 l0_2.length c0_2, .int .i64 a0_3, .slice A0_4 l0_4.length c0_4]) (t := 28) ?hr ?_; (case hd => rfl); (case hg => rfl); (case hr => first | (go_simp; done) | (go_simp; rfl)); intro gb561 hg w33 hbox hb; have n0_ := A0_ (below_step (by repeat (first | (with_reducible first | exact HB.out | apply Al_ | apply Dn_ | apply D1_) | exact HB.out)) hb); have n1_ := A0_ (hbox); have n2_ := A0_ ((by rw [hg]; exact (below_size (by repeat (first | (with_reducible first | exact HB.out | apply Al_ | apply Dn_ | apply D1_) | exact HB.out))) : w.heap.size ≤ gb561)); have n3_ := A0_ ((by rw [hg]; exact (below_size (by repeat (first | (with_reducible first | exact HB.out | apply Al_ | apply Dn_ | apply D1_) | exact HB.out))) : w.heap.size ≤ gb561)); clear HB; have HB := n0_; have BK561 := n1_; have GW561 := n2_; have GE561 := n3_; clear n0_ n1_ n2_ n3_ hb hbox hg; have hcz34_0 : w33.cell? ⟨gb561, 0, none⟩ = some (.int .i64 a0_0) := (Bc_ BK561.out 0).trans rfl; have hcz34_1 : w33.cell? ⟨gb561, 1, none⟩ = some (.int .i64 a0_1) := (Bc_ BK561.out 1).trans rfl; have hcz34_2 : w33.cell? ⟨gb561, 2, none⟩ = some (.slice A0_2 l0_2.length c0_2) := (Bc_ BK561.out 2).trans rfl; have hcz34_3 : w33.cell? ⟨gb561, 3, none⟩ = some (.int .i64 a0_3) := (Bc_ BK561.out 3).trans rfl; have hcz34_4 : w33.cell? ⟨gb561, 4, none⟩ = some (.slice A0_4 l0_4.length c0_4) := (Bc_ BK561.out 4).trans rfl; have hfz34_0 := Bf_ BK561.out 0; have hfz34_1 := Bf_ BK561.out 1; have hfz34_2 := Bf_ BK561.out 2; have hfz34_3 := Bf_ BK561.out 3; have hfz34_4 := Bf_ BK561.out 4) | ((with_reducible refine gate_callee (f := 30) rfl ?_); refine goesL_ (some 9) rfl rfl Tryd.func30 (by kernel_rfl) rfl #[.int .i64 a0_0, .int .i64 a0_1] rfl (by (try simp only [List.map_toArray, List.map_cons, List.map_nil]); first | done | rfl | (simp only [List.length_drop, List.length_take]; rfl)) ?_; (with_reducible refine (r17sizes.calls a0_0 a0_1 false _ A2.out).mono ?_); rintro e w' ⟨rfl, ⟨nd, rfl⟩⟩; refine ⟨_, rfl, ?_⟩))
  go_ret
  exact ⟨by first | rfl | (simp [errW_none, errW_some] <;> rfl) | (simp [*, errW_none, errW_some] <;> rfl), by repeat (first | (with_reducible first | exact HB.out | apply Al_ | apply Dn_ | apply D1_ | refine Bs_ ?_ GE561.out) | exact HB.out)⟩
end Go.Proofs.YtnjbdcnefienhaaDoor.P

namespace Go.Proofs.YtnjbdcnefienhaaDoor.P
open Go.RowKit Go.Proofs.YtnjbdcnefienhaaDoorW.PrintWords Go.Proofs.YtnjbdcnefienhaaDoorW.PrintLast Go.Proofs.YtnjbdcnefienhaaDoorW.PrintMore
attribute [local go_sem] max2_int min2_int max_two min_two max_three min_three max_four min_four   -- for this text's walks alone
set_option linter.unusedVariables false
set_option linter.unusedSimpArgs false
def r17Encode.f (k : Nat) (a0_0 : Int) (a0_1 : Int) (l0_2 : List Int) (a0_3 : Int) (l0_4 : List Int) : Option (List Int) := (r17Check.f k a0_0 a0_1 l0_2 a0_3 l0_4).bind fun t570 => (if t570 = 0 then ((r03PutInt.f k ([] : List Int) a0_0).bind fun t571 => ((r03PutInt.f k t571 a0_1).bind fun t574 => ((r02Extents.f k a0_3 l0_4).bind fun t577 => ((r03PutExtents.f k t574 t577).bind fun t580 => (some t580))))) else (some ([] : List Int)))
def r17Encode.T3 : Bool × List (List Nat × List Nat) := (true, [([], []), ([0], [0]), ([1], [1]), ([], []), ([3], [3]), ([2, 4, 2], [2, 4]), ([], []), ([6], [6]), ([7, 5], [7]), ([5, 8, 8], [5, 8]), ([9, 9, 0, 1, 2, 3, 4, 5, 6, 7, 8, 9], [9])])
def r17Encode.B3 : List Nat := [0, 1, 3, 0, 8, 31, 0, 64, 255, 511, 1023]
theorem r17Encode.tab3 : rtab .any (opsOf Tryd.f24 3) = r17Encode.T3 := by kernel_rfl
theorem r17Encode.bits3 : waitsOk r17Encode.T3.2 r17Encode.B3 = true := by kernel_rfl
set_option maxHeartbeats 8000000 in
set_option maxRecDepth 100000 in
theorem r17Encode.calls (k : Nat) (a0_0 : Int) (a0_1 : Int) (A0_2 : Option Addr) (c0_2 : Nat) (l0_2 : List Int) (a0_3 : Int) (A0_4 : Option Addr) (c0_4 : Nat) (l0_4 : List Int) (r : List Int) (w : World) (hr0_2 : Kd.C (Kd.int .i64) w A0_2 l0_2.length l0_2) (hc0_2 : l0_2.length ≤ c0_2) (hr0_4 : Kd.C (Kd.int .u64) w A0_4 l0_4.length l0_4) (hc0_4 : l0_4.length ≤ c0_4) (h : r17Encode.f k a0_0 a0_1 l0_2 a0_3 l0_4 = some r) :
  Calls Tryd.prog 24 #[.agg #[.int .i64 a0_0, .int .i64 a0_1, .slice A0_2 l0_2.length c0_2, .int .i64 a0_3, .slice A0_4 l0_4.length c0_4]] w fun e w' => ∃ v0_ : Value, e = .returned (v0_) ∧ Kd.R (Kd.int .u8) 5 w' w.heap.size (fun _ => True) v0_ r ∧ Below w.heap.size w w' := by
 have hu28 := Tryd.underlying28
 have hu26 := Tryd.underlying26
 have HR0_2 := A0_ hr0_2
 have HC0_2 := A0_ hc0_2
 clear hr0_2 hc0_2
 have HR0_4 := A0_ hr0_4
 have HC0_4 := A0_ hc0_4
 clear hr0_4 hc0_4
 have HB := A0_ (Below.refl w.heap.size w)
 have H : ((r17Check.f k a0_0 a0_1 l0_2 a0_3 l0_4).bind fun t570 => (if t570 = 0 then ((r03PutInt.f k ([] : List Int) a0_0).bind fun t571 => ((r03PutInt.f k t571 a0_1).bind fun t574 => ((r02Extents.f k a0_3 l0_4).bind fun t577 => ((r03PutExtents.f k t574 t577).bind fun t580 => (some t580))))) else (some ([] : List Int)))) = some r := h
 clear h
 replace H := Option.bind_eq_some_iff.mp H
 obtain ⟨t570, A20, H⟩ := H
 replace H : (if t570 = 0 then ((r03PutInt.f k ([] : List Int) a0_0).bind fun t571 => ((r03PutInt.f k t571 a0_1).bind fun t574 => ((r02Extents.f k a0_3 l0_4).bind fun t577 => ((r03PutExtents.f k t574 t577).bind fun t580 => (some t580))))) else (some ([] : List Int))) = some r := H
 have A2 := A0_ A20
 clear A20
 by_cases c3 : t570 = 0
 ·
  rw [if_pos c3] at H
  have c3b0 : (t570 == 0) = true := beq_iff_eq.mpr c3
  have c3b1 : (t570 != 0) = false := bne_eq_false_iff_eq.mpr c3
  clear c3
  replace H := Option.bind_eq_some_iff.mp H
  obtain ⟨t571, A40, H⟩ := H
  replace H : ((r03PutInt.f k t571 a0_1).bind fun t574 => ((r02Extents.f k a0_3 l0_4).bind fun t577 => ((r03PutExtents.f k t574 t577).bind fun t580 => (some t580)))) = some r := H
  have A4 := A0_ A40
  clear A40
  replace H := Option.bind_eq_some_iff.mp H
  obtain ⟨t574, A50, H⟩ := H
  replace H : ((r02Extents.f k a0_3 l0_4).bind fun t577 => ((r03PutExtents.f k t574 t577).bind fun t580 => (some t580))) = some r := H
  have A5 := A0_ A50
  clear A50
  replace H := Option.bind_eq_some_iff.mp H
  obtain ⟨t577, A60, H⟩ := H
  replace H : ((r03PutExtents.f k t574 t577).bind fun t580 => (some t580)) = some r := H
  have A6 := A0_ A60
  clear A60
  replace H := Option.bind_eq_some_iff.mp H
  obtain ⟨t580, A70, H⟩ := H
  replace H : (some t580) = some r := H
  have A7 := A0_ A70
  clear A70
  obtain rfl := Option.some.inj H
  go_enter Tryd.func24, Tryd.ntmps24
  try go_wp2_with (first | ((with_reducible refine gate_dst (N := 1) rfl ?_); refine box_event ?hg (N := 1) ?hd (cs := #[.int .i64 a0_0, .int .i64 a0_1, .slice A0_2 l0_2.length c0_2, .int .i64 a0_3, .slice A0_4 l0_4.length c0_4]) (t := 28) ?hr ?_; (case hd => rfl); (case hg => rfl); (case hr => first | (go_simp; done) | (go_simp; rfl)); intro gb569 hg w8 hbox hb; have n0_ := A0_ (below_step (by repeat (first | (with_reducible first | exact HB.out | apply Al_ | apply Dn_ | apply D1_) | exact HB.out)) hb); have n1_ := A0_ (hbox); have n2_ := A0_ ((by rw [hg]; exact (below_size (by repeat (first | (with_reducible first | exact HB.out | apply Al_ | apply Dn_ | apply D1_) | exact HB.out))) : w.heap.size ≤ gb569)); have n3_ := A0_ ((by rw [hg]; exact (below_size (by repeat (first | (with_reducible first | exact HB.out | apply Al_ | apply Dn_ | apply D1_) | exact HB.out))) : w.heap.size ≤ gb569)); clear HB; have HB := n0_; have BK569 := n1_; have GW569 := n2_; have GE569 := n3_; clear n0_ n1_ n2_ n3_ hb hbox hg; have hcz9_0 : w8.cell? ⟨gb569, 0, none⟩ = some (.int .i64 a0_0) := (Bc_ BK569.out 0).trans rfl; have hcz9_1 : w8.cell? ⟨gb569, 1, none⟩ = some (.int .i64 a0_1) := (Bc_ BK569.out 1).trans rfl; have hcz9_2 : w8.cell? ⟨gb569, 2, none⟩ = some (.slice A0_2 l0_2.length c0_2) := (Bc_ BK569.out 2).trans rfl; have hcz9_3 : w8.cell? ⟨gb569, 3, none⟩ = some (.int .i64 a0_3) := (Bc_ BK569.out 3).trans rfl; have hcz9_4 : w8.cell? ⟨gb569, 4, none⟩ = some (.slice A0_4 l0_4.length c0_4) := (Bc_ BK569.out 4).trans rfl; have hfz9_0 := Bf_ BK569.out 0; have hfz9_1 := Bf_ BK569.out 1; have hfz9_2 := Bf_ BK569.out 2; have hfz9_3 := Bf_ BK569.out 3; have hfz9_4 := Bf_ BK569.out 4) | ((with_reducible refine gate_callee (f := 53) rfl ?_); refine goesL_ (some 4) rfl rfl Tryd.func53 (by kernel_rfl) rfl #[.agg #[.int .i64 a0_0, .int .i64 a0_1, .slice A0_2 l0_2.length c0_2, .int .i64 a0_3, .slice A0_4 l0_4.length c0_4]] rfl (by (try simp only [List.map_toArray, List.map_cons, List.map_nil]); first | done | rfl | (simp only [List.length_drop, List.length_take]; rfl)) ?_; (with_reducible refine (r17Check.calls k a0_0 a0_1 _ _ l0_2 a0_3 _ _ l0_4 t570 _ ?side1 ?side2 ?side3 ?side4 A2.out).mono ?_); (case side1 => repeat (first | exact (Kd.C_below HR0_2.out HB.out) | (with_reducible first | refine Kd.C_alloc ?_ _ | refine Kd.C_drewN ?_ _ | refine Kd.C_drew ?_))); (case side2 => exact HC0_2.out); (case side3 => repeat (first | exact (Kd.C_below HR0_4.out HB.out) | (with_reducible first | refine Kd.C_alloc ?_ _ | refine Kd.C_drewN ?_ _ | refine Kd.C_drew ?_))); (case side4 => exact HC0_4.out); rintro e w10 ⟨rfl, hb⟩; refine ⟨_, rfl, ?_⟩; have n0_ := A0_ (blk_below (g := gb569) (o := .cells #[.int .i64 a0_0, .int .i64 a0_1, .slice A0_2 l0_2.length c0_2, .int .i64 a0_3, .slice A0_4 l0_4.length c0_4] 28 (0, 0)) (by (with_reducible repeat (first | refine Bn_ ?_ _ | refine Bd_ ?_ | refine Ba_ ?_ _)); exact BK569.out) hb); have n1_ := A0_ (below_step (by repeat (first | (with_reducible first | exact HB.out | apply Al_ | apply Dn_ | apply D1_ | refine Bs_ ?_ GE569.out) | exact HB.out)) hb); clear BK569 HB; have BK569 := n0_; have HB := n1_; clear n0_ n1_; (try clear hb); (try clear hb2); (try clear hk); (try clear hi)))
  have n0_ := A0_ (blk_drew BK569.out)
  have n1_ := A0_ (D1_ HB.out)
  clear BK569
  clear HB
  have BK569 := n0_
  have HB := n1_
  clear n0_ n1_
  refine start_ (n := 11) (S := fun w' => w'.cell? ⟨gb569, 0, none⟩ = some (.int .i64 a0_0) ∧ w'.cell? ⟨gb569, 1, none⟩ = some (.int .i64 a0_1) ∧ w'.cell? ⟨gb569, 2, none⟩ = some (.slice A0_2 l0_2.length c0_2) ∧ w'.cell? ⟨gb569, 3, none⟩ = some (.int .i64 a0_3) ∧ w'.cell? ⟨gb569, 4, none⟩ = some (.slice A0_4 l0_4.length c0_4)) (ds := []) #[false, false, false, false, false, false, false, false, false, false, false] (by kernel_rfl) rfl rfl ⟨(Bc_ BK569.out 0).trans rfl, (Bc_ BK569.out 1).trans rfl, (Bc_ BK569.out 2).trans rfl, (Bc_ BK569.out 3).trans rfl, (Bc_ BK569.out 4).trans rfl⟩ (fun hHeld => ?_); refine with_tabW r17Encode.tab3 r17Encode.bits3 (fun HT_ HW_ => ?_)
  generalize w10.drew = w11 at BK569 HB hHeld ⊢
  refine pure_ (i := 0) (N := some 6) (v := ?_) (a' := ?_) #[true, false, false, false, false, false, false, false, false, false, false] rfl rfl (any_of HT_.out (by kernel_rfl)) (fun _ _ _ h => h) (Or.inl ⟨by rfl, ?_⟩) ?_ ?_
  rotate_left
  ·
   intro w'
   go_simp
   with_reducible rfl
  rotate_left
  ·
   simp only [Act.put, Sa_, Sz_, Ss_, i64_w, i32_w]
   rfl
  refine pure_ (i := 3) (N := some 9) (v := ?_) (a' := ?_) #[true, false, false, true, false, false, false, false, false, false, false] rfl rfl (any_of HT_.out (by kernel_rfl)) (fun _ _ _ h => h) (Or.inl ⟨by rfl, ?_⟩) ?_ ?_
  rotate_left
  ·
   intro w'
   go_simp
   with_reducible rfl
  rotate_left
  ·
   simp only [Act.put, Sa_, Sz_, Ss_, i64_w, i32_w]
   rfl
  refine pure_ (i := 6) (N := some 12) (v := ?_) (a' := ?_) #[true, false, false, true, false, false, true, false, false, false, false] rfl rfl (any_of HT_.out (by kernel_rfl)) (fun _ _ _ h => h) (Or.inl ⟨by rfl, ?_⟩) ?_ ?_
  rotate_left
  ·
   intro w'
   go_simp
   with_reducible rfl
  rotate_left
  ·
   simp only [Act.put, Sa_, Sz_, Ss_, i64_w, i32_w]
   rfl
  refine take_ (i := 1) (N := some 7) (v := ?_) (a' := ?_) #[true, true, false, true, false, false, true, false, false, false, false] rfl rfl (take_ofW HT_.out HW_.out (by kernel_rfl)) (fun _ _ _ h => h) (Or.inl ⟨by rfl, ?_⟩) hHeld ?_ ?_
  rotate_left
  ·
   rintro w' ⟨s0, s1, s2, s3, s4⟩
   go_simp
   with_reducible rfl
  rotate_left
  ·
   simp only [Act.put, Sa_, Sz_, Ss_, i64_w, i32_w]
   rfl
  refine take_ (i := 4) (N := some 10) (v := ?_) (a' := ?_) #[true, true, false, true, true, false, true, false, false, false, false] rfl rfl (take_ofW HT_.out HW_.out (by kernel_rfl)) (fun _ _ _ h => h) (Or.inl ⟨by rfl, ?_⟩) hHeld ?_ ?_
  rotate_left
  ·
   rintro w' ⟨s0, s1, s2, s3, s4⟩
   go_simp
   with_reducible rfl
  rotate_left
  ·
   simp only [Act.put, Sa_, Sz_, Ss_, i64_w, i32_w]
   rfl
  refine take_ (i := 7) (N := some 13) (v := ?_) (a' := ?_) #[true, true, false, true, true, false, true, true, false, false, false] rfl rfl (take_ofW HT_.out HW_.out (by kernel_rfl)) (fun _ _ _ h => h) (Or.inl ⟨by rfl, ?_⟩) hHeld ?_ ?_
  rotate_left
  ·
   rintro w' ⟨s0, s1, s2, s3, s4⟩
   go_simp
   with_reducible rfl
  rotate_left
  ·
   simp only [Act.put, Sa_, Sz_, Ss_, i64_w, i32_w]
   rfl
  refine one_ (i := 2) (N := some 8) #[true, true, true, true, true, false, true, true, false, false, false] rfl rfl (one_of HT_.out (by kernel_rfl)) (by decide) (fun K hK => ?_)
  refine goes_ Tryd.func55 (by kernel_rfl) rfl #[.slice none 0 0, .int .i64 a0_0] (by rfl) rfl rfl (by (try simp only [List.map_toArray, List.map_cons, List.map_nil]); first | done | rfl | (simp only [List.length_drop, List.length_take]; rfl)) ?_
  refine (r03PutInt.calls k _ _ ([] : List Int) a0_0 t571 _ ?side1 ?side2 A4.out).mono ?_
  (case side1 => exact Kd.C_nil _ _)
  (case side2 => exact Nat.le_refl _)
  rintro e w12 ⟨v572, rfl, ho0, hb⟩
  refine ⟨_, rfl, ?_⟩
  have n0_ := A0_ (Kd.R_lower ho0 (below_size (by repeat (first | (with_reducible first | exact HB.out | apply Al_ | apply Dn_ | apply D1_ | refine Bs_ ?_ GE569.out) | exact HB.out))))
  have n1_ := A0_ (blk_below (g := gb569) (o := .cells #[.int .i64 a0_0, .int .i64 a0_1, .slice A0_2 l0_2.length c0_2, .int .i64 a0_3, .slice A0_4 l0_4.length c0_4] 28 (0, 0)) (by (with_reducible repeat (first | refine Bn_ ?_ _ | refine Bd_ ?_ | refine Ba_ ?_ _)); exact BK569.out) hb)
  have n2_ := A0_ (below_step (by repeat (first | (with_reducible first | exact HB.out | apply Al_ | apply Dn_ | apply D1_ | refine Bs_ ?_ GE569.out) | exact HB.out)) hb)
  clear BK569
  clear HB
  have HO573 := n0_
  have BK569 := n1_
  have HB := n2_
  clear n0_ n1_ n2_
  (try clear hb)
  (try clear hb2)
  (try clear hk)
  (try clear hi)
  (try clear ho0)
  obtain ⟨Ao13, co13, eo13⟩ := Kd.R_slice HO573.out
  (first | subst eo13 | (injection eo13 with f1_ f2_ f3_; have f4_ := f1_.symm; have f5_ := f3_.symm; clear f1_ f2_ f3_; subst f4_; subst f5_))
  refine hK.out _ _ ⟨(Bc_ BK569.out 0).trans rfl, (Bc_ BK569.out 1).trans rfl, (Bc_ BK569.out 2).trans rfl, (Bc_ BK569.out 3).trans rfl, (Bc_ BK569.out 4).trans rfl⟩ (fun hHeld => ?_)
  clear hK K
  refine norm_ (a' := ?_) ?_ ?_
  rotate_left
  ·
   show Act.put _ (some 8) _ = _
   simp only [Act.put, Sa_, Sz_, Ss_, i64_w, i32_w]
   rfl
  refine one_ (i := 5) (N := some 11) #[true, true, true, true, true, true, true, true, false, false, false] rfl rfl (one_of HT_.out (by kernel_rfl)) (by decide) (fun K hK => ?_)
  refine goes_ Tryd.func55 (by kernel_rfl) rfl #[.slice Ao13 t571.length co13, .int .i64 a0_1] (by rfl) rfl rfl (by (try simp only [List.map_toArray, List.map_cons, List.map_nil]); first | done | rfl | (simp only [List.length_drop, List.length_take]; rfl)) ?_
  with_reducible refine (r03PutInt.calls k _ _ t571 a0_1 t574 _ ?side1 ?side2 A5.out).mono ?_
  (case side1 => repeat (first | exact (Kd.R_reads' HO573.out).2.2 | (with_reducible first | refine Kd.C_alloc ?_ _ | refine Kd.C_drewN ?_ _ | refine Kd.C_drew ?_)))
  (case side2 => exact (Kd.R_reads' HO573.out).2.1)
  rintro e w14 ⟨v575, rfl, ho0, hb⟩
  refine ⟨_, rfl, ?_⟩
  have n0_ := A0_ (Kd.R_elder' (by (with_reducible repeat (first | apply Ra_ | apply Rn_ | apply Rd_)); exact HO573.out) (Kd.R_base ho0) hb)
  have n1_ := A0_ (Kd.R_lower (Kd.R_new' ho0 (Kd.R_lt (by (with_reducible repeat (first | apply Ra_ | apply Rn_ | apply Rd_)); exact HO573.out))) (below_size (by repeat (first | (with_reducible first | exact HB.out | apply Al_ | apply Dn_ | apply D1_ | refine Bs_ ?_ GE569.out) | exact HB.out))))
  have n2_ := A0_ (blk_below (g := gb569) (o := .cells #[.int .i64 a0_0, .int .i64 a0_1, .slice A0_2 l0_2.length c0_2, .int .i64 a0_3, .slice A0_4 l0_4.length c0_4] 28 (0, 0)) (by (with_reducible repeat (first | refine Bn_ ?_ _ | refine Bd_ ?_ | refine Ba_ ?_ _)); exact BK569.out) hb)
  have n3_ := A0_ (below_step (by repeat (first | (with_reducible first | exact HB.out | apply Al_ | apply Dn_ | apply D1_ | refine Bs_ ?_ GE569.out) | exact HB.out)) hb)
  clear HO573
  clear BK569
  clear HB
  have HO573 := n0_
  have HO576 := n1_
  have BK569 := n2_
  have HB := n3_
  clear n0_ n1_ n2_ n3_
  (try clear hb)
  (try clear hb2)
  (try clear hk)
  (try clear hi)
  (try clear ho0)
  refine hK.out _ _ ⟨(Bc_ BK569.out 0).trans rfl, (Bc_ BK569.out 1).trans rfl, (Bc_ BK569.out 2).trans rfl, (Bc_ BK569.out 3).trans rfl, (Bc_ BK569.out 4).trans rfl⟩ (fun hHeld => ?_)
  clear hK K
  refine norm_ (a' := ?_) ?_ ?_
  rotate_left
  ·
   show Act.put _ (some 11) _ = _
   simp only [Act.put, Sa_, Sz_, Ss_, i64_w, i32_w]
   rfl
  refine one_ (i := 8) (N := some 14) #[true, true, true, true, true, true, true, true, true, false, false] rfl rfl (one_of HT_.out (by kernel_rfl)) (by decide) (fun K hK => ?_)
  refine goes_ Tryd.func26 (by kernel_rfl) rfl #[.agg #[.int .i64 a0_3, .slice A0_4 l0_4.length c0_4]] (by rfl) rfl rfl (by (try simp only [List.map_toArray, List.map_cons, List.map_nil]); first | done | rfl | (simp only [List.length_drop, List.length_take]; rfl)) ?_
  with_reducible refine (r02Extents.calls k a0_3 _ _ l0_4 t577 _ ?side1 ?side2 A6.out).mono ?_
  (case side1 => repeat (first | exact (Kd.C_below HR0_4.out HB.out) | (with_reducible first | refine Kd.C_alloc ?_ _ | refine Kd.C_drewN ?_ _ | refine Kd.C_drew ?_)))
  (case side2 => exact HC0_4.out)
  rintro e w15 ⟨v578, rfl, ho0, hb⟩
  refine ⟨_, rfl, ?_⟩
  have n0_ := A0_ (Kd.R_below (by (with_reducible repeat (first | apply Ra_ | apply Rn_ | apply Rd_)); exact HO573.out) hb)
  have n1_ := A0_ (Kd.R_below (by (with_reducible repeat (first | apply Ra_ | apply Rn_ | apply Rd_)); exact HO576.out) hb)
  have n2_ := A0_ (Kd.R_lower ho0 (below_size (by repeat (first | (with_reducible first | exact HB.out | apply Al_ | apply Dn_ | apply D1_ | refine Bs_ ?_ GE569.out) | exact HB.out))))
  have n3_ := A0_ (blk_below (g := gb569) (o := .cells #[.int .i64 a0_0, .int .i64 a0_1, .slice A0_2 l0_2.length c0_2, .int .i64 a0_3, .slice A0_4 l0_4.length c0_4] 28 (0, 0)) (by (with_reducible repeat (first | refine Bn_ ?_ _ | refine Bd_ ?_ | refine Ba_ ?_ _)); exact BK569.out) hb)
  have n4_ := A0_ (below_step (by repeat (first | (with_reducible first | exact HB.out | apply Al_ | apply Dn_ | apply D1_ | refine Bs_ ?_ GE569.out) | exact HB.out)) hb)
  clear HO573
  clear HO576
  clear BK569
  clear HB
  have HO573 := n0_
  have HO576 := n1_
  have HO579 := n2_
  have BK569 := n3_
  have HB := n4_
  clear n0_ n1_ n2_ n3_ n4_
  (try clear hb)
  (try clear hb2)
  (try clear hk)
  (try clear hi)
  (try clear ho0)
  obtain ⟨Ao16, co16, eo16⟩ := Kd.R_slice HO576.out
  (first | subst eo16 | (injection eo16 with f1_ f2_ f3_; have f4_ := f1_.symm; have f5_ := f3_.symm; clear f1_ f2_ f3_; subst f4_; subst f5_))
  obtain ⟨Ao17, co17, eo17⟩ := Kd.R_slice HO579.out
  (first | subst eo17 | (injection eo17 with f1_ f2_ f3_; have f4_ := f1_.symm; have f5_ := f3_.symm; clear f1_ f2_ f3_; subst f4_; subst f5_))
  refine hK.out _ _ ⟨(Bc_ BK569.out 0).trans rfl, (Bc_ BK569.out 1).trans rfl, (Bc_ BK569.out 2).trans rfl, (Bc_ BK569.out 3).trans rfl, (Bc_ BK569.out 4).trans rfl⟩ (fun hHeld => ?_)
  clear hK K
  refine norm_ (a' := ?_) ?_ ?_
  rotate_left
  ·
   show Act.put _ (some 14) _ = _
   simp only [Act.put, Sa_, Sz_, Ss_, i64_w, i32_w]
   rfl
  refine one_ (i := 9) (N := some 15) #[true, true, true, true, true, true, true, true, true, true, false] rfl rfl (one_of HT_.out (by kernel_rfl)) (by decide) (fun K hK => ?_)
  refine goes_ Tryd.func54 (by kernel_rfl) rfl #[.slice Ao16 t574.length co16, .slice Ao17 t577.length co17] (by rfl) rfl rfl (by (try simp only [List.map_toArray, List.map_cons, List.map_nil]); first | done | rfl | (simp only [List.length_drop, List.length_take]; rfl)) ?_
  with_reducible refine (r03PutExtents.calls k _ _ t574 _ _ t577 t580 _ ?side1 ?side2 ?side3 ?side4 A7.out).mono ?_
  (case side1 => repeat (first | exact (Kd.R_reads' HO576.out).2.2 | (with_reducible first | refine Kd.C_alloc ?_ _ | refine Kd.C_drewN ?_ _ | refine Kd.C_drew ?_)))
  (case side2 => exact (Kd.R_reads' HO576.out).2.1)
  (case side3 => repeat (first | exact (Kd.R_reads' HO579.out).2.2 | (with_reducible first | refine Kd.C_alloc ?_ _ | refine Kd.C_drewN ?_ _ | refine Kd.C_drew ?_)))
  (case side4 => exact (Kd.R_reads' HO579.out).2.1)
  rintro e w18 ⟨v581, rfl, ho0, hb⟩
  refine ⟨_, rfl, ?_⟩
  have n0_ := A0_ (Kd.R_elder' (by (with_reducible repeat (first | apply Ra_ | apply Rn_ | apply Rd_)); exact HO573.out) (Kd.R_base ho0) hb)
  have n1_ := A0_ (Kd.R_elder' (by (with_reducible repeat (first | apply Ra_ | apply Rn_ | apply Rd_)); exact HO576.out) (Kd.R_base ho0) hb)
  have n2_ := A0_ (Kd.R_below (by (with_reducible repeat (first | apply Ra_ | apply Rn_ | apply Rd_)); exact HO579.out) hb)
  have n3_ := A0_ (Kd.R_lower (Kd.R_new' (Kd.R_new' ho0 (Kd.R_lt (by (with_reducible repeat (first | apply Ra_ | apply Rn_ | apply Rd_)); exact HO573.out))) (Kd.R_lt (by (with_reducible repeat (first | apply Ra_ | apply Rn_ | apply Rd_)); exact HO576.out))) (below_size (by repeat (first | (with_reducible first | exact HB.out | apply Al_ | apply Dn_ | apply D1_ | refine Bs_ ?_ GE569.out) | exact HB.out))))
  have n4_ := A0_ (blk_below (g := gb569) (o := .cells #[.int .i64 a0_0, .int .i64 a0_1, .slice A0_2 l0_2.length c0_2, .int .i64 a0_3, .slice A0_4 l0_4.length c0_4] 28 (0, 0)) (by (with_reducible repeat (first | refine Bn_ ?_ _ | refine Bd_ ?_ | refine Ba_ ?_ _)); exact BK569.out) hb)
  have n5_ := A0_ (below_step (by repeat (first | (with_reducible first | exact HB.out | apply Al_ | apply Dn_ | apply D1_ | refine Bs_ ?_ GE569.out) | exact HB.out)) hb)
  clear HO573
  clear HO576
  clear HO579
  clear BK569
  clear HB
  have HO573 := n0_
  have HO576 := n1_
  have HO579 := n2_
  have HO582 := n3_
  have BK569 := n4_
  have HB := n5_
  clear n0_ n1_ n2_ n3_ n4_ n5_
  (try clear hb)
  (try clear hb2)
  (try clear hk)
  (try clear hi)
  (try clear ho0)
  refine hK.out _ _ ⟨(Bc_ BK569.out 0).trans rfl, (Bc_ BK569.out 1).trans rfl, (Bc_ BK569.out 2).trans rfl, (Bc_ BK569.out 3).trans rfl, (Bc_ BK569.out 4).trans rfl⟩ (fun hHeld => ?_)
  clear hK K
  refine norm_ (a' := ?_) ?_ ?_
  rotate_left
  ·
   show Act.put _ (some 15) _ = _
   simp only [Act.put, Sa_, Sz_, Ss_, i64_w, i32_w]
   rfl
  refine pure_ (i := 10) (N := some 2) (v := ?_) (a' := ?_) #[true, true, true, true, true, true, true, true, true, true, true] rfl rfl (any_of HT_.out (by kernel_rfl)) (fun _ _ _ h => h) (Or.inl ⟨by rfl, ?_⟩) ?_ ?_
  rotate_left
  ·
   intro w'
   go_simp
   with_reducible rfl
  rotate_left
  ·
   simp only [Act.put, Sa_, Sz_, Ss_, i64_w, i32_w]
   rfl
  refine done_ (done_of HT_.out (by kernel_rfl)) ?_
  try go_wp2
  go_ret
  exact ⟨_, by first | rfl | (simp [errW_none, errW_some] <;> rfl) | (simp [*, errW_none, errW_some] <;> rfl), by (with_reducible repeat (first | apply Ra_ | apply Rn_ | apply Rd_)); exact Kd.R_mono HO582.out (fun _ hk => trivial), by repeat (first | (with_reducible first | exact HB.out | apply Al_ | apply Dn_ | apply D1_ | refine Bs_ ?_ GE569.out) | exact HB.out)⟩
 ·
  rw [if_neg c3] at H
  have c3b0 : (t570 == 0) = false := beq_eq_false_iff_ne.mpr c3
  have c3b1 : (t570 != 0) = true := bne_iff_ne.mpr c3
  obtain rfl := Option.some.inj H
  go_enter Tryd.func24, Tryd.ntmps24
  go_wp2_with (first | ((with_reducible refine gate_dst (N := 1) rfl ?_); refine box_event ?hg (N := 1) ?hd (cs := #[.int .i64 a0_0, .int .i64 a0_1, .slice A0_2 l0_2.length c0_2, .int .i64 a0_3, .slice A0_4 l0_4.length c0_4]) (t := 28) ?hr ?_; (case hd => rfl); (case hg => rfl); (case hr => first | (go_simp; done) | (go_simp; rfl)); intro gb569 hg w19 hbox hb; have n0_ := A0_ (below_step (by repeat (first | (with_reducible first | exact HB.out | apply Al_ | apply Dn_ | apply D1_) | exact HB.out)) hb); have n1_ := A0_ (hbox); have n2_ := A0_ ((by rw [hg]; exact (below_size (by repeat (first | (with_reducible first | exact HB.out | apply Al_ | apply Dn_ | apply D1_) | exact HB.out))) : w.heap.size ≤ gb569)); have n3_ := A0_ ((by rw [hg]; exact (below_size (by repeat (first | (with_reducible first | exact HB.out | apply Al_ | apply Dn_ | apply D1_) | exact HB.out))) : w.heap.size ≤ gb569)); clear HB; have HB := n0_; have BK569 := n1_; have GW569 := n2_; have GE569 := n3_; clear n0_ n1_ n2_ n3_ hb hbox hg; have hcz20_0 : w19.cell? ⟨gb569, 0, none⟩ = some (.int .i64 a0_0) := (Bc_ BK569.out 0).trans rfl; have hcz20_1 : w19.cell? ⟨gb569, 1, none⟩ = some (.int .i64 a0_1) := (Bc_ BK569.out 1).trans rfl; have hcz20_2 : w19.cell? ⟨gb569, 2, none⟩ = some (.slice A0_2 l0_2.length c0_2) := (Bc_ BK569.out 2).trans rfl; have hcz20_3 : w19.cell? ⟨gb569, 3, none⟩ = some (.int .i64 a0_3) := (Bc_ BK569.out 3).trans rfl; have hcz20_4 : w19.cell? ⟨gb569, 4, none⟩ = some (.slice A0_4 l0_4.length c0_4) := (Bc_ BK569.out 4).trans rfl; have hfz20_0 := Bf_ BK569.out 0; have hfz20_1 := Bf_ BK569.out 1; have hfz20_2 := Bf_ BK569.out 2; have hfz20_3 := Bf_ BK569.out 3; have hfz20_4 := Bf_ BK569.out 4) | ((with_reducible refine gate_callee (f := 53) rfl ?_); refine goesL_ (some 4) rfl rfl Tryd.func53 (by kernel_rfl) rfl #[.agg #[.int .i64 a0_0, .int .i64 a0_1, .slice A0_2 l0_2.length c0_2, .int .i64 a0_3, .slice A0_4 l0_4.length c0_4]] rfl (by (try simp only [List.map_toArray, List.map_cons, List.map_nil]); first | done | rfl | (simp only [List.length_drop, List.length_take]; rfl)) ?_; (with_reducible refine (r17Check.calls k a0_0 a0_1 _ _ l0_2 a0_3 _ _ l0_4 t570 _ ?side1 ?side2 ?side3 ?side4 A2.out).mono ?_); (case side1 => repeat (first | exact (Kd.C_below HR0_2.out HB.out) | (with_reducible first | refine Kd.C_alloc ?_ _ | refine Kd.C_drewN ?_ _ | refine Kd.C_drew ?_))); (case side2 => exact HC0_2.out); (case side3 => repeat (first | exact (Kd.C_below HR0_4.out HB.out) | (with_reducible first | refine Kd.C_alloc ?_ _ | refine Kd.C_drewN ?_ _ | refine Kd.C_drew ?_))); (case side4 => exact HC0_4.out); rintro e w21 ⟨rfl, hb⟩; refine ⟨_, rfl, ?_⟩; have n0_ := A0_ (blk_below (g := gb569) (o := .cells #[.int .i64 a0_0, .int .i64 a0_1, .slice A0_2 l0_2.length c0_2, .int .i64 a0_3, .slice A0_4 l0_4.length c0_4] 28 (0, 0)) (by (with_reducible repeat (first | refine Bn_ ?_ _ | refine Bd_ ?_ | refine Ba_ ?_ _)); exact BK569.out) hb); have n1_ := A0_ (below_step (by repeat (first | (with_reducible first | exact HB.out | apply Al_ | apply Dn_ | apply D1_ | refine Bs_ ?_ GE569.out) | exact HB.out)) hb); clear BK569 HB; have BK569 := n0_; have HB := n1_; clear n0_ n1_; (try clear hb); (try clear hb2); (try clear hk); (try clear hi)))
  go_ret
  exact ⟨_, by first | rfl | (simp [errW_none, errW_some] <;> rfl) | (simp [*, errW_none, errW_some] <;> rfl), by first | exact Kd.R_nil _ _ _ _ _ | exact Kd.N_nil _ _ _ _ _ | exact Kd.V_nil _ _ _ _ _ | exact Kd.Q_nil _ _ _ _ _ | exact Kd.S_nil _ _ _ _ _, by repeat (first | (with_reducible first | exact HB.out | apply Al_ | apply Dn_ | apply D1_ | refine Bs_ ?_ GE569.out) | exact HB.out)⟩
def l17IntentEncodes.f (k : Nat) (a0_0 : Int) (a0_1 : Int) (l0_2 : List Int) (a0_3 : Int) (l0_4 : List Int) : Option (Bool) := (l17few.f a0_0 a0_1 l0_2 a0_3 l0_4).bind fun t584 => (if t584 = true then ((l17awake.f).bind fun t586 => (if t586 = true then ((iEncode.f k a0_0 a0_1 l0_2 a0_3 l0_4).bind fun t587 => ((r17Encode.f k a0_0 a0_1 l0_2 a0_3 l0_4).bind fun t590 => ((bytes_Equal.f t587 t590).bind fun t593 => (some t593)))) else (some false))) else ((l17awake.f).bind fun t585 => (some t585)))
def l17IntentEncodes.T3 : Bool × List (List Nat × List Nat) := (true, [([], []), ([0, 0], [0]), ([1], [1]), ([2, 1, 1], [1, 2]), ([1], [1]), ([4, 3, 1], [1, 4]), ([3, 5, 5, 1], [1, 3, 5]), ([1, 6], [1, 6]), ([7, 6, 0, 1, 2, 3, 4, 5, 6, 7], [7])])
def l17IntentEncodes.B3 : List Nat := [0, 1, 3, 7, 3, 31, 63, 127, 255]
theorem l17IntentEncodes.tab3 : rtab .any (opsOf Tryd.f7 3) = l17IntentEncodes.T3 := by kernel_rfl
theorem l17IntentEncodes.bits3 : waitsOk l17IntentEncodes.T3.2 l17IntentEncodes.B3 = true := by kernel_rfl
set_option maxHeartbeats 8000000 in
set_option maxRecDepth 100000 in
theorem l17IntentEncodes.calls (k : Nat) (a0_0 : Int) (a0_1 : Int) (A0_2 : Option Addr) (c0_2 : Nat) (l0_2 : List Int) (a0_3 : Int) (A0_4 : Option Addr) (c0_4 : Nat) (l0_4 : List Int) (r : Bool) (w : World) (hG : TabOK w) (hr0_2 : Kd.C (Kd.int .i64) w A0_2 l0_2.length l0_2) (hc0_2 : l0_2.length ≤ c0_2) (hr0_4 : Kd.C (Kd.int .u64) w A0_4 l0_4.length l0_4) (hc0_4 : l0_4.length ≤ c0_4) (hT : Aside0 (r = true)) (h : l17IntentEncodes.f k a0_0 a0_1 l0_2 a0_3 l0_4 = some r) :
  Calls Tryd.prog 7 #[.agg #[.int .i64 a0_0, .int .i64 a0_1, .slice A0_2 l0_2.length c0_2, .int .i64 a0_3, .slice A0_4 l0_4.length c0_4]] w fun e w' => e = .returned (.bool r) ∧ Below w.heap.size w w' := by
 have hu28 := Tryd.underlying28
 have HR0_2 := A0_ hr0_2
 have HC0_2 := A0_ hc0_2
 clear hr0_2 hc0_2
 have HR0_4 := A0_ hr0_4
 have HC0_4 := A0_ hc0_4
 clear hr0_4 hc0_4
 have HB := A0_ (Below.refl w.heap.size w)
 have H : ((l17few.f a0_0 a0_1 l0_2 a0_3 l0_4).bind fun t584 => (if t584 = true then ((l17awake.f).bind fun t586 => (if t586 = true then ((iEncode.f k a0_0 a0_1 l0_2 a0_3 l0_4).bind fun t587 => ((r17Encode.f k a0_0 a0_1 l0_2 a0_3 l0_4).bind fun t590 => ((bytes_Equal.f t587 t590).bind fun t593 => (some t593)))) else (some false))) else ((l17awake.f).bind fun t585 => (some t585)))) = some r := h
 clear h
 replace H := Option.bind_eq_some_iff.mp H
 obtain ⟨t584, A20, H⟩ := H
 replace H : (if t584 = true then ((l17awake.f).bind fun t586 => (if t586 = true then ((iEncode.f k a0_0 a0_1 l0_2 a0_3 l0_4).bind fun t587 => ((r17Encode.f k a0_0 a0_1 l0_2 a0_3 l0_4).bind fun t590 => ((bytes_Equal.f t587 t590).bind fun t593 => (some t593)))) else (some false))) else ((l17awake.f).bind fun t585 => (some t585))) = some r := H
 have A2 := A0_ A20
 clear A20
 by_cases c3 : t584 = true
 ·
  subst c3
  have H1 : ((l17awake.f).bind fun t586 => (if t586 = true then ((iEncode.f k a0_0 a0_1 l0_2 a0_3 l0_4).bind fun t587 => ((r17Encode.f k a0_0 a0_1 l0_2 a0_3 l0_4).bind fun t590 => ((bytes_Equal.f t587 t590).bind fun t593 => (some t593)))) else (some false))) = some r := by rw [if_pos rfl] at H; exact H
  clear H
  have H := H1
  clear H1
  replace H := Option.bind_eq_some_iff.mp H
  obtain ⟨t586, A40, H⟩ := H
  replace H : (if t586 = true then ((iEncode.f k a0_0 a0_1 l0_2 a0_3 l0_4).bind fun t587 => ((r17Encode.f k a0_0 a0_1 l0_2 a0_3 l0_4).bind fun t590 => ((bytes_Equal.f t587 t590).bind fun t593 => (some t593)))) else (some false)) = some r := H
  have A4 := A0_ A40
  clear A40
  by_cases c5 : t586 = true
  ·
   subst c5
   have H1 : ((iEncode.f k a0_0 a0_1 l0_2 a0_3 l0_4).bind fun t587 => ((r17Encode.f k a0_0 a0_1 l0_2 a0_3 l0_4).bind fun t590 => ((bytes_Equal.f t587 t590).bind fun t593 => (some t593)))) = some r := by rw [if_pos rfl] at H; exact H
   clear H
   have H := H1
   clear H1
   replace H := Option.bind_eq_some_iff.mp H
   obtain ⟨t587, A60, H⟩ := H
   replace H : ((r17Encode.f k a0_0 a0_1 l0_2 a0_3 l0_4).bind fun t590 => ((bytes_Equal.f t587 t590).bind fun t593 => (some t593))) = some r := H
   have A6 := A0_ A60
   clear A60
   replace H := Option.bind_eq_some_iff.mp H
   obtain ⟨t590, A70, H⟩ := H
   replace H : ((bytes_Equal.f t587 t590).bind fun t593 => (some t593)) = some r := H
   have A7 := A0_ A70
   clear A70
   replace H := Option.bind_eq_some_iff.mp H
   obtain ⟨t593, A80, H⟩ := H
   replace H : (some t593) = some r := H
   have A8 := A0_ A80
   clear A80
   obtain rfl := Option.some.inj H
   go_enter Tryd.func7, Tryd.ntmps7
   try go_wp2_with (first | ((with_reducible refine gate_dst (N := 1) rfl ?_); refine box_event ?hg (N := 1) ?hd (cs := #[.int .i64 a0_0, .int .i64 a0_1, .slice A0_2 l0_2.length c0_2, .int .i64 a0_3, .slice A0_4 l0_4.length c0_4]) (t := 28) ?hr ?_; (case hd => rfl); (case hg => rfl); (case hr => first | (go_simp; done) | (go_simp; rfl)); intro gb583 hg w9 hbox hb; have n0_ := A0_ (below_step (by repeat (first | (with_reducible first | exact HB.out | apply Al_ | apply Dn_ | apply D1_) | exact HB.out)) hb); have n1_ := A0_ (hbox); have n2_ := A0_ ((by rw [hg]; exact (below_size (by repeat (first | (with_reducible first | exact HB.out | apply Al_ | apply Dn_ | apply D1_) | exact HB.out))) : w.heap.size ≤ gb583)); have n3_ := A0_ ((by rw [hg]; exact (below_size (by repeat (first | (with_reducible first | exact HB.out | apply Al_ | apply Dn_ | apply D1_) | exact HB.out))) : w.heap.size ≤ gb583)); clear HB; have HB := n0_; have BK583 := n1_; have GW583 := n2_; have GE583 := n3_; clear n0_ n1_ n2_ n3_ hb hbox hg; have hcz10_0 : w9.cell? ⟨gb583, 0, none⟩ = some (.int .i64 a0_0) := (Bc_ BK583.out 0).trans rfl; have hcz10_1 : w9.cell? ⟨gb583, 1, none⟩ = some (.int .i64 a0_1) := (Bc_ BK583.out 1).trans rfl; have hcz10_2 : w9.cell? ⟨gb583, 2, none⟩ = some (.slice A0_2 l0_2.length c0_2) := (Bc_ BK583.out 2).trans rfl; have hcz10_3 : w9.cell? ⟨gb583, 3, none⟩ = some (.int .i64 a0_3) := (Bc_ BK583.out 3).trans rfl; have hcz10_4 : w9.cell? ⟨gb583, 4, none⟩ = some (.slice A0_4 l0_4.length c0_4) := (Bc_ BK583.out 4).trans rfl; have hfz10_0 := Bf_ BK583.out 0; have hfz10_1 := Bf_ BK583.out 1; have hfz10_2 := Bf_ BK583.out 2; have hfz10_3 := Bf_ BK583.out 3; have hfz10_4 := Bf_ BK583.out 4) | ((with_reducible refine gate_callee (f := 22) rfl ?_); refine goesL_ (some 4) rfl rfl Tryd.func22 (by kernel_rfl) rfl #[.agg #[.int .i64 a0_0, .int .i64 a0_1, .slice A0_2 l0_2.length c0_2, .int .i64 a0_3, .slice A0_4 l0_4.length c0_4]] rfl (by (try simp only [List.map_toArray, List.map_cons, List.map_nil]); first | done | rfl | (simp only [List.length_drop, List.length_take]; rfl)) ?_; (with_reducible refine (l17few.calls a0_0 a0_1 _ _ l0_2 a0_3 _ _ l0_4 true _ ?side1 ?side2 ?side3 ?side4 A2.out).mono ?_); (case side1 => repeat (first | exact (Kd.C_below HR0_2.out HB.out) | (with_reducible first | refine Kd.C_alloc ?_ _ | refine Kd.C_drewN ?_ _ | refine Kd.C_drew ?_))); (case side2 => exact HC0_2.out); (case side3 => repeat (first | exact (Kd.C_below HR0_4.out HB.out) | (with_reducible first | refine Kd.C_alloc ?_ _ | refine Kd.C_drewN ?_ _ | refine Kd.C_drew ?_))); (case side4 => exact HC0_4.out); rintro e w11 ⟨rfl, hb⟩; refine ⟨_, rfl, ?_⟩; have n0_ := A0_ (blk_below (g := gb583) (o := .cells #[.int .i64 a0_0, .int .i64 a0_1, .slice A0_2 l0_2.length c0_2, .int .i64 a0_3, .slice A0_4 l0_4.length c0_4] 28 (0, 0)) (by (with_reducible repeat (first | refine Bn_ ?_ _ | refine Bd_ ?_ | refine Ba_ ?_ _)); exact BK583.out) hb); have n1_ := A0_ (below_step (by repeat (first | (with_reducible first | exact HB.out | apply Al_ | apply Dn_ | apply D1_ | refine Bs_ ?_ GE583.out) | exact HB.out)) hb); clear BK583 HB; have BK583 := n0_; have HB := n1_; clear n0_ n1_; (try clear hb); (try clear hb2); (try clear hk); (try clear hi)))
   have n0_ := A0_ (blk_drew BK583.out)
   have n1_ := A0_ (D1_ HB.out)
   clear BK583
   clear HB
   have BK583 := n0_
   have HB := n1_
   clear n0_ n1_
   refine start_ (n := 9) (S := fun w' => w'.cell? ⟨gb583, 0, none⟩ = some (.int .i64 a0_0) ∧ w'.cell? ⟨gb583, 1, none⟩ = some (.int .i64 a0_1) ∧ w'.cell? ⟨gb583, 2, none⟩ = some (.slice A0_2 l0_2.length c0_2) ∧ w'.cell? ⟨gb583, 3, none⟩ = some (.int .i64 a0_3) ∧ w'.cell? ⟨gb583, 4, none⟩ = some (.slice A0_4 l0_4.length c0_4)) (ds := []) #[false, false, false, false, false, false, false, false, false] (by kernel_rfl) rfl rfl ⟨(Bc_ BK583.out 0).trans rfl, (Bc_ BK583.out 1).trans rfl, (Bc_ BK583.out 2).trans rfl, (Bc_ BK583.out 3).trans rfl, (Bc_ BK583.out 4).trans rfl⟩ (fun hHeld => ?_); refine with_tabW l17IntentEncodes.tab3 l17IntentEncodes.bits3 (fun HT_ HW_ => ?_)
   generalize w11.drew = w12 at BK583 HB hHeld ⊢
   refine one_ (i := 0) (N := some 7) #[true, false, false, false, false, false, false, false, false] rfl rfl (one_of HT_.out (by kernel_rfl)) (by decide) (fun K hK => ?_)
   refine goes_ Tryd.func8 (by kernel_rfl) rfl #[] (by rfl) rfl rfl (by (try simp only [List.map_toArray, List.map_cons, List.map_nil]); first | done | rfl | (simp only [List.length_drop, List.length_take]; rfl)) ?_
   with_reducible refine (l17awake.calls  true _ ?side1 A4.out).mono ?_
   (case side1 => exact TabOK.below hG (by repeat (first | (with_reducible first | exact HB.out | apply Al_ | apply Dn_ | apply D1_ | refine Bs_ ?_ GE583.out) | exact HB.out)))
   rintro e w13 ⟨rfl, hb⟩
   refine ⟨_, rfl, ?_⟩
   have n0_ := A0_ (blk_below (g := gb583) (o := .cells #[.int .i64 a0_0, .int .i64 a0_1, .slice A0_2 l0_2.length c0_2, .int .i64 a0_3, .slice A0_4 l0_4.length c0_4] 28 (0, 0)) (by (with_reducible repeat (first | refine Bn_ ?_ _ | refine Bd_ ?_ | refine Ba_ ?_ _)); exact BK583.out) hb)
   have n1_ := A0_ (below_step (by repeat (first | (with_reducible first | exact HB.out | apply Al_ | apply Dn_ | apply D1_ | refine Bs_ ?_ GE583.out) | exact HB.out)) hb)
   clear BK583
   clear HB
   have BK583 := n0_
   have HB := n1_
   clear n0_ n1_
   (try clear hb)
   (try clear hb2)
   (try clear hk)
   (try clear hi)
   refine hK.out _ _ ⟨(Bc_ BK583.out 0).trans rfl, (Bc_ BK583.out 1).trans rfl, (Bc_ BK583.out 2).trans rfl, (Bc_ BK583.out 3).trans rfl, (Bc_ BK583.out 4).trans rfl⟩ (fun hHeld => ?_)
   clear hK K
   refine norm_ (a' := ?_) ?_ ?_
   rotate_left
   ·
    show Act.put _ (some 7) _ = _
    simp only [Act.put, Sa_, Sz_, Ss_, i64_w, i32_w]
    rfl
   refine pure_ (i := 1) (N := some 8) (v := ?_) (a' := ?_) #[true, true, false, false, false, false, false, false, false] rfl rfl (any_of HT_.out (by kernel_rfl)) (fun _ _ _ h => h) (Or.inl ⟨by rfl, ?_⟩) ?_ ?_
   rotate_left
   ·
    intro w'
    go_simp
    with_reducible rfl
   rotate_left
   ·
    simp only [Act.put, Sa_, Sz_, Ss_, i64_w, i32_w]
    rfl
   refine take_ (i := 2) (N := some 9) (v := ?_) (a' := ?_) #[true, true, true, false, false, false, false, false, false] rfl rfl (take_ofW HT_.out HW_.out (by kernel_rfl)) (fun _ _ _ h => h) (Or.inl ⟨by rfl, ?_⟩) hHeld ?_ ?_
   rotate_left
   ·
    rintro w' ⟨s0, s1, s2, s3, s4⟩
    go_simp
    with_reducible rfl
   rotate_left
   ·
    simp only [Act.put, Sa_, Sz_, Ss_, i64_w, i32_w]
    rfl
   refine take_ (i := 4) (N := some 11) (v := ?_) (a' := ?_) #[true, true, true, false, true, false, false, false, false] rfl rfl (take_ofW HT_.out HW_.out (by kernel_rfl)) (fun _ _ _ h => h) (Or.inl ⟨by rfl, ?_⟩) hHeld ?_ ?_
   rotate_left
   ·
    rintro w' ⟨s0, s1, s2, s3, s4⟩
    go_simp
    with_reducible rfl
   rotate_left
   ·
    simp only [Act.put, Sa_, Sz_, Ss_, i64_w, i32_w]
    rfl
   refine one_ (i := 3) (N := some 10) #[true, true, true, true, true, false, false, false, false] rfl rfl (one_of HT_.out (by kernel_rfl)) (by decide) (fun K hK => ?_)
   refine goes_ Tryd.func12 (by kernel_rfl) rfl #[.agg #[.int .i64 a0_0, .int .i64 a0_1, .slice A0_2 l0_2.length c0_2, .int .i64 a0_3, .slice A0_4 l0_4.length c0_4]] (by rfl) rfl rfl (by (try simp only [List.map_toArray, List.map_cons, List.map_nil]); first | done | rfl | (simp only [List.length_drop, List.length_take]; rfl)) ?_
   with_reducible refine (iEncode.calls k a0_0 a0_1 _ _ l0_2 a0_3 _ _ l0_4 t587 _ ?side5 ?side1 ?side2 ?side3 ?side4 A6.out).mono ?_
   (case side1 => repeat (first | exact (Kd.C_below HR0_2.out HB.out) | (with_reducible first | refine Kd.C_alloc ?_ _ | refine Kd.C_drewN ?_ _ | refine Kd.C_drew ?_)))
   (case side2 => exact HC0_2.out)
   (case side3 => repeat (first | exact (Kd.C_below HR0_4.out HB.out) | (with_reducible first | refine Kd.C_alloc ?_ _ | refine Kd.C_drewN ?_ _ | refine Kd.C_drew ?_)))
   (case side4 => exact HC0_4.out)
   (case side5 => exact TabOK.below hG (by repeat (first | (with_reducible first | exact HB.out | apply Al_ | apply Dn_ | apply D1_ | refine Bs_ ?_ GE583.out) | exact HB.out)))
   rintro e w14 ⟨v588, rfl, ho0, hb⟩
   refine ⟨_, rfl, ?_⟩
   have n0_ := A0_ (Kd.R_lower ho0 (below_size (by repeat (first | (with_reducible first | exact HB.out | apply Al_ | apply Dn_ | apply D1_ | refine Bs_ ?_ GE583.out) | exact HB.out))))
   have n1_ := A0_ (blk_below (g := gb583) (o := .cells #[.int .i64 a0_0, .int .i64 a0_1, .slice A0_2 l0_2.length c0_2, .int .i64 a0_3, .slice A0_4 l0_4.length c0_4] 28 (0, 0)) (by (with_reducible repeat (first | refine Bn_ ?_ _ | refine Bd_ ?_ | refine Ba_ ?_ _)); exact BK583.out) hb)
   have n2_ := A0_ (below_step (by repeat (first | (with_reducible first | exact HB.out | apply Al_ | apply Dn_ | apply D1_ | refine Bs_ ?_ GE583.out) | exact HB.out)) hb)
   clear BK583
   clear HB
   have HO589 := n0_
   have BK583 := n1_
   have HB := n2_
   clear n0_ n1_ n2_
   (try clear hb)
   (try clear hb2)
   (try clear hk)
   (try clear hi)
   (try clear ho0)
   refine hK.out _ _ ⟨(Bc_ BK583.out 0).trans rfl, (Bc_ BK583.out 1).trans rfl, (Bc_ BK583.out 2).trans rfl, (Bc_ BK583.out 3).trans rfl, (Bc_ BK583.out 4).trans rfl⟩ (fun hHeld => ?_)
   clear hK K
   refine norm_ (a' := ?_) ?_ ?_
   rotate_left
   ·
    show Act.put _ (some 10) _ = _
    simp only [Act.put, Sa_, Sz_, Ss_, i64_w, i32_w]
    rfl
   refine one_ (i := 5) (N := some 12) #[true, true, true, true, true, true, false, false, false] rfl rfl (one_of HT_.out (by kernel_rfl)) (by decide) (fun K hK => ?_)
   refine goes_ Tryd.func24 (by kernel_rfl) rfl #[.agg #[.int .i64 a0_0, .int .i64 a0_1, .slice A0_2 l0_2.length c0_2, .int .i64 a0_3, .slice A0_4 l0_4.length c0_4]] (by rfl) rfl rfl (by (try simp only [List.map_toArray, List.map_cons, List.map_nil]); first | done | rfl | (simp only [List.length_drop, List.length_take]; rfl)) ?_
   with_reducible refine (r17Encode.calls k a0_0 a0_1 _ _ l0_2 a0_3 _ _ l0_4 t590 _ ?side1 ?side2 ?side3 ?side4 A7.out).mono ?_
   (case side1 => repeat (first | exact (Kd.C_below HR0_2.out HB.out) | (with_reducible first | refine Kd.C_alloc ?_ _ | refine Kd.C_drewN ?_ _ | refine Kd.C_drew ?_)))
   (case side2 => exact HC0_2.out)
   (case side3 => repeat (first | exact (Kd.C_below HR0_4.out HB.out) | (with_reducible first | refine Kd.C_alloc ?_ _ | refine Kd.C_drewN ?_ _ | refine Kd.C_drew ?_)))
   (case side4 => exact HC0_4.out)
   rintro e w15 ⟨v591, rfl, ho0, hb⟩
   refine ⟨_, rfl, ?_⟩
   have n0_ := A0_ (Kd.R_elder' (by (with_reducible repeat (first | apply Ra_ | apply Rn_ | apply Rd_)); exact HO589.out) (Kd.R_base ho0) hb)
   have n1_ := A0_ (Kd.R_lower (Kd.R_new' ho0 (Kd.R_lt (by (with_reducible repeat (first | apply Ra_ | apply Rn_ | apply Rd_)); exact HO589.out))) (below_size (by repeat (first | (with_reducible first | exact HB.out | apply Al_ | apply Dn_ | apply D1_ | refine Bs_ ?_ GE583.out) | exact HB.out))))
   have n2_ := A0_ (blk_below (g := gb583) (o := .cells #[.int .i64 a0_0, .int .i64 a0_1, .slice A0_2 l0_2.length c0_2, .int .i64 a0_3, .slice A0_4 l0_4.length c0_4] 28 (0, 0)) (by (with_reducible repeat (first | refine Bn_ ?_ _ | refine Bd_ ?_ | refine Ba_ ?_ _)); exact BK583.out) hb)
   have n3_ := A0_ (below_step (by repeat (first | (with_reducible first | exact HB.out | apply Al_ | apply Dn_ | apply D1_ | refine Bs_ ?_ GE583.out) | exact HB.out)) hb)
   clear HO589
   clear BK583
   clear HB
   have HO589 := n0_
   have HO592 := n1_
   have BK583 := n2_
   have HB := n3_
   clear n0_ n1_ n2_ n3_
   (try clear hb)
   (try clear hb2)
   (try clear hk)
   (try clear hi)
   (try clear ho0)
   obtain ⟨Ao16, co16, eo16⟩ := Kd.R_slice HO589.out
   (first | subst eo16 | (injection eo16 with f1_ f2_ f3_; have f4_ := f1_.symm; have f5_ := f3_.symm; clear f1_ f2_ f3_; subst f4_; subst f5_))
   obtain ⟨Ao17, co17, eo17⟩ := Kd.R_slice HO592.out
   (first | subst eo17 | (injection eo17 with f1_ f2_ f3_; have f4_ := f1_.symm; have f5_ := f3_.symm; clear f1_ f2_ f3_; subst f4_; subst f5_))
   refine hK.out _ _ ⟨(Bc_ BK583.out 0).trans rfl, (Bc_ BK583.out 1).trans rfl, (Bc_ BK583.out 2).trans rfl, (Bc_ BK583.out 3).trans rfl, (Bc_ BK583.out 4).trans rfl⟩ (fun hHeld => ?_)
   clear hK K
   refine norm_ (a' := ?_) ?_ ?_
   rotate_left
   ·
    show Act.put _ (some 12) _ = _
    simp only [Act.put, Sa_, Sz_, Ss_, i64_w, i32_w]
    rfl
   refine one_ (i := 6) (N := some 13) #[true, true, true, true, true, true, true, false, false] rfl rfl (one_of HT_.out (by kernel_rfl)) (by decide) (fun K hK => ?_)
   refine goes_ Tryd.func23 (by kernel_rfl) rfl #[.slice Ao16 t587.length co16, .slice Ao17 t590.length co17] (by rfl) rfl rfl (by (try simp only [List.map_toArray, List.map_cons, List.map_nil]); first | done | rfl | (simp only [List.length_drop, List.length_take]; rfl)) ?_
   with_reducible refine (bytes_Equal.calls _ _ t587 _ _ t590 t593 _ ?side1 ?side2 ?side3 ?side4 A8.out).mono ?_
   (case side1 => repeat (first | exact (Kd.R_reads' HO589.out).2.2 | (with_reducible first | refine Kd.C_alloc ?_ _ | refine Kd.C_drewN ?_ _ | refine Kd.C_drew ?_)))
   (case side2 => exact (Kd.R_reads' HO589.out).2.1)
   (case side3 => repeat (first | exact (Kd.R_reads' HO592.out).2.2 | (with_reducible first | refine Kd.C_alloc ?_ _ | refine Kd.C_drewN ?_ _ | refine Kd.C_drew ?_)))
   (case side4 => exact (Kd.R_reads' HO592.out).2.1)
   rintro e w' ⟨rfl, ⟨nd, rfl⟩⟩
   refine ⟨_, rfl, ?_⟩
   refine hK.out _ _ ⟨(Bc_ BK583.out 0).trans rfl, (Bc_ BK583.out 1).trans rfl, (Bc_ BK583.out 2).trans rfl, (Bc_ BK583.out 3).trans rfl, (Bc_ BK583.out 4).trans rfl⟩ (fun hHeld => ?_)
   clear hK K
   refine norm_ (a' := ?_) ?_ ?_
   rotate_left
   ·
    show Act.put _ (some 13) _ = _
    simp only [Act.put, Sa_, Sz_, Ss_, i64_w, i32_w]
    rfl
   refine pure_ (i := 7) (N := some 14) (v := ?_) (a' := ?_) #[true, true, true, true, true, true, true, true, false] rfl rfl (any_of HT_.out (by kernel_rfl)) (fun _ _ _ h => h) (Or.inl ⟨by rfl, ?_⟩) ?_ ?_
   rotate_left
   ·
    intro w'
    go_simp
    with_reducible rfl
   rotate_left
   ·
    simp only [Act.put, Sa_, Sz_, Ss_, i64_w, i32_w]
    rfl
   refine pure_ (i := 8) (N := some 2) (v := ?_) (a' := ?_) #[true, true, true, true, true, true, true, true, true] rfl rfl (any_of HT_.out (by kernel_rfl)) (fun _ _ _ h => h) (Or.inl ⟨by rfl, ?_⟩) ?_ ?_
   rotate_left
   ·
    intro w'
    go_simp
    with_reducible rfl
   rotate_left
   ·
    simp only [Act.put, Sa_, Sz_, Ss_, i64_w, i32_w]
    rfl
   refine done_ (done_of HT_.out (by kernel_rfl)) ?_
   try go_wp2
   go_ret
   exact ⟨by first | rfl | (simp [errW_none, errW_some] <;> rfl) | (simp [*, errW_none, errW_some] <;> rfl), by repeat (first | (with_reducible first | exact HB.out | apply Al_ | apply Dn_ | apply D1_ | refine Bs_ ?_ GE583.out) | exact HB.out)⟩
  ·
   replace c5 := Bool.eq_false_iff.mpr c5
   subst c5
   have H1 : (some false) = some r := by rw [if_neg (show ¬ (false = true) by decide)] at H; exact H
   clear H
   have H := H1
   clear H1
   exact absurd ((Option.some.inj H).trans hT.out) (by decide)
 ·
  replace c3 := Bool.eq_false_iff.mpr c3
  subst c3
  have H1 : ((l17awake.f).bind fun t585 => (some t585)) = some r := by rw [if_neg (show ¬ (false = true) by decide)] at H; exact H
  clear H
  have H := H1
  clear H1
  replace H := Option.bind_eq_some_iff.mp H
  obtain ⟨t585, A180, H⟩ := H
  replace H : (some t585) = some r := H
  have A18 := A0_ A180
  clear A180
  obtain rfl := Option.some.inj H
  go_enter Tryd.func7, Tryd.ntmps7
  go_wp2_with (first | ((with_reducible refine gate_dst (N := 1) rfl ?_); refine box_event ?hg (N := 1) ?hd (cs := #[.int .i64 a0_0, .int .i64 a0_1, .slice A0_2 l0_2.length c0_2, .int .i64 a0_3, .slice A0_4 l0_4.length c0_4]) (t := 28) ?hr ?_; (case hd => rfl); (case hg => rfl); (case hr => first | (go_simp; done) | (go_simp; rfl)); intro gb583 hg w19 hbox hb; have n0_ := A0_ (below_step (by repeat (first | (with_reducible first | exact HB.out | apply Al_ | apply Dn_ | apply D1_) | exact HB.out)) hb); have n1_ := A0_ (hbox); have n2_ := A0_ ((by rw [hg]; exact (below_size (by repeat (first | (with_reducible first | exact HB.out | apply Al_ | apply Dn_ | apply D1_) | exact HB.out))) : w.heap.size ≤ gb583)); have n3_ := A0_ ((by rw [hg]; exact (below_size (by repeat (first | (with_reducible first | exact HB.out | apply Al_ | apply Dn_ | apply D1_) | exact HB.out))) : w.heap.size ≤ gb583)); clear HB; have HB := n0_; have BK583 := n1_; have GW583 := n2_; have GE583 := n3_; clear n0_ n1_ n2_ n3_ hb hbox hg; have hcz20_0 : w19.cell? ⟨gb583, 0, none⟩ = some (.int .i64 a0_0) := (Bc_ BK583.out 0).trans rfl; have hcz20_1 : w19.cell? ⟨gb583, 1, none⟩ = some (.int .i64 a0_1) := (Bc_ BK583.out 1).trans rfl; have hcz20_2 : w19.cell? ⟨gb583, 2, none⟩ = some (.slice A0_2 l0_2.length c0_2) := (Bc_ BK583.out 2).trans rfl; have hcz20_3 : w19.cell? ⟨gb583, 3, none⟩ = some (.int .i64 a0_3) := (Bc_ BK583.out 3).trans rfl; have hcz20_4 : w19.cell? ⟨gb583, 4, none⟩ = some (.slice A0_4 l0_4.length c0_4) := (Bc_ BK583.out 4).trans rfl; have hfz20_0 := Bf_ BK583.out 0; have hfz20_1 := Bf_ BK583.out 1; have hfz20_2 := Bf_ BK583.out 2; have hfz20_3 := Bf_ BK583.out 3; have hfz20_4 := Bf_ BK583.out 4) | ((with_reducible refine gate_callee (f := 22) rfl ?_); refine goesL_ (some 4) rfl rfl Tryd.func22 (by kernel_rfl) rfl #[.agg #[.int .i64 a0_0, .int .i64 a0_1, .slice A0_2 l0_2.length c0_2, .int .i64 a0_3, .slice A0_4 l0_4.length c0_4]] rfl (by (try simp only [List.map_toArray, List.map_cons, List.map_nil]); first | done | rfl | (simp only [List.length_drop, List.length_take]; rfl)) ?_; (with_reducible refine (l17few.calls a0_0 a0_1 _ _ l0_2 a0_3 _ _ l0_4 false _ ?side1 ?side2 ?side3 ?side4 A2.out).mono ?_); (case side1 => repeat (first | exact (Kd.C_below HR0_2.out HB.out) | (with_reducible first | refine Kd.C_alloc ?_ _ | refine Kd.C_drewN ?_ _ | refine Kd.C_drew ?_))); (case side2 => exact HC0_2.out); (case side3 => repeat (first | exact (Kd.C_below HR0_4.out HB.out) | (with_reducible first | refine Kd.C_alloc ?_ _ | refine Kd.C_drewN ?_ _ | refine Kd.C_drew ?_))); (case side4 => exact HC0_4.out); rintro e w21 ⟨rfl, hb⟩; refine ⟨_, rfl, ?_⟩; have n0_ := A0_ (blk_below (g := gb583) (o := .cells #[.int .i64 a0_0, .int .i64 a0_1, .slice A0_2 l0_2.length c0_2, .int .i64 a0_3, .slice A0_4 l0_4.length c0_4] 28 (0, 0)) (by (with_reducible repeat (first | refine Bn_ ?_ _ | refine Bd_ ?_ | refine Ba_ ?_ _)); exact BK583.out) hb); have n1_ := A0_ (below_step (by repeat (first | (with_reducible first | exact HB.out | apply Al_ | apply Dn_ | apply D1_ | refine Bs_ ?_ GE583.out) | exact HB.out)) hb); clear BK583 HB; have BK583 := n0_; have HB := n1_; clear n0_ n1_; (try clear hb); (try clear hb2); (try clear hk); (try clear hi)) | ((with_reducible refine gate_callee (f := 8) rfl ?_); refine goesL_ (some 6) rfl rfl Tryd.func8 (by kernel_rfl) rfl #[] rfl (by (try simp only [List.map_toArray, List.map_cons, List.map_nil]); first | done | rfl | (simp only [List.length_drop, List.length_take]; rfl)) ?_; (with_reducible refine (l17awake.calls  t585 _ ?side1 A18.out).mono ?_); (case side1 => exact TabOK.below hG (by repeat (first | (with_reducible first | exact HB.out | apply Al_ | apply Dn_ | apply D1_ | refine Bs_ ?_ GE583.out) | exact HB.out))); rintro e w22 ⟨rfl, hb⟩; refine ⟨_, rfl, ?_⟩; have n0_ := A0_ (blk_below (g := gb583) (o := .cells #[.int .i64 a0_0, .int .i64 a0_1, .slice A0_2 l0_2.length c0_2, .int .i64 a0_3, .slice A0_4 l0_4.length c0_4] 28 (0, 0)) (by (with_reducible repeat (first | refine Bn_ ?_ _ | refine Bd_ ?_ | refine Ba_ ?_ _)); exact BK583.out) hb); have n1_ := A0_ (below_step (by repeat (first | (with_reducible first | exact HB.out | apply Al_ | apply Dn_ | apply D1_ | refine Bs_ ?_ GE583.out) | exact HB.out)) hb); clear BK583 HB; have BK583 := n0_; have HB := n1_; clear n0_ n1_; (try clear hb); (try clear hb2); (try clear hk); (try clear hi)))
  go_ret
  exact ⟨by first | rfl | (simp [errW_none, errW_some] <;> rfl) | (simp [*, errW_none, errW_some] <;> rfl), by repeat (first | (with_reducible first | exact HB.out | apply Al_ | apply Dn_ | apply D1_ | refine Bs_ ?_ GE583.out) | exact HB.out)⟩
end Go.Proofs.YtnjbdcnefienhaaDoor.P

namespace Go.Proofs.YtnjbdcnefienhaaDoor.P
open Go.RowKit Go.Proofs.YtnjbdcnefienhaaDoorW.PrintWords Go.Proofs.YtnjbdcnefienhaaDoorW.PrintLast Go.Proofs.YtnjbdcnefienhaaDoorW.PrintMore
theorem awake_eq : l17awake.f = some true := rfl
def szOK (sz gr : Int) : Bool := decide (1 ≤ sz ∧ sz ≤ 4096 ∧ 1 ≤ gr ∧ gr ≤ 4096)
theorem isizes_eq (sz gr : Int) : isizes.f sz gr = some (szOK sz gr) := by
  unfold isizes.f szOK
  by_cases h1 : sz ≥ 1
  · rw [if_pos h1]
    by_cases h2 : sz ≤ 4096
    · rw [if_pos h2]
      by_cases h3 : gr ≥ 1
      · rw [if_pos h3]; congr 1; rw [decide_eq_decide]; omega
      · rw [if_neg h3, decide_eq_false (by omega)]
    · rw [if_neg h2, decide_eq_false (by omega)]
  · rw [if_neg h1, decide_eq_false (by omega)]
theorem rsizes_eq (sz gr : Int) : r17sizes.f sz gr = some (szOK sz gr) := (show r17sizes.f sz gr = isizes.f sz gr from rfl).trans (isizes_eq sz gr)
theorem szOK_iff {sz gr : Int} : szOK sz gr = true ↔ 1 ≤ sz ∧ sz ≤ 4096 ∧ 1 ≤ gr ∧ gr ≤ 4096 := by unfold szOK; rw [decide_eq_true_iff]
def gran (sz gr : Int) : Int := (sz + gr - 1) / gr
theorem gran_eq' {sz gr : Int} (h : 1 ≤ gr) : gran sz gr = (sz - 1) / gr + 1 := by
  unfold gran
  rw [show sz + gr - 1 = (sz - 1) + gr from by omega, Int.add_ediv_of_dvd_right (Int.dvd_refl gr), Int.ediv_self (by omega)]
theorem gran_bd {sz gr : Int} (h : szOK sz gr = true) : 1 ≤ gran sz gr ∧ gran sz gr ≤ sz ∧ gran sz gr ≤ 4096 := by
  obtain ⟨h1, h2, h3, h4⟩ := szOK_iff.1 h
  rw [gran_eq' h3]
  have a : 0 ≤ (sz - 1) / gr := Int.ediv_nonneg (by omega) (by omega)
  have b : (sz - 1) / gr ≤ sz - 1 := Int.ediv_le_self _ (by omega)
  omega
theorem gran_eq {sz gr : Int} (h : szOK sz gr = true) : igranules.f sz gr = some (gran sz gr) := by
  obtain ⟨h1, h2, h3, h4⟩ := szOK_iff.1 h
  obtain ⟨g1, g2, g3⟩ := gran_bd h
  unfold gran at g1 g2 g3 ⊢
  unfold igranules.f
  rw [if_neg (by omega), w64 (sz + gr) (by omega) (by omega), w64 (sz + gr - 1) (by omega) (by omega), Int.tdiv_eq_ediv_of_nonneg (by omega), w64 _ (by omega) (by omega)]
theorem rgran_eq {sz gr : Int} (h : szOK sz gr = true) : r17Granules.f sz gr = some (gran sz gr) := (show r17Granules.f sz gr = igranules.f sz gr from rfl).trans (gran_eq h)
def actG (ms : Int) (mw : List Int) (act : List Int) (g : Nat) : Bool := decide (0 ≤ act.getD g 0 ∧ act.getD g 0 ≤ 4096) && (decide (act.getD g 0 ≤ 0) || getS ms mw g)
def okI (sz gr : Int) (act : List Int) (ms : Int) (mw : List Int) : Bool := szOK sz gr && (decide ((act.length : Int) = gran sz gr) && (good ms mw && (decide (ms = act.length) && (List.range act.length).all (actG ms mw act))))
theorem all_cons' (p : Nat → Bool) (i n : Nat) : (List.range' i (n + 1)).all p = (p i && (List.range' (i + 1) n).all p) := by rw [List.range'_succ, List.all_cons]
theorem icheck_loop (sz gr : Int) {act : List Int} {ms : Int} {mw : List Int} (hU : U mw) (hl : act.length ≤ 4096) : ∀ (n k i : Nat), i + n = act.length → n + 5000 < k →
    iCheck.l0 k act act.length i sz gr act ms mw = some (if (List.range' i n).all (actG ms mw act) then 0 else 3) := by
  intro n
  induction n with
  | zero =>
    intro k i hi hk
    obtain ⟨k, rfl⟩ : ∃ m, k = m + 1 := ⟨k - 1, by omega⟩
    rw [iCheck.l0, if_neg (by omega)]; rfl
  | succ n ih =>
    intro k i hi hk
    obtain ⟨k, rfl⟩ : ∃ m, k = m + 1 := ⟨k - 1, by omega⟩
    rw [iCheck.l0, if_pos (by omega), if_pos (by omega), if_pos (by omega), wsucc i (by omega), ih k (i + 1) (by omega) (by omega), all_cons', rd_nat, bget_eq hU _ (by omega), Option.bind_some]
    unfold actG
    by_cases h1 : act.getD i 0 < 0
    · rw [if_pos h1, decide_eq_false (by omega)]; rfl
    · rw [if_neg h1]
      by_cases h2 : act.getD i 0 > 4096
      · rw [if_pos h2, decide_eq_false (by omega)]; rfl
      · rw [if_neg h2]
        by_cases h3 : act.getD i 0 > 0
        · rw [if_pos h3, decide_eq_true (p := 0 ≤ act.getD i 0 ∧ act.getD i 0 ≤ 4096) (by omega), decide_eq_false (p := act.getD i 0 ≤ 0) (by omega), Bool.true_and, Bool.false_or]
          cases getS ms mw i
          · rfl
          · rw [if_pos rfl, Bool.true_and]
        · rw [if_neg h3, decide_eq_true (p := 0 ≤ act.getD i 0 ∧ act.getD i 0 ≤ 4096) (by omega), decide_eq_true (p := act.getD i 0 ≤ 0) (by omega)]
          rw [Bool.true_or, Bool.true_and, Bool.true_and]
theorem rcheckI_loop (sz gr : Int) {act : List Int} {ms : Int} {mw : List Int} (hU : U mw) (hl : act.length ≤ 4096) : ∀ (n k i : Nat), i + n = act.length → n + 5000 < k →
    r17Check.l0 k act.length i sz gr act ms mw = some (if (List.range' i n).all (actG ms mw act) then 0 else 3) := by
  intro n
  induction n with
  | zero =>
    intro k i hi hk
    obtain ⟨k, rfl⟩ : ∃ m, k = m + 1 := ⟨k - 1, by omega⟩
    rw [r17Check.l0, if_neg (by omega)]; rfl
  | succ n ih =>
    intro k i hi hk
    obtain ⟨k, rfl⟩ : ∃ m, k = m + 1 := ⟨k - 1, by omega⟩
    rw [r17Check.l0, if_pos (by omega), if_pos (by omega), if_pos (by omega), wsucc i (by omega), ih k (i + 1) (by omega) (by omega), all_cons', rd_nat, rget_eq hU _ (by omega), Option.bind_some]
    unfold actG
    by_cases h1 : act.getD i 0 < 0
    · rw [if_pos h1, decide_eq_false (by omega)]; rfl
    · rw [if_neg h1]
      by_cases h2 : act.getD i 0 > 4096
      · rw [if_pos h2, decide_eq_false (by omega)]; rfl
      · rw [if_neg h2]
        by_cases h3 : act.getD i 0 > 0
        · rw [if_pos h3, decide_eq_true (p := 0 ≤ act.getD i 0 ∧ act.getD i 0 ≤ 4096) (by omega), decide_eq_false (p := act.getD i 0 ≤ 0) (by omega), Bool.true_and, Bool.false_or]
          cases getS ms mw i
          · rfl
          · rw [if_pos rfl, Bool.true_and]
        · rw [if_neg h3, decide_eq_true (p := 0 ≤ act.getD i 0 ∧ act.getD i 0 ≤ 4096) (by omega), decide_eq_true (p := act.getD i 0 ≤ 0) (by omega)]
          rw [Bool.true_or, Bool.true_and, Bool.true_and]
theorem icheck_j (k : Nat) (sz gr : Int) (act : List Int) (ms : Int) (mw : List Int) : iCheck.j0 (k + 1) true sz gr act ms mw = some 3 := by rw [iCheck.j0, if_pos rfl]
theorem rcheckI_j (k : Nat) (x sz gr : Int) (act : List Int) (ms : Int) (mw : List Int) : r17Check.j0 (k + 1) x true sz gr act ms mw = some 3 := by rw [r17Check.j0, if_pos rfl]
theorem icheck_eq (sz gr : Int) (act : List Int) (ms : Int) {mw : List Int} (hU : U mw) {k : Nat} (hk : 10000 ≤ k) : iCheck.f k sz gr act ms mw = some (if okI sz gr act ms mw then 0 else 3) := by
  obtain ⟨k, rfl⟩ : ∃ m, k = m + 1 := ⟨k - 1, by omega⟩
  unfold iCheck.f okI
  rw [isizes_eq, Option.bind_some]
  by_cases h : szOK sz gr = true
  · obtain ⟨g1, g2, g3⟩ := gran_bd h
    rw [if_pos h, gran_eq h, Option.bind_some, h, Bool.true_and]
    by_cases h1 : (act.length : Int) = gran sz gr
    · rw [if_pos h1, bcheck_eq, Option.bind_some, decide_eq_true h1, Bool.true_and]
      by_cases h2 : good ms mw = true
      · rw [if_pos h2, if_pos rfl, h2, Bool.true_and]
        by_cases h3 : ms = act.length
        · rw [show (ms != (act.length : Int)) = false from by simpa using h3, iCheck.j0, if_neg (by decide), decide_eq_true h3, Bool.true_and, List.range_eq_range']
          exact icheck_loop sz gr hU (by omega) act.length k 0 (by omega) (by omega)
        · rw [show (ms != (act.length : Int)) = true from by simpa using h3, icheck_j, decide_eq_false h3]; rfl
      · rw [if_neg h2, if_neg (by decide), icheck_j, Bool.not_eq_true _ |>.mp h2]; rfl
    · rw [if_neg h1, icheck_j, decide_eq_false h1]; rfl
  · rw [if_neg h, icheck_j, Bool.not_eq_true _ |>.mp h]; rfl
theorem rcheckI_eq (sz gr : Int) (act : List Int) (ms : Int) {mw : List Int} (hU : U mw) {k : Nat} (hk : 10000 ≤ k) : r17Check.f k sz gr act ms mw = some (if okI sz gr act ms mw then 0 else 3) := by
  obtain ⟨k, rfl⟩ : ∃ m, k = m + 1 := ⟨k - 1, by omega⟩
  unfold r17Check.f okI
  rw [rsizes_eq, Option.bind_some]
  by_cases h : szOK sz gr = true
  · obtain ⟨g1, g2, g3⟩ := gran_bd h
    rw [if_pos h, rgran_eq h, Option.bind_some, h, Bool.true_and]
    by_cases h1 : (act.length : Int) = gran sz gr
    · rw [if_pos h1, rcheck_eq hU (by omega), Option.bind_some, decide_eq_true h1, Bool.true_and]
      by_cases h2 : good ms mw = true
      · rw [if_pos h2, if_pos rfl, h2, Bool.true_and]
        by_cases h3 : ms = act.length
        · rw [show (ms != gran sz gr) = false from by rw [← h1]; simpa using h3, r17Check.j0, if_neg (by decide), decide_eq_true h3, Bool.true_and, List.range_eq_range', ← h1]
          exact rcheckI_loop sz gr hU (by omega) act.length k 0 (by omega) (by omega)
        · rw [show (ms != gran sz gr) = true from by rw [← h1]; simpa using h3, rcheckI_j, decide_eq_false h3]; rfl
      · rw [if_neg h2, if_neg (by decide), rcheckI_j, Bool.not_eq_true _ |>.mp h2]; rfl
    · rw [if_neg h1, rcheckI_j, decide_eq_false h1]; rfl
  · rw [if_neg h, Bool.not_eq_true _ |>.mp h]; rfl
end Go.Proofs.YtnjbdcnefienhaaDoor.P

namespace Go.Proofs.YtnjbdcnefienhaaDoor.P
open Go.RowKit Go.Proofs.YtnjbdcnefienhaaDoorW.PrintWords Go.Proofs.YtnjbdcnefienhaaDoorW.PrintLast Go.Proofs.YtnjbdcnefienhaaDoorW.PrintMore
theorem rputInt_l0 : ∀ (j n f : Nat) (out : List Int), n < 128 ^ (j + 1) → n ≤ 9007199254740991 → j + 1 ≤ f → out.length + j < 100000000 → r03PutInt.l0 f n out = some (out ++ enc7 j n)
  | 0, n, f, out, hn, _, hf, ho => by
    obtain ⟨f, rfl⟩ : ∃ m, f = m + 1 := ⟨f - 1, by omega⟩
    rw [r03PutInt.l0, if_neg (by omega), if_pos (by omega), enc7, Int.emod_eq_of_lt (by omega) (by omega)]
  | j + 1, n, f, out, hn, hm, hf, ho => by
    obtain ⟨f, rfl⟩ : ∃ m, f = m + 1 := ⟨f - 1, by omega⟩
    rw [r03PutInt.l0, enc7]
    by_cases h : n < 128
    · rw [if_pos h, if_neg (by omega), if_pos (by omega), Int.emod_eq_of_lt (by omega) (by omega)]
    · have e1 : (wrap64 ((Int.tmod (n : Int) 128) + 128)) % 256 = ((n % 128 + 128 : Nat) : Int) := by rw [Int.tmod_eq_emod_of_nonneg (by omega), w64 _ (by omega) (by omega)]; omega
      have e2 : wrap64 (Int.tdiv (n : Int) 128) = ((n / 128 : Nat) : Int) := by rw [Int.tdiv_eq_ediv_of_nonneg (by omega), w64 _ (by omega) (by omega)]; omega
      have hp : n / 128 < 128 ^ (j + 1) := by
        rw [Nat.div_lt_iff_lt_mul (by decide)]
        rw [Nat.pow_succ] at hn
        exact hn
      rw [if_neg h, if_pos (by omega), if_pos (by omega), e1, e2, rputInt_l0 j (n / 128) f _ hp (by omega) (by omega) (by rw [List.length_append, List.length_singleton]; omega), List.append_assoc]
      rfl
theorem rputInt_eq (f : Nat) (hf : 20 ≤ f) (out : List Int) (n : Int) (ho : out.length < 90000000) : r03PutInt.f f out n = some (out ++ encI n) := by
  have key : ∀ m : Nat, m ≤ 9007199254740991 → ∀ f, 12 ≤ f → r03PutInt.l0 f m out = some (out ++ enc7 8 m) := fun m hm f hf => rputInt_l0 8 m f out (Nat.lt_of_le_of_lt hm (by decide)) hm (by omega) (by omega)
  obtain ⟨f, rfl⟩ : ∃ m, f = m + 2 := ⟨f - 2, by omega⟩
  unfold r03PutInt.f encI
  rw [if_pos (by simp only [List.length_nil]; omega), Option.bind_some, List.nil_append]
  by_cases h0 : n < 0
  · rw [if_pos h0, r03PutInt.j0, if_pos rfl, r03PutInt.j1, if_pos (.inl h0)]
    exact key 0 (by omega) f (by omega)
  · rw [if_neg h0]
    by_cases h1 : n > 9007199254740991
    · rw [decide_eq_true h1, r03PutInt.j0, if_pos rfl, r03PutInt.j1, if_pos (.inr h1)]
      exact key 0 (by omega) f (by omega)
    · rw [decide_eq_false h1, r03PutInt.j0, if_neg (by decide), r03PutInt.j1, if_neg (by omega)]
      have := key n.toNat (by omega) f (by omega)
      rwa [Int.toNat_of_nonneg (by omega)] at this
theorem rputExts_loop (l : List S49) (hl : l.length ≤ 1000000) : ∀ (n k i : Nat) (out : List Int), i + n = l.length → n + 20 < k → out.length + 20 * n < 80000000 →
    r03PutExtents.l0 k l out i = some (out ++ (l.drop i).flatMap encE) := by
  intro n
  induction n with
  | zero =>
    intro k i out hi hk ho
    obtain ⟨k, rfl⟩ : ∃ m, k = m + 1 := ⟨k - 1, by omega⟩
    rw [r03PutExtents.l0, if_neg (by omega), List.drop_eq_nil_of_le (by omega)]
    simp
  | succ n ih =>
    intro k i out hi hk ho
    obtain ⟨k, rfl⟩ : ∃ m, k = m + 1 := ⟨k - 1, by omega⟩
    have h1 := encI_length (rd_T49 l (i : Int)).f0
    have h2 := encI_length (rd_T49 l (i : Int)).f1
    rw [r03PutExtents.l0, if_pos (by omega), if_pos (by omega), rputInt_eq k (by omega) out _ (by omega), Option.bind_some, rputInt_eq k (by omega) _ _ (by rw [List.length_append]; omega), Option.bind_some, wsucc i (by omega),
      ih k (i + 1) _ (by omega) (by omega) (by rw [List.length_append, List.length_append]; omega), drop_cons l (i := i) (by omega), List.flatMap_cons]
    unfold encE
    simp only [List.append_assoc]
theorem rputExts_eq (d : List Int) (l : List S49) {k : Nat} (hd : d.length ≤ 1000000) (hl : l.length ≤ 100000) (hk : l.length + 30 ≤ k) : r03PutExtents.f k d l = some (d ++ encL l) := by
  have h := encI_length (l.length : Int)
  unfold r03PutExtents.f
  rw [rputInt_eq k (by omega) d _ (by omega), Option.bind_some]
  have := rputExts_loop l (by omega) l.length k 0 (d ++ encI l.length) (by omega) (by omega) (by rw [List.length_append]; omega)
  rw [List.drop_zero] at this
  unfold encL
  rw [← List.append_assoc]
  exact this
def encS (sz gr : Int) (act : List Int) (ms : Int) (mw : List Int) : List Int := if okI sz gr act ms mw then encI sz ++ encI gr ++ encL (extS ms mw) else []
theorem PutInt_eq (f : Nat) (hf : 20 ≤ f) (out : List Int) (n : Int) (ho : out.length ≤ 1000000) : wire_PutInt.f f out n = some (out ++ encI n) := by
  unfold wire_PutInt.f slices_Clone_byte_byte.f
  rw [if_pos ho, Option.bind_some, putInt_eq f hf out n (by omega)]
  rfl
theorem iencode_eq (sz gr : Int) (act : List Int) (ms : Int) {mw : List Int} (hU : U mw) {k : Nat} (hk : 12000 ≤ k) : iEncode.f k sz gr act ms mw = some (encS sz gr act ms mw) := by
  unfold iEncode.f encS
  rw [icheck_eq sz gr act ms hU (by omega), Option.bind_some]
  by_cases h : okI sz gr act ms mw = true
  · have h1 := encI_length sz
    have h2 := encI_length gr
    have h3 : (extS ms mw).length ≤ 4096 := extS_len hU
    rw [if_pos h, if_pos rfl, if_pos h, PutInt_eq k (by omega) [] _ (by simp), Option.bind_some, List.nil_append, PutInt_eq k (by omega) _ _ (by omega), Option.bind_some, bext_eq, Option.bind_some]
    unfold wire_PutExtents.f
    rw [if_pos ⟨by rw [List.length_append]; omega, by omega⟩]
    rfl
  · rw [if_neg h, if_neg (by decide), if_neg h]
theorem rencode_eq (sz gr : Int) (act : List Int) (ms : Int) {mw : List Int} (hU : U mw) {k : Nat} (hk : 12000 ≤ k) : r17Encode.f k sz gr act ms mw = some (encS sz gr act ms mw) := by
  unfold r17Encode.f encS
  rw [rcheckI_eq sz gr act ms hU (by omega), Option.bind_some]
  by_cases h : okI sz gr act ms mw = true
  · have h1 := encI_length sz
    have h2 := encI_length gr
    have h3 : (extS ms mw).length ≤ 4096 := extS_len hU
    rw [if_pos h, if_pos rfl, if_pos h, rputInt_eq k (by omega) [] _ (by simp), Option.bind_some, List.nil_append, rputInt_eq k (by omega) _ _ (by omega), Option.bind_some, rext_eq hU (by omega), Option.bind_some, rputExts_eq _ _ (by rw [List.length_append]; omega) (by omega) (by omega)]
    rfl
  · rw [if_neg h, if_neg (by decide), if_neg h]
theorem encodes_true (sz gr : Int) (act : List Int) (ms : Int) {mw : List Int} (hU : U mw) {k : Nat} (hk : 12000 ≤ k) : l17IntentEncodes.f k sz gr act ms mw = some true := by
  unfold l17IntentEncodes.f
  obtain ⟨b, hb⟩ : ∃ b, l17few.f sz gr act ms mw = some b := by unfold l17few.f; split <;> exact ⟨_, rfl⟩
  rw [hb, Option.bind_some, awake_eq, Option.bind_some]
  cases b
  · rfl
  · rw [if_pos rfl, if_pos rfl, iencode_eq sz gr act ms hU hk, Option.bind_some, rencode_eq sz gr act ms hU hk, Option.bind_some]
    unfold bytes_Equal.f
    simp
end Go.Proofs.YtnjbdcnefienhaaDoor.P

namespace Go.Proofs.YtnjbdcnefienhaaDoor.P
open Go.ChangeShapes Go.WideShapes Go.ChangeAt Go.RowKit Go.Deep Go.Joins Go.Proofs.YtnjbdcnefienhaaDoorW.PrintWords Go.Proofs.YtnjbdcnefienhaaDoorW.PrintLast Go.Proofs.YtnjbdcnefienhaaDoorW.PrintMore
set_option maxRecDepth 100000 in
theorem array5 {α : Type} {cs : Array α} (h : cs.size = 5) : ∃ c0 c1 c2 c3 c4, cs = #[c0, c1, c2, c3, c4] := by
  obtain ⟨l⟩ := cs
  match l, h with
  | [c0, c1, c2, c3, c4], _ => exact ⟨c0, c1, c2, c3, c4, rfl⟩
set_option maxRecDepth 100000 in
theorem cellsI0 : Tryd.prog.cellsOf 3 = 1 := by kernel_rfl
set_option maxRecDepth 100000 in
theorem cellsI1 : Tryd.prog.cellsOf 23 = 1 := by kernel_rfl
set_option maxRecDepth 100000 in
theorem cellsI2 : Tryd.prog.cellsOf 26 = 2 := by kernel_rfl
set_option maxRecDepth 100000 in
theorem cellsI3 : Tryd.prog.cellsOf 24 = 1 := by kernel_rfl
set_option maxRecDepth 100000 in
theorem cellsI4 : Tryd.prog.cellsOf 28 = 5 := by kernel_rfl
section
variable {H : Type} {enc : TypeId × Value → H} {W : World}
set_option maxRecDepth 100000 in
theorem ints64_of {fuel : Nat} {v : Value} {x : DataW H × List MemPlace} {A : Option Addr} {len cap : Nat} (hv : v = .slice A len cap) (h : DataW.trod enc Tryd.prog W 0 (fun _ => true) true fuel 23 [v] = some x) :
    ∃ l : List Int, len = l.length ∧ l.length ≤ cap ∧ Kd.C (Kd.int .i64) W A l.length l ∧ ∀ n ∈ l, (Lit.int .i64 n).wf = true := by
  subst hv
  have key : (A = none ∧ len = 0 ∧ cap = 0 ∧ ([] : List Int) = []) ∨ ∃ (zs : List Int) (x : Addr), A = some x ∧ len ≤ cap ∧ cap ≤ maxLen ∧ zs.length = cap ∧ (∀ i, i < zs.length → W.cell? (x.add i) = some (.int .i64 (zs.getD i 0))) ∧ ∀ n ∈ zs, (Lit.int .i64 n).wf = true := by
    rcases open_ints Tryd.underlying23 Tryd.underlying3 (by kernel_rfl) h with ⟨hcs, _⟩ | ⟨x, l, c, zs, hcs, _, hl, hm, hz, _, hcell, hwz⟩
    · simp at hcs
      obtain ⟨rfl, rfl, rfl⟩ := hcs
      exact .inl ⟨rfl, rfl, rfl, rfl⟩
    · simp at hcs
      obtain ⟨rfl, rfl, rfl⟩ := hcs
      exact .inr ⟨zs, _, rfl, hl, hm, by simpa using hz, hcell, hwz⟩
  have key2 : ∃ zs : List Int, (A = none ∧ len = 0 ∧ cap = 0 ∧ zs = []) ∨ ∃ x, A = some x ∧ len ≤ cap ∧ cap ≤ maxLen ∧ zs.length = cap ∧ (∀ i, i < zs.length → W.cell? (x.add i) = some (.int .i64 (zs.getD i 0))) ∧ ∀ n ∈ zs, (Lit.int .i64 n).wf = true := by
    rcases key with h1 | ⟨zs, h1⟩
    · exact ⟨[], .inl h1⟩
    · exact ⟨zs, .inr h1⟩
  obtain ⟨zs, hz⟩ := key2
  obtain ⟨l, e, h1, _, h3, h4⟩ := ReadsInt.ofRowC hz
  exact ⟨l, e, h4, Kd.C_of_reads (d := (0 : Int)) (h1 := fun _ => rfl) h1, h3⟩
set_option maxRecDepth 100000 in
theorem slice_cell {t e : TypeId} {fuel : Nat} {c : Value} {y : DataW H × List MemPlace} (ht : Tryd.prog.underlying t = some (.slice e)) (hf : DataW.trod enc Tryd.prog W 0 (fun _ => true) true fuel t [c] = some y) : ∃ a l k, c = .slice a l k := by
  obtain ⟨a, l, k, h⟩ := slice_form ht hf
  exact ⟨a, l, k, by simpa using h⟩
set_option maxRecDepth 100000 in
theorem open_intent {v : Value} {d : DataW H} {p : List MemPlace} {b : Nat} (hv : Value.okWide Tryd.prog W .any b 28 v) (h : DataW.Trod enc Tryd.prog W 0 (fun _ => true) true 28 v d p) :
    ∃ (s g : Int) (A : Option Addr) (c : Nat) (l : List Int) (m : Int) (B : Option Addr) (e : Nat) (q : List Int), v = .agg #[.int .i64 s, .int .i64 g, .slice A l.length c, .int .i64 m, .slice B q.length e] ∧
      l.length ≤ c ∧ Kd.C (Kd.int .i64) W A l.length l ∧ q.length ≤ e ∧ Kd.C (Kd.int .u64) W B q.length q ∧ (∀ n ∈ q, 0 ≤ n ∧ n < 18446744073709551616) ∧
      (Lit.int .i64 s).wf = true ∧ (Lit.int .i64 g).wf = true ∧ (Lit.int .i64 m).wf = true ∧ ∀ n ∈ l, (Lit.int .i64 n).wf = true := by
  obtain ⟨cs, rfl, hsz⟩ := okWide_struct Tryd.underlying28 hv
  obtain ⟨c0, c1, c2, c3, c4, rfl⟩ := array5 (hsz.trans cellsI4)
  obtain ⟨fuel, hf⟩ := h
  obtain ⟨y0, y1, y2, y3, n, hx, -, h0, h1, h2, h3⟩ := trod_struct4 Tryd.underlying28 hf
  simp only [Value.cells, cellsI0, cellsI1, cellsI2, List.drop_zero, List.drop_succ_cons, List.take_succ_cons, List.take_zero] at h0 h1 h2 h3
  obtain ⟨s, hs, -, ws⟩ := DataW.trod_int Tryd.underlying3 h0
  obtain ⟨g, hg, -, wg⟩ := DataW.trod_int Tryd.underlying3 h1
  obtain rfl : c0 = .int .i64 s := by simpa using hs
  obtain rfl : c1 = .int .i64 g := by simpa using hg
  obtain ⟨A, len, cap, rfl⟩ := slice_cell Tryd.underlying23 h2
  obtain ⟨l, rfl, hl, hC, hw⟩ := ints64_of rfl h2
  obtain ⟨z0, z1, n', hx', -, k0, k1⟩ := trod_struct2 Tryd.underlying26 h3
  simp only [cellsI0, cellsI3, List.drop_zero, List.drop_succ_cons, List.take_succ_cons, List.take_zero] at k0 k1
  obtain ⟨m, hm, -, wm⟩ := DataW.trod_int Tryd.underlying3 k0
  obtain rfl : c3 = .int .i64 m := by simpa using hm
  obtain ⟨B, len2, cap2, rfl⟩ := slice_cell Tryd.underlying24 k1
  obtain ⟨q, rfl, hl2, hC2, hw2⟩ := ints_of rfl k1
  exact ⟨s, g, A, cap, l, m, B, cap2, q, rfl, hl, hC, hl2, hC2, fun n hn => wf_u64_out (hw2 n hn), ws, wg, wm, hw⟩
end
end Go.Proofs.YtnjbdcnefienhaaDoor.P

namespace Go.Proofs.YtnjbdcnefienhaaDoor.P
open Go.ChangeShapes Go.WideShapes Go.ChangeAt Go.RowKit
theorem gTab : Tryd.prog.globalNamed "math/bits.deBruijn64tab" = some 0 := by kernel_rfl
theorem gTabType : (Tryd.prog.globals[0]?).map (·.type) = some 136 := by kernel_rfl
theorem cells72 : Tryd.prog.cellsOf 136 = 64 := by kernel_rfl
theorem cells5 : Tryd.prog.cellsOf 5 = 1 := by kernel_rfl
theorem table {W : World} (h : laidMetH Tryd.prog [("math/bits.deBruijn64tab", Rows.laid_math_bits_deBruijn64tab)] W) : Lib.TabIs Tryd.prog W "math/bits.deBruijn64tab" .u8 (Lib.deBruijn64tab.map Int.ofNat) :=
  Lib.tabIs_of_head (rest := []) gTab gTabType Tryd.underlying136 Tryd.underlying5 cells5 cells72 h
theorem tabOK {W : World} (h : laidMetH Tryd.prog [("math/bits.deBruijn64tab", Rows.laid_math_bits_deBruijn64tab)] W) : TabOK W := by
  have hc : ∀ j, j < Lib.deBruijn64tab.length → W.cell? ⟨0, j, none⟩ = some (.int .u8 (Lib.deBruijn64tab.getD j 0)) := fun j hj => by
    have := (table h).cell gTab j (by rw [List.length_map]; exact hj)
    rw [this, List.getD_eq_getElem?_getD, List.getElem?_map, List.getElem?_eq_getElem hj, List.getD_eq_getElem?_getD, List.getElem?_eq_getElem hj]
    rfl
  exact ⟨World.block_lt_of_cell? W _ (hc 0 (by decide)), hc⟩
noncomputable def laidWorld (os : Os) : World :=
  { World.holding Tryd.prog os ⟨#[], #[], []⟩ with heap := (World.holding Tryd.prog os ⟨#[], #[], []⟩).heap.modify 0 fun
      | .cells _ t frozen => .cells (Lib.deBruijn64tab.map fun n => Value.int .u8 (Int.ofNat n)).toArray t frozen
      | o => o }
end Go.Proofs.YtnjbdcnefienhaaDoor.P
