/-
  Parts of the proof of the law BitmapOrders (part 4): what the functions it reaches come to, and the plain law. Conditions: those that each theorem names.
-/
import Derived.Test.YthpldfjjdmjcoaaDoorCBitmapOrders3
namespace Go.Proofs.YthpldfjjdmjcoaaDoor.P
open Go.RowKit Go.Proofs.YthpldfjjdmjcoaaDoorW.PrintWords Go.Proofs.YthpldfjjdmjcoaaDoorW.PrintLast Go.Proofs.YthpldfjjdmjcoaaDoorW.PrintMore
theorem from_reverse {size : Int} (l : List S26) (h0 : 0 ≤ size) (h1 : size ≤ 4096) : fromS size l.reverse = fromS size l := by
  unfold fromS
  rw [if_pos ⟨h0, h1⟩, if_pos ⟨h0, h1⟩]
  by_cases hf : ∀ e ∈ l, fit e.f0 e.f1 size = true
  · obtain ⟨a, e1, e2, e3, e4, e5⟩ := fromE_fits l (U_replicate _) (good_new h0 h1) hf
    obtain ⟨b, f1, f2, f3, f4, f5⟩ := fromE_fits l.reverse (U_replicate _) (good_new h0 h1) (fun e he => hf e (List.mem_reverse.1 he))
    rw [e1, f1]
    have : b = a := by
      refine tb_ext f3 e3 (by omega) fun j hj => ?_
      rw [f5 j (by omega), e5 j (by omega), List.any_reverse]
    rw [this]
  · rw [fromE_not _ _ hf, fromE_not _ _ (fun h => hf fun e he => h e (List.mem_reverse.2 he))]
theorem getS_nat {size : Nat} {ws : List Int} (g : Good size ws) {i : Nat} (hi : i < size) : getS size ws i = tb ws i := by
  unfold getS
  rw [(good_iff _ _).2 g, show decide ((0 : Int) ≤ (i : Int) ∧ (i : Int) < (size : Int)) = true by rw [decide_eq_true_iff]; omega]
  simp
theorem orders_l1 (l : List S26) (hl : 0 < l.length) {size : Nat} {b c : List Int} (hb : U b) (gb : Good size b) (hc : U c) (gc : Good size c) (hsz : size ≤ 4096) {s n : Nat} (hs : (rd_T26 l 0).f0 = s) (hn : (rd_T26 l 0).f1 = n) (hsn : s + n ≤ size)
    (hin : ∀ j, j < size → inR s n j = true → tb b j = true) (hcb : ∀ j, j < size → tb c j = (tb b j && !inR s n j)) : ∀ (m k i : Nat), i + m = size → 2 * m + 7000 < k →
    l02BitmapOrders.l1 k l size i size b size c = some true := by
  intro m
  induction m with
  | zero =>
    intro k i hi hk
    obtain ⟨k, rfl⟩ : ∃ q, k = q + 1 := ⟨k - 1, by omega⟩
    rw [l02BitmapOrders.l1, if_neg (by omega), awake_eq (by omega)]; rfl
  | succ m ih =>
    intro k i hi hk
    obtain ⟨k, rfl⟩ : ∃ q, k = q + 2 := ⟨k - 2, by omega⟩
    have ih' := ih k (i + 1) (by omega) (by omega)
    have h3 : l02BitmapOrders.j3 (k + 1) l size i (inR s n i) size b size c = some true := by
      rw [l02BitmapOrders.j3, bget_eq hc _ (by omega), Option.bind_some, bget_eq hb _ (by omega), Option.bind_some, getS_nat gc (by omega), getS_nat gb (by omega), wsucc i (by omega), ih', hcb i (by omega)]
      cases hr : inR s n i
      · cases ht : tb b i <;> rfl
      · rw [hin i (by omega) hr]; rfl
    have hw : wrap64 ((s : Int) + n) = ((s + n : Nat) : Int) := w64 _ (by omega) (by omega)
    rw [l02BitmapOrders.l1, if_pos (by omega), if_pos (by omega), hs, hn, hw]
    by_cases h : (i : Int) ≥ s
    · rw [if_pos h]
      have e : decide ((i : Int) < ((s + n : Nat) : Int)) = inR s n i := by unfold inR; rw [decide_eq_decide]; omega
      rw [e, h3]
    · rw [if_neg h]
      have e : inR s n i = false := by unfold inR; rw [decide_eq_false_iff_not]; omega
      rw [e] at h3
      exact h3
theorem holds_hd {l : List S26} (hl : 0 < l.length) : rd_T26 l 0 ∈ l := by
  cases l with
  | nil => simp at hl
  | cons a l => exact List.mem_cons_self
theorem orders_end (l : List S26) (hl : l.length ≤ 12) {size : Nat} (hsz : size ≤ 4096) (x7 : Int) (hx7 : ¬ x7 ≥ 0) {k : Nat} (hk : 20000 ≤ k) :
    l02BitmapOrders.l0 k l size l.reverse x7 = some true := by
  obtain ⟨k, rfl⟩ : ∃ q, k = q + 2 := ⟨k - 2, by omega⟩
  have hfl := fromS_length size l
  have hj : ∀ P : Int × List Int × Int, P.2.1.length ≤ 64 → l02BitmapOrders.j1 (k + 1) l size P.2.2 P.2.2 true P.1 P.2.1 P.1 P.2.1 = some true := fun P hP => by
    rw [l02BitmapOrders.j1, if_pos rfl, awake_eq (by omega), Option.bind_some, if_pos rfl, if_pos rfl, same_eq _ _ (by omega) (by omega)]; rfl
  rw [l02BitmapOrders.l0, if_neg hx7, bfrom_eq _ _ (by omega) (by omega), Option.bind_some, bfrom_eq _ _ (by rw [List.length_reverse]; omega) (by omega), Option.bind_some, from_reverse l (by omega) (by omega), if_pos rfl, same_eq _ _ (by omega) (by omega), Option.bind_some, if_pos rfl]
  by_cases he : (fromS size l).2.2 = 0
  · rw [if_pos he]
    by_cases h0 : l.length = 0
    · rw [show ((l.length : Int) == 0) = true by simpa using h0, hj _ hfl]
    · rw [show ((l.length : Int) == 0) = false by simpa using h0]
      unfold fromS at he ⊢
      rw [if_pos (show (0 : Int) ≤ (size : Int) ∧ (size : Int) ≤ 4096 by omega)] at he ⊢
      by_cases hf : ∀ e ∈ l, fit e.f0 e.f1 size = true
      · obtain ⟨b, e1, e2, e3, e4, e5⟩ := fromE_fits l (U_replicate _) (good_new (a := size) (by omega) (by omega)) hf
        rw [e1]
        have hm := holds_hd (l := l) (by omega)
        have hfe := hf _ hm
        have hlen := e4.len
        obtain ⟨s, n, es, en, hle, hw⟩ := fit_masked e3 e4 hfe
        obtain ⟨gc, uc⟩ := good_step (.inr rfl) e3 e4 hfe
        have ec : bClear.f size b (rd_T26 l 0).f0 (rd_T26 l 0).f1 = some (bChange .andNot size b (rd_T26 l 0).f0 (rd_T26 l 0).f1) := rfl
        simp only
        rw [l02BitmapOrders.j1, if_neg (by decide), if_pos (by omega), ec, Option.bind_some, set_good e4, if_pos hfe, if_pos rfl]
        rw [List.length_replicate] at e2 e5
        refine orders_l1 l (by omega) e3 e4 uc gc hsz es en (by omega) ?_ ?_ size k 0 (by omega) (by omega)
        · intro j hj hr
          rw [e5 j (by omega), tb_replicate, Bool.false_or, List.any_eq_true]
          refine ⟨_, hm, ?_⟩
          unfold holdsE
          rw [es, en, Int.toNat_natCast, Int.toNat_natCast]
          exact hr
        · intro j hj
          rw [hw, es, tb_masked (.inr (.inr rfl)) e3 e4.len_le (by omega) (by omega) (by omega), show s + n - s = n by omega]
          rfl
      · rw [fromE_not _ _ hf] at he
        cases he
  · rw [if_neg he, hj _ hfl]
theorem orders_loop (l : List S26) (hl : l.length ≤ 12) {size : Nat} (hsz : size ≤ 4096) : ∀ (i k : Nat), i ≤ l.length → 20000 + i ≤ k →
    l02BitmapOrders.l0 k l size (l.drop i).reverse ((i : Int) - 1) = some true
  | 0, k, _, hk => by rw [List.drop_zero]; exact orders_end l hl hsz _ (by omega) (by omega)
  | i + 1, k, hi, hk => by
    obtain ⟨k, rfl⟩ : ∃ q, k = q + 1 := ⟨k - 1, by omega⟩
    have ih := orders_loop l hl hsz i k (by omega) (by omega)
    have hd := drop_cons l (i := i) (by omega)
    have e : ((i + 1 : Nat) : Int) - 1 = i := by omega
    rw [l02BitmapOrders.l0, e, if_pos (by omega), if_pos (by omega), if_pos (by omega), if_pos (by rw [List.length_reverse, List.length_drop]; omega), w64 _ (by omega) (by omega)]
    rw [hd, List.reverse_cons] at ih
    exact ih
theorem orders_true (a : Int) (ha : 0 ≤ a) (l : List S26) {k : Nat} (hk : 30000 ≤ k) : l02BitmapOrders.f k a l = some true := by
  unfold l02BitmapOrders.f
  by_cases hl : (l.length : Int) > 12
  · rw [if_pos hl, awake_eq (by omega)]; rfl
  · rw [if_neg hl]
    obtain ⟨size, hs⟩ : ∃ size : Nat, wrap64 (Int.tmod a 1200) = size ∧ size ≤ 4096 := by
      rw [Int.tmod_eq_emod_of_nonneg ha, w64 _ (by omega) (by omega)]
      exact ⟨(a % 1200).toNat, by omega, by omega⟩
    rw [hs.1, w64 _ (by omega) (by omega)]
    have := orders_loop l (by omega) hs.2 l.length k (Nat.le_refl _) (by omega)
    rw [List.drop_length, List.reverse_nil] at this
    exact this
end Go.Proofs.YthpldfjjdmjcoaaDoor.P

namespace Go.Proofs.YthpldfjjdmjcoaaDoor.P
open Go.ChangeShapes Go.WideShapes Go.ChangeAt Go.RowKit
theorem gTab : Tryd.prog.globalNamed "math/bits.deBruijn64tab" = some 0 := by kernel_rfl
theorem gTabType : (Tryd.prog.globals[0]?).map (·.type) = some 72 := by kernel_rfl
theorem cells72 : Tryd.prog.cellsOf 72 = 64 := by kernel_rfl
theorem cells5 : Tryd.prog.cellsOf 5 = 1 := by kernel_rfl
theorem table {W : World} (h : laidMetH Tryd.prog [("math/bits.deBruijn64tab", Rows.laid_math_bits_deBruijn64tab)] W) : Lib.TabIs Tryd.prog W "math/bits.deBruijn64tab" .u8 (Lib.deBruijn64tab.map Int.ofNat) :=
  Lib.tabIs_of_head (rest := []) gTab gTabType Tryd.underlying72 Tryd.underlying5 cells5 cells72 h
theorem tabOK {W : World} (h : laidMetH Tryd.prog [("math/bits.deBruijn64tab", Rows.laid_math_bits_deBruijn64tab)] W) : TabOK W := by
  have hc : ∀ j, j < Lib.deBruijn64tab.length → W.cell? ⟨0, j, none⟩ = some (.int .u8 (Lib.deBruijn64tab.getD j 0)) := fun j hj => by
    have := (table h).cell gTab j (by rw [List.length_map]; exact hj)
    rw [this, List.getD_eq_getElem?_getD, List.getElem?_map, List.getElem?_eq_getElem hj, List.getD_eq_getElem?_getD, List.getElem?_eq_getElem hj]
    rfl
  exact ⟨World.block_lt_of_cell? W _ (hc 0 (by decide)), hc⟩
/-- A world for the witness: the settled one, the table (block 0) holding what its initialiser lays. -/
noncomputable def laidWorld (os : Os) : World :=
  { World.holding Tryd.prog os ⟨#[], #[], []⟩ with heap := (World.holding Tryd.prog os ⟨#[], #[], []⟩).heap.modify 0 fun
      | .cells _ t frozen => .cells (Lib.deBruijn64tab.map fun n => Value.int .u8 (Int.ofNat n)).toArray t frozen
      | o => o }
end Go.Proofs.YthpldfjjdmjcoaaDoor.P
