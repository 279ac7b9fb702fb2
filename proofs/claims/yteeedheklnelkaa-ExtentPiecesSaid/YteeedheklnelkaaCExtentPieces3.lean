/-
  Parts of the proof of the law ExtentPieces (part 3): what the functions it reaches come to, and the plain law. Conditions: those that each theorem names.
-/
import Derived.Test.YteeedheklnelkaaCExtentPieces2
namespace Go.Proofs.Yteeedheklnelkaa.P
open Go.RowKit Go.Proofs.YteeedheklnelkaaW.PrintWords Go.Proofs.YteeedheklnelkaaW.PrintLast Go.Proofs.YteeedheklnelkaaW.PrintMore
def sumF : List S40 → Int
  | [] => 0
  | e :: l => e.f1 + sumF l
theorem sumF_append (m : List S40) : ∀ l, sumF (l ++ m) = sumF l + sumF m
  | [] => by simp [sumF]
  | e :: l => by rw [List.cons_append, sumF, sumF, sumF_append m l]; omega
def cntN : Nat → (Nat → Bool) → Int
  | 0, _ => 0
  | n + 1, p => cntN n p + if p n then 1 else 0
theorem cntN_bound (p : Nat → Bool) : ∀ n, 0 ≤ cntN n p ∧ cntN n p ≤ n
  | 0 => by simp [cntN]
  | n + 1 => by
    have := cntN_bound p n
    rw [cntN]
    split <;> omega
theorem sumF_canonN (p : Nat → Bool) : ∀ n : Nat, n ≤ 100000 → sumF (canonN n p) = cntN n p
  | 0, _ => by rw [canonN_zero]; rfl
  | n + 1, hn => by
    have ih := sumF_canonN p n (by omega)
    have hbd := (canonN_joined n (by omega) p).bound
    rw [canonN_succ, cntN]
    cases hp : p n
    · rw [if_neg (by decide), if_neg (by decide), ih]; omega
    · rw [if_pos rfl, if_pos rfl, ← ih]
      generalize canonN n p = L at hbd
      rcases L.eq_nil_or_concat with h | ⟨M, e, h⟩
      · subst h; rfl
      · rw [List.concat_eq_append] at h
        subst h
        have hb := hbd e (by simp)
        rw [joinE_snoc]
        split
        · rw [sumF_append, sumF_append, sumF, sumF, w64 _ (by omega) (by omega)]; simp only [sumF]; omega
        · rw [sumF_append (m := [⟨(n : Int), 1⟩])]; rfl
theorem sumF_canon (p : Nat → Bool) : sumF (canon p) = cntN 4096 p := by rw [canon_eq, sumF_canonN p 4096 (by omega)]
def cut (m : Int) : Nat → S40 → List S40
  | 0, e => [e]
  | n + 1, e => if e.f1 > m then ⟨e.f0, m⟩ :: cut m n ⟨e.f0 + m, e.f1 - m⟩ else [e]
def cuts (m : Int) (l : List S40) : List S40 := l.flatMap fun e => cut m e.f1.toNat e
theorem cuts_cons (m : Int) (e : S40) (l : List S40) : cuts m (e :: l) = cut m e.f1.toNat e ++ cuts m l := by unfold cuts; rw [List.flatMap_cons]
/-- How much fuel does not matter. -/
theorem cut_more (m : Int) (hm : 1 ≤ m) : ∀ (n : Nat) (e : S40), e.f1 ≤ n → cut m (n + 1) e = cut m n e
  | 0, e, h => by have : ¬ e.f1 > m := by omega
                  simp [cut, this]
  | n + 1, e, h => by
    rw [cut]
    conv => rhs; rw [cut]
    split
    · rw [cut_more m hm n _ (by simp only; omega)]
    · rfl
theorem cut_fuel (m : Int) (hm : 1 ≤ m) (e : S40) (n : Nat) (h : e.f1 ≤ n) : cut m n e = cut m e.f1.toNat e := by
  obtain ⟨d, rfl⟩ : ∃ d, n = e.f1.toNat + d := ⟨n - e.f1.toNat, by omega⟩
  clear h
  induction d with
  | zero => rfl
  | succ d ih => rw [← Nat.add_assoc, cut_more m hm _ e (by omega), ih]
theorem cut_big (m : Int) (hm : 1 ≤ m) (e : S40) (h : e.f1 > m) : cut m e.f1.toNat e = ⟨e.f0, m⟩ :: cut m (e.f1 - m).toNat ⟨e.f0 + m, e.f1 - m⟩ := by
  obtain ⟨n, hn⟩ : ∃ n, e.f1.toNat = n + 1 := ⟨e.f1.toNat - 1, by omega⟩
  rw [hn, cut, if_pos h, cut_fuel m hm _ n (by simp only; omega)]
theorem cut_small (m : Int) (e : S40) (h : ¬ e.f1 > m) : cut m e.f1.toNat e = [e] := by
  cases e.f1.toNat with
  | zero => rfl
  | succ n => rw [cut, if_neg h]
theorem cut_length (m : Int) (hm : 1 ≤ m) : ∀ (n : Nat) (e : S40), 1 ≤ e.f1 → e.f1 ≤ n → ((cut m n e).length : Int) ≤ e.f1
  | 0, e, h1, h => by omega
  | n + 1, e, h1, h => by
    rw [cut]
    split
    · have := cut_length m hm n ⟨e.f0 + m, e.f1 - m⟩ (by simp only; omega) (by simp only; omega)
      simp only at this
      rw [List.length_cons]; omega
    · simpa using h1
theorem cuts_length (m : Int) (hm : 1 ≤ m) : ∀ l : List S40, (∀ e ∈ l, 1 ≤ e.f1) → ((cuts m l).length : Int) ≤ sumF l
  | [], _ => by simp [cuts, sumF]
  | e :: l, h => by
    have h1 := h e List.mem_cons_self
    have := cut_length m hm e.f1.toNat e h1 (by omega)
    have := cuts_length m hm l fun x hx => h x (List.mem_cons_of_mem _ hx)
    rw [cuts_cons, List.length_append, sumF]; omega
theorem cut_mem (m : Int) (hm : 1 ≤ m) : ∀ (n : Nat) (e : S40), 1 ≤ e.f1 → e.f1 ≤ n → ∀ x ∈ cut m n e, e.f0 ≤ x.f0 ∧ 1 ≤ x.f1 ∧ x.f1 ≤ m ∧ x.f0 + x.f1 ≤ e.f0 + e.f1
  | 0, e, h1, h => by omega
  | n + 1, e, h1, h => by
    rw [cut]
    split
    · intro x hx
      rcases List.mem_cons.1 hx with rfl | hx
      · simp only; omega
      · have := cut_mem m hm n ⟨e.f0 + m, e.f1 - m⟩ (by simp only; omega) (by simp only; omega) x hx
        simp only at this
        omega
    · intro x hx
      rw [List.mem_singleton] at hx
      subst hx
      omega
theorem cut_cov (m : Int) (hm : 1 ≤ m) : ∀ (n : Nat) (e : S40), 1 ≤ e.f1 → e.f1 ≤ n → ∀ t, Cov (cut m n e) t ↔ e.f0 ≤ t ∧ t < e.f0 + e.f1
  | 0, e, h1, h => by omega
  | n + 1, e, h1, h => by
    intro t
    rw [cut]
    split
    · rw [cov_cons, cut_cov m hm n ⟨e.f0 + m, e.f1 - m⟩ (by simp only; omega) (by simp only; omega) t]
      simp only
      omega
    · rw [cov_cons]
      have := cov_nil t
      constructor
      · rintro (h | h)
        · exact h
        · exact absurd h this
      · exact .inl
theorem cov_append (l m : List S40) (t : Int) : Cov (l ++ m) t ↔ Cov l t ∨ Cov m t := by
  induction l with
  | nil => exact ⟨.inr, fun h => h.elim (fun h => absurd h (cov_nil _)) id⟩
  | cons e l ih => rw [List.cons_append, cov_cons, cov_cons, ih]; exact or_assoc.symm
theorem cuts_cov (m : Int) (hm : 1 ≤ m) (t : Int) : ∀ l : List S40, (∀ e ∈ l, 1 ≤ e.f1) → (Cov (cuts m l) t ↔ Cov l t)
  | [], _ => Iff.rfl
  | e :: l, h => by
    have h1 := h e List.mem_cons_self
    rw [cuts_cons, cov_append, cov_cons, cut_cov m hm _ e h1 (by omega), cuts_cov m hm t l fun x hx => h x (List.mem_cons_of_mem _ hx)]
theorem cuts_mem (m : Int) (hm : 1 ≤ m) (l : List S40) (h : ∀ e ∈ l, 0 ≤ e.f0 ∧ 1 ≤ e.f1 ∧ e.f0 + e.f1 ≤ 4096) : ∀ x ∈ cuts m l, 0 ≤ x.f0 ∧ 1 ≤ x.f1 ∧ x.f1 ≤ m ∧ x.f0 + x.f1 ≤ 4096 := by
  intro x hx
  unfold cuts at hx
  rw [List.mem_flatMap] at hx
  obtain ⟨e, he, hx⟩ := hx
  obtain ⟨h1, h2, h3⟩ := h e he
  have := cut_mem m hm _ e h2 (by omega) x hx
  omega
/-- Ascending, touching allowed. -/
def AscW : Int → List S40 → Prop
  | _, [] => True
  | p, e :: l => p ≤ e.f0 ∧ 1 ≤ e.f1 ∧ AscW (e.f0 + e.f1) l
theorem cut_ascW (m : Int) (hm : 1 ≤ m) (r : List S40) : ∀ (n : Nat) (e : S40) (p : Int), 1 ≤ e.f1 → e.f1 ≤ n → p ≤ e.f0 → AscW (e.f0 + e.f1) r → AscW p (cut m n e ++ r)
  | 0, e, p, h1, h, _, _ => by omega
  | n + 1, e, p, h1, h, hp, hr => by
    rw [cut]
    split
    · exact ⟨hp, hm, cut_ascW m hm r n _ _ (by simp only; omega) (by simp only; omega) (by simp only; omega) (by simp only; rw [show e.f0 + m + (e.f1 - m) = e.f0 + e.f1 by omega]; exact hr)⟩
    · exact ⟨hp, h1, hr⟩
theorem cuts_ascW (m : Int) (hm : 1 ≤ m) : ∀ (l : List S40) (p q : Int), Asc p l → q ≤ p + 1 → AscW q (cuts m l)
  | [], _, _, _, _ => trivial
  | e :: l, p, q, ⟨h1, h2, h3⟩, hq => by
    rw [cuts_cons]
    exact cut_ascW m hm _ _ e q h2 (by omega) (by omega) (cuts_ascW m hm l _ _ h3 (by omega))
end Go.Proofs.Yteeedheklnelkaa.P

namespace Go.Proofs.Yteeedheklnelkaa.P
open Go.RowKit Go.Proofs.YteeedheklnelkaaW.PrintWords Go.Proofs.YteeedheklnelkaaW.PrintLast Go.Proofs.YteeedheklnelkaaW.PrintMore
theorem xsplit_inner (m : Int) (hm : 1 ≤ m) (L : List S40) (i : Int) : ∀ (n K : Nat) (e : S40) (out : List S40), 0 ≤ e.f0 → 1 ≤ e.f1 → e.f0 + e.f1 ≤ 4096 → e.f1 ≤ n → n ≤ K → out.length + n ≤ 100000 →
    xSplit.l1 K m out L L.length i e.f0 e.f1 = xSplit.l0 (K - (cut m e.f1.toNat e).length) m (out ++ cut m e.f1.toNat e) L L.length (wrap64 (i + 1)) := by
  intro n
  induction n with
  | zero => intro k e out _ _ _ _ _; omega
  | succ n ih =>
    intro K e out h0 h1 h2 hn hK ho
    obtain ⟨K, rfl⟩ : ∃ m, K = m + 1 := ⟨K - 1, by omega⟩
    rw [xSplit.l1]
    by_cases c : e.f1 > m
    · have i1 := ih K ⟨e.f0 + m, e.f1 - m⟩ (out ++ [⟨e.f0, m⟩]) (by simp only; omega) (by simp only; omega) (by simp only; omega) (by simp only; omega) (by omega) (by simp; omega)
      simp only at i1
      rw [if_pos c, if_pos (by omega), w64 (e.f0 + m) (by omega) (by omega), w64 (e.f1 - m) (by omega) (by omega), i1, cut_big m hm e c, List.length_cons, List.append_assoc, Nat.add_sub_add_right]
      rfl
    · rw [if_neg c, if_pos (by omega), cut_small m e c]
      rfl
theorem xsplit_loop (m : Int) (hm : 1 ≤ m) (L : List S40) (hL : L.length ≤ 5000) (hb : ∀ e ∈ L, 0 ≤ e.f0 ∧ 1 ≤ e.f1 ∧ e.f0 + e.f1 ≤ 4096) : ∀ (n k i : Nat) (out : List S40), i + n = L.length →
    n + (cuts m (L.drop i)).length + 5000 < k → out.length + (cuts m (L.drop i)).length ≤ 50000 → xSplit.l0 k m out L L.length i = some (out ++ cuts m (L.drop i), 0) := by
  intro n
  induction n with
  | zero =>
    intro k i out hi hk ho
    obtain ⟨k, rfl⟩ : ∃ m, k = m + 1 := ⟨k - 1, by omega⟩
    rw [xSplit.l0, if_neg (by omega), List.drop_eq_nil_of_le (by omega)]
    simp [cuts]
  | succ n ih =>
    intro k i out hi hk ho
    obtain ⟨k, rfl⟩ : ∃ m, k = m + 1 := ⟨k - 1, by omega⟩
    obtain ⟨h0, h1, h2⟩ := hb _ (rd_mem L (i := i) (by omega))
    have hlen := cut_length m hm _ _ h1 (show (rd_T40 L (i : Int)).f1 ≤ ((rd_T40 L (i : Int)).f1.toNat : Int) by omega)
    rw [drop_cons L (by omega), cuts_cons, List.length_append] at hk ho
    rw [xSplit.l0, if_pos (by omega), if_pos (by omega), if_pos (by omega), xsplit_inner m hm L i (rd_T40 L (i : Int)).f1.toNat k _ out h0 h1 h2 (by omega) (by omega) (by omega), wsucc i (by omega),
      ih _ (i + 1) _ (by omega) (by omega) (by rw [List.length_append]; omega), drop_cons L (i := i) (by omega), cuts_cons, List.append_assoc]
theorem cuts_canon_length (m : Int) (hm : 1 ≤ m) (p : Nat → Bool) : (cuts m (canon p)).length ≤ 4096 := by
  have h := cuts_length m hm (canon p) fun e he => (canon_bound p e he).2.1
  have h2 := cntN_bound p 4096
  rw [sumF_canon] at h
  omega
theorem xSplit_eq (l : List S40) (h : l.length ≤ 100000) (m : Int) {k : Nat} (hk : 30000 ≤ k) : xSplit.f k l m = some (if m ≤ 0 then ([], 1) else (cuts m (canon fun j => inL l j), 0)) := by
  unfold xSplit.f
  by_cases hm : m ≤ 0
  · rw [if_pos hm, if_pos hm]
  · rw [if_neg hm, if_neg hm, union_nil l h, Option.bind_some]
    have hlen := canon_length fun j => inL l (j : Int)
    have hc := cuts_canon_length m (by omega) fun j => inL l (j : Int)
    have hbd := canon_bound fun j => inL l (j : Int)
    generalize canon (fun j => inL l (j : Int)) = L at hlen hbd hc
    have := xsplit_loop m (by omega) L (by omega) hbd L.length k 0 [] (by omega) (by rw [List.drop_zero]; omega) (by rw [List.drop_zero, List.length_nil]; omega)
    rw [List.drop_zero, List.nil_append] at this
    exact this
theorem chk_asc : ∀ (l : List S40) (p next : Int), Asc p l → (∀ e ∈ l, 0 ≤ e.f0 ∧ 1 ≤ e.f1 ∧ e.f0 + e.f1 ≤ 4096) → next ≤ p + 1 → chk 4096 next l = 0
  | [], _, _, _, _, _ => rfl
  | e :: l, p, next, ⟨h1, h2, h3⟩, hb, hn => by
    have := hb e List.mem_cons_self
    rw [chk, if_neg (by omega), if_neg (by omega), if_neg (by omega)]
    exact chk_asc l _ _ h3 (fun x hx => hb x (List.mem_cons_of_mem _ hx)) (by omega)
theorem chk_canon (p : Nat → Bool) : chkS 4096 (canon p) = 0 := by
  unfold chkS
  rw [if_pos (by omega)]
  exact chk_asc _ _ _ (canon_asc p) (canon_bound p) (by omega)
theorem normE_bound : ∀ l : List S40, (∀ e ∈ l, 0 ≤ e.f0 ∧ 1 ≤ e.f1 ∧ e.f0 + e.f1 ≤ 4096) → normE l = 0
  | [], _ => rfl
  | e :: l, hb => by
    have := hb e List.mem_cons_self
    rw [normE, if_neg (by omega), if_neg (by omega)]
    exact normE_bound l fun x hx => hb x (List.mem_cons_of_mem _ hx)
theorem canon_canon (p : Nat → Bool) : canon (fun j => inL (canon p) j) = canon p := canon_congr fun j hj => inL_canon_nat p hj
theorem tailE_canon (p : Nat → Bool) : tailE (canon p) (canon p) = (canon p, 0) := by
  unfold tailE
  rw [if_pos (normE_bound _ (canon_bound p)), canon_canon]
theorem canon_cuts (m : Int) (hm : 1 ≤ m) (p : Nat → Bool) : canon (fun j => inL (cuts m (canon p)) j) = canon p := canon_congr fun j hj => by
  have h1 := inL_cov (l := cuts m (canon p)) (fun e he => by have := cuts_mem m hm _ (canon_bound p) e he; omega) (j : Int)
  have h2 := inL_cov (canon_bound p) (j : Int)
  rw [cuts_cov m hm _ _ fun e he => (canon_bound p e he).2.1, ← h2] at h1
  rw [← inL_canon_nat p hj]
  exact Bool.eq_iff_iff.2 h1
theorem pieces_loop (m : Int) (P : List S40) (hP : P.length ≤ 5000) (hb : ∀ e ∈ P, 0 ≤ e.f0 ∧ 1 ≤ e.f1 ∧ e.f1 ≤ m ∧ e.f0 + e.f1 ≤ 4096) : ∀ (n k i : Nat) (en : Int), i + n = P.length → n + 1000 < k → AscW en (P.drop i) →
    l01ExtentPieces.l0 k m en P P.length i = some true := by
  intro n
  induction n with
  | zero =>
    intro k i en hi hk _
    obtain ⟨k, rfl⟩ : ∃ m, k = m + 1 := ⟨k - 1, by omega⟩
    rw [l01ExtentPieces.l0, if_neg (by omega), awake_eq (by omega)]; rfl
  | succ n ih =>
    intro k i en hi hk ha
    obtain ⟨k, rfl⟩ : ∃ m, k = m + 1 := ⟨k - 1, by omega⟩
    obtain ⟨h0, h1, h2, h3⟩ := hb _ (rd_mem P (i := i) (by omega))
    rw [drop_cons P (by omega)] at ha
    obtain ⟨a1, a2, a3⟩ := ha
    rw [l01ExtentPieces.l0, if_pos (by omega), if_pos (by omega), if_pos (by omega), if_neg (by omega), if_neg (by omega), if_neg (by omega), if_neg (by omega), w64 _ (by omega) (by omega), wsucc i (by omega)]
    exact ih k (i + 1) _ (by omega) (by omega) a3
theorem pieces_true (l : List S40) (a : Int) (h0 : 0 ≤ a) (h1 : a ≤ 255) {k : Nat} (hk : 60000 ≤ k) : l01ExtentPieces.f k l a = some true := by
  unfold l01ExtentPieces.f
  rw [few_eq, Option.bind_some]
  by_cases h : l.length ≤ 20 ∧ ([] : List S40).length ≤ 20
  · have hlen := canon_length fun j => inL l (j : Int)
    have hcut := cuts_canon_length (a + 1) (by omega) fun j => inL l (j : Int)
    rw [decide_eq_true h, if_pos rfl, union_nil l (by omega), Option.bind_some, xnorm_eq _ (by omega) (R64_canon _) (by omega), tailE_canon, Option.bind_some, xcheck_eq _ (by omega) (R64_canon _) 4096 (by omega), chk_canon, Option.bind_some,
      if_pos rfl, if_pos rfl, same_eq _ (by omega) (by omega), Option.bind_some]
    obtain ⟨k, rfl⟩ : ∃ m, k = m + 1 := ⟨k - 1, by omega⟩
    rw [l01ExtentPieces.j0, if_neg (by decide), w64 a (by omega) (by omega), w64 (a + 1) (by omega) (by omega), xSplit_eq l (by omega) _ (by omega), if_neg (by omega), Option.bind_some, if_pos rfl, union_nil (cuts (a + 1) (canon fun j => inL l j)) (by omega), canon_cuts _ (by omega), Option.bind_some,
      same_eq _ (by omega) (by omega), Option.bind_some]
    obtain ⟨k, rfl⟩ : ∃ m, k = m + 1 := ⟨k - 1, by omega⟩
    rw [l01ExtentPieces.j1, if_neg (by decide)]
    refine pieces_loop (a + 1) (cuts (a + 1) (canon fun j => inL l j)) (by omega) (cuts_mem _ (by omega) _ (canon_bound _)) (cuts (a + 1) (canon fun j => inL l j)).length k 0 0 (by omega) (by omega) ?_
    rw [List.drop_zero]
    exact cuts_ascW _ (by omega) _ (-1) 0 (canon_asc _) (by omega)
  · rw [decide_eq_false h, if_neg (by decide), awake_eq (by omega)]; rfl
end Go.Proofs.Yteeedheklnelkaa.P
