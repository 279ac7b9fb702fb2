/-
  Parts of the proof of the law IntentEncodes (part 4): what the functions it reaches come to, and the plain law. Conditions: those that each theorem names.
-/
import Derived.BigRegion
import Derived.BigRegionIn
import Derived.Outline
import Derived.Test.YtnjbdcnefienhaaDoorCIntentEncodes3
namespace Go.Proofs.YtnjbdcnefienhaaDoor.P
open Go.RowKit Go.Proofs.YtnjbdcnefienhaaDoorW.PrintWords Go.Proofs.YtnjbdcnefienhaaDoorW.PrintLast Go.Proofs.YtnjbdcnefienhaaDoorW.PrintMore
attribute [local go_sem] Oper.semAt_some
theorem clone_own (A : Option Addr) (c : Nat) (l : List Int) (w : World) (hr : Kd.C (Kd.int .i64) w A l.length l) (hlen : l.length ≤ 1000000) :
  Calls Tryd.prog 44 #[.slice A l.length c] w fun e w' => ∃ A2 c2, e = .returned (.slice A2 l.length c2) ∧ w'.ownsRow w.heap.size 3 1 (.slice A2 l.length c2) l.length (nums .i64 l) ∧ Below w.heap.size w w' := by
 cases A with
 | none =>
  have h0 : l.length = 0 := by
   rcases Nat.eq_zero_or_pos l.length with h | h
   ·
    exact h
   ·
    obtain ⟨ad, e, _⟩ := hr.2.2 h
    cases e
  have hn : l = [] := List.eq_nil_of_length_eq_zero h0
  subst hn
  exact (clone_nil_int c w).mono fun e w' ⟨he, hw⟩ => ⟨none, 0, he, by rw [hw]; exact own_nil _ _ _ _, by rw [hw]; exact Below.refl _ _⟩
 | some ad =>
  refine (clone_row_int ad l.length c l w rfl (by omega) ?_).mono ?_
  ·
   intro j hj
   obtain ⟨ad', e, h⟩ := hr.2.2 (by omega)
   cases e
   obtain ⟨cs, hl, hk, hcell⟩ := h j _ (List.getElem?_eq_getElem hj)
   have hcs : cs = [Value.int .i64 l[j]] := hk
   subst hcs
   have := hcell 0 _ rfl
   simpa [List.getD, hj, show (Kd.int .i64).sz = 1 from rfl] using this
  ·
   rintro e w' ⟨v', he, ho, hb⟩
   obtain ⟨A2, c2, hv⟩ := own_slice ho
   subst hv
   exact ⟨A2, c2, he, ho, hb⟩
theorem heap_alloc_old (W : World) (o : Obj) (k : Nat) (x : Obj) (h : W.heap[k]? = some x) : (W.alloc o).heap[k]? = some x := (Below.heap_alloc W o k (Array.getElem?_eq_some_iff.1 h).1).trans h
theorem new6 (w : World) (o0 o1 o2 o3 o4 o5 : Obj) : ∃ W, (((((w.alloc o0).alloc o1).alloc o2).alloc o3).alloc o4).alloc o5 = W ∧ Below w.heap.size w W ∧ W.heap.size = w.heap.size + 1 + 1 + 1 + 1 + 1 + 1 ∧
  W.heap[w.heap.size]? = some o0 ∧ W.heap[w.heap.size + 1]? = some o1 ∧ W.heap[w.heap.size + 1 + 1]? = some o2 ∧ W.heap[w.heap.size + 1 + 1 + 1]? = some o3 ∧ W.heap[w.heap.size + 1 + 1 + 1 + 1]? = some o4 ∧ W.heap[w.heap.size + 1 + 1 + 1 + 1 + 1]? = some o5 := by
 have n : ∀ (W : World) (o : Obj) (k : Nat), W.heap.size = k → (W.alloc o).heap[k]? = some o := fun W o k h => by rw [← h]; exact heap_alloc_new W o
 obtain ⟨W, hW, hB, hS, h0, h1, h2, h3⟩ := new4 w o0 o1 o2 o3
 rw [hW]
 refine ⟨_, rfl, below_alloc (below_alloc hB _) _, by simp [hS], ?_, ?_, ?_, ?_, ?_, ?_⟩
 ·
  exact heap_alloc_old _ _ _ _ (heap_alloc_old _ _ _ _ h0)
 ·
  exact heap_alloc_old _ _ _ _ (heap_alloc_old _ _ _ _ h1)
 ·
  exact heap_alloc_old _ _ _ _ (heap_alloc_old _ _ _ _ h2)
 ·
  exact heap_alloc_old _ _ _ _ (heap_alloc_old _ _ _ _ h3)
 ·
  exact heap_alloc_old _ _ _ _ (n _ _ _ hS)
 ·
  exact n _ _ _ (by simp [hS])
theorem new2 (w : World) (o0 o1 : Obj) : ∃ W, (w.alloc o0).alloc o1 = W ∧ Below w.heap.size w W ∧ W.heap.size = w.heap.size + 1 + 1 ∧ W.heap[w.heap.size]? = some o0 ∧ W.heap[w.heap.size + 1]? = some o1 := by
 have n : ∀ (W : World) (o : Obj) (k : Nat), W.heap.size = k → (W.alloc o).heap[k]? = some o := fun W o k h => by rw [← h]; exact heap_alloc_new W o
 exact ⟨_, rfl, below_alloc (below_alloc (Below.refl _ _) _) _, by simp, heap_alloc_old _ _ _ _ (n _ _ _ rfl), n _ _ _ (by simp)⟩
theorem cells5' {W : World} {g : Nat} {a b c d e : Value} {t : TypeId} (h : W.heap[g]? = some (.cells #[a, b, c, d, e] t (0, 0))) :
  W.cell? ⟨g, 0, none⟩ = some a ∧ W.cell? ⟨g, 1, none⟩ = some b ∧ W.cell? ⟨g, 2, none⟩ = some c ∧ W.cell? ⟨g, 3, none⟩ = some d ∧ W.cell? ⟨g, 4, none⟩ = some e ∧ W.frozen? ⟨g, 0, none⟩ = false ∧ W.frozen? ⟨g, 1, none⟩ = false ∧ W.frozen? ⟨g, 2, none⟩ = false ∧ W.frozen? ⟨g, 3, none⟩ = false ∧ W.frozen? ⟨g, 4, none⟩ = false :=
 ⟨(blk_cell h 0).trans rfl, (blk_cell h 1).trans rfl, (blk_cell h 2).trans rfl, (blk_cell h 3).trans rfl, (blk_cell h 4).trans rfl, blk_frozen h 0, blk_frozen h 1, blk_frozen h 2, blk_frozen h 3, blk_frozen h 4⟩
theorem cells1' {W : World} {g : Nat} {a : Value} {t : TypeId} (h : W.heap[g]? = some (.cells #[a] t (0, 0))) : W.cell? ⟨g, 0, none⟩ = some a ∧ W.frozen? ⟨g, 0, none⟩ = false := ⟨(blk_cell h 0).trans rfl, blk_frozen h 0⟩
theorem setC {n : Nat} {w W : World} (h : Below n w W) {g o : Nat} (hg : n ≤ g) (v : Value) : Below n w (W.setCell ⟨g, o, none⟩ v) := h.setCell (p := ⟨g, o, none⟩) hg v
theorem blk_set1 {W : World} {g : Nat} {u : Value} {t : TypeId} (h : W.heap[g]? = some (.cells #[u] t (0, 0))) (v : Value) : (W.setCell ⟨g, 0, none⟩ v).heap[g]? = some (.cells #[v] t (0, 0)) := by
 unfold World.setCell
 simp only [Array.getElem?_modify, if_pos trivial]
 rw [h]
 simp
theorem blk_else {W : World} {g k o : Nat} {x : Obj} (h : W.heap[k]? = some x) (hne : k ≠ g) (v : Value) : (W.setCell ⟨g, o, none⟩ v).heap[k]? = some x := (Below.heap_setCell W ⟨g, o, none⟩ v k hne).trans h
theorem blk_set5 {W : World} {g : Nat} {a b c d e : Value} {t : TypeId} (h : W.heap[g]? = some (.cells #[a, b, c, d, e] t (0, 0))) (v : Value) : (W.setCell ⟨g, 2, none⟩ v).heap[g]? = some (.cells #[a, b, v, d, e] t (0, 0)) := by
 unfold World.setCell
 simp only [Array.getElem?_modify, if_pos trivial]
 rw [h]
 simp
theorem blk_setAt {W : World} {g : Nat} {cs : Array Value} {t : TypeId} (h : W.heap[g]? = some (.cells cs t (0, 0))) (o : Nat) (v : Value) : (W.setCell ⟨g, o, none⟩ v).heap[g]? = some (.cells (cs.set! o v) t (0, 0)) := by
 unfold World.setCell
 simp only [Array.getElem?_modify, if_pos trivial]
 rw [h]
 simp
theorem blkPut {W : World} {g o : Nat} {cs cs' : Array Value} {t : TypeId} {v : Value} (h : W.heap[g]? = some (.cells cs t (0, 0))) (e : cs.set! o v = cs') : (W.setCell ⟨g, o, none⟩ v).heap[g]? = some (.cells cs' t (0, 0)) := by rw [← e]; exact blk_setAt h o v
theorem drew_blk {W : World} {k : Nat} {o : Obj} (h : W.heap[k]? = some o) : W.drew.heap[k]? = some o := h
theorem drew_keeps (W : World) : KeepsOthers W W.drew := ⟨Nat.le_refl _, fun _ _ h _ => h⟩
theorem drew_row {W : World} {base size k : Nat} {e : TypeId} {v : Value} {xs : List Value} (h : W.ownsRow base e size v k xs) : W.drew.ownsRow base e size v k xs := h
theorem row_far {W : World} {B o : Nat} {base size k : Nat} {e : TypeId} {v : Value} {xs : List Value} (h : W.ownsRow base e size v k xs) (hne : some B ≠ v.ownBlock) (u : Value) : (W.setCell ⟨B, o, none⟩ u).ownsRow base e size v k xs := by
 refine ⟨by simpa using h.1, ?_⟩
 rcases h.2 with h1 | ⟨g, cap, cur, rfl, hb, hg, hle, hm, hs, ht⟩
 ·
  exact .inl h1
 ·
  refine .inr ⟨g, cap, cur, rfl, hb, ?_, hle, hm, hs, ht⟩
  exact (Below.heap_setCell W ⟨B, o, none⟩ u g (fun (e' : g = B) => hne (by rw [e']; rfl))).trans hg
structure CI (one : Int → Int × Int) (sz gr : Int) (v3 : Value) (act : List Int) (ms : Int) (v4 : Value) (t c : Int) (fby : Nat) (w : World) (gT B : Nat) (pre : List Int) (W : World) : Prop where
 ok : (chgA one pre act).2 = 0
 row : W.ownsRow w.heap.size 3 1 v3 act.length (nums .i64 (chgA one pre act).1)
 b0 : W.heap[w.heap.size]? = some (.cells #[.int .i64 sz, .int .i64 gr, v3, .int .i64 ms, v4] 28 (0, 0))
 b2 : W.heap[w.heap.size + 1 + 1]? = some (.cells #[.func (.func fby) #[] #[]] 78 (0, 0))
 b3 : W.heap[w.heap.size + 1 + 1 + 1]? = some (.cells #[.int .i64 0, .int .i64 0, .slice none 0 0, .int .i64 0, .slice none 0 0] 28 (0, 0))
 b4 : W.heap[w.heap.size + 1 + 1 + 1 + 1]? = some (.cells #[.int .i64 0, .int .i64 0] 49 (0, 0))
 b5 : W.heap[w.heap.size + 1 + 1 + 1 + 1 + 1]? = some (.cells #[.int .i64 0] 29 (0, 0))
 bT : W.heap[gT]? = some (.cells #[.int .i64 t, .int .i64 c] 49 (0, 0))
 bE : W.heap[gT + 1]? = some (.cells #[.int .i64 0] 29 (0, 0))
 bB : W.heap[B]? = some (.cells #[.int .i64 t, .int .i64 c] 49 (0, 0))
 below : Below w.heap.size w W
structure CX (e : Int) (w : World) (W : World) : Prop where
 b3 : W.heap[w.heap.size + 1 + 1 + 1]? = some (.cells #[.int .i64 0, .int .i64 0, .slice none 0 0, .int .i64 0, .slice none 0 0] 28 (0, 0))
 b4 : W.heap[w.heap.size + 1 + 1 + 1 + 1]? = some (.cells #[.int .i64 0, .int .i64 0] 49 (0, 0))
 b5 : W.heap[w.heap.size + 1 + 1 + 1 + 1 + 1]? = some (.cells #[.int .i64 e] 29 (0, 0))
 below : Below w.heap.size w W
theorem own_kept {W W' : World} {row : Option Nat} {base size k : Nat} {e : TypeId} {v : Value} {xs : List Value} (h : W.ownsRow base e size v k xs) (hg : W.grownBy W' row) (hr : ∀ r, row = some r → ∃ o : Obj, W.heap[r]? = some o ∧ o.isCells = false) : W'.ownsRow base e size v k xs := by
 refine h.kept hg ?_
 cases hv0 : v.ownBlock with
 | none => exact .inl rfl
 | some k =>
  right
  intro e
  obtain ⟨o, ho, hc⟩ := hr _ e.symm
  obtain ⟨cells, hcc⟩ := own_typed h k hv0
  rw [hcc] at ho
  cases ho
  cases hc
theorem CI.own {α : Type} {one : Int → Int × Int} {sz gr : Int} {v3 : Value} {act : List Int} {ms : Int} {v4 : Value} {t c : Int} {fby : Nat} {w : World} {gT B : Nat} {D : Nat} (f : α → List Int) (hD : w.heap.size ≤ D) :
  OwnFrom (β := α) D (fun p W => CI one sz gr v3 act ms v4 t c fby w gT B (f p) W) := by
 intro s X Y row hs hg hr
 have hk : ∀ (k : Nat) (cs : Array Value) (ty : TypeId), X.heap[k]? = some (.cells cs ty (0, 0)) → Y.heap[k]? = some (.cells cs ty (0, 0)) := fun k cs ty h => by
  refine (hg.block k (Array.getElem?_eq_some_iff.1 h).1 (fun e => ?_)).trans h
  obtain ⟨_, o, ho, hc⟩ := hr k e.symm
  rw [h] at ho; cases ho; cases hc
 exact ⟨hs.ok, own_kept hs.row hg (fun r e => (hr r e).2), hk _ _ _ hs.b0, hk _ _ _ hs.b2, hk _ _ _ hs.b3, hk _ _ _ hs.b4, hk _ _ _ hs.b5, hk _ _ _ hs.bT, hk _ _ _ hs.bE, hk _ _ _ hs.bB, hs.below.grown hg hs.below.size (fun k e => by have := (hr k e).1; omega)⟩
theorem CX.own {α : Type} {w : World} {D : Nat} (e : α → Int) (hD : w.heap.size ≤ D) : OwnFrom (β := α) D (fun p W => CX (e p) w W) := by
 intro s X Y row hs hg hr
 have hk : ∀ (k : Nat) (cs : Array Value) (ty : TypeId), X.heap[k]? = some (.cells cs ty (0, 0)) → Y.heap[k]? = some (.cells cs ty (0, 0)) := fun k cs ty h => by
  refine (hg.block k (Array.getElem?_eq_some_iff.1 h).1 (fun e => ?_)).trans h
  obtain ⟨_, o, ho, hc⟩ := hr k e.symm
  rw [h] at ho; cases ho; cases hc
 exact ⟨hk _ _ _ hs.b3, hk _ _ _ hs.b4, hk _ _ _ hs.b5, hs.below.grown hg hs.below.size (fun k e => by have := (hr k e).1; omega)⟩
abbrev zI : Value := .agg #[.int .i64 0, .int .i64 0, .slice none 0 0, .int .i64 0, .slice none 0 0]
abbrev vI (sz gr : Int) (a : Value) (ms : Int) (b : Value) : Value := .agg #[.int .i64 sz, .int .i64 gr, a, .int .i64 ms, b]
set_option maxHeartbeats 4000000 in
set_option maxRecDepth 100000 in
theorem change_bad (fby : Nat) (sz gr : Int) (A2 : Option Addr) (c2 : Nat) (act : List Int) (ms : Int) (A4 : Option Addr) (c4 : Nat) (mw : List Int) (st ct : Int) (w : World) (e0 : Int) (he0 : iCheck.f 10000 sz gr act ms mw = some e0) (hne : (e0 != 0) = true)
  (hr2 : Kd.C (Kd.int .i64) w A2 act.length act) (hc2 : act.length ≤ c2) (hr4 : Kd.C (Kd.int .u64) w A4 mw.length mw) (hc4 : mw.length ≤ c4) :
  Calls Tryd.prog 38 #[vI sz gr (.slice A2 act.length c2) ms (.slice A4 mw.length c4), .agg #[.int .i64 st, .int .i64 ct], .func (.func fby) #[] #[]] w fun e w' => e = .returned (.tuple #[zI, .agg #[.int .i64 0, .int .i64 0], .int .i64 e0]) ∧ Below w.heap.size w w' := by
 have HR2 := Aside0.mk hr2
 have HC2 := Aside0.mk hc2
 have HR4 := Aside0.mk hr4
 have HC4 := Aside0.mk hc4
 have HE := Aside0.mk he0
 clear hr2 hc2 hr4 hc4 he0
 go_enter Tryd.func38, Tryd.ntmps38
 go_wp2_with fail
 obtain ⟨W, hW, hB, hS, -, -, -, h3, h4, h5⟩ := new6 w (Obj.cells #[Value.int IntKind.i64 sz, Value.int IntKind.i64 gr, Value.slice A2 act.length c2, Value.int IntKind.i64 ms, Value.slice A4 mw.length c4] 28) (Obj.cells #[Value.int IntKind.i64 st, Value.int IntKind.i64 ct] 49) (Obj.cells #[Value.func (.func fby) #[] #[]] 78) (Obj.cells #[Value.int IntKind.i64 0, Value.int IntKind.i64 0, Value.slice none 0 0, Value.int IntKind.i64 0, Value.slice none 0 0] 28) (Obj.cells #[Value.int IntKind.i64 0, Value.int IntKind.i64 0] 49) (Obj.cells #[Value.int IntKind.i64 0] 29)
 rw [hW]
 have HB := Aside0.mk hB
 have B3 := Aside0.mk h3
 have B4 := Aside0.mk h4
 have B5 := Aside0.mk h5
 clear hW hB hS h3 h4 h5
 refine (iCheck.calls 10000 sz gr _ c2 act ms _ c4 mw e0 W (Kd.C_below HR2.out HB.out) HC2.out (Kd.C_below HR4.out HB.out) HC4.out HE.out).mono ?_
 rintro e w1 ⟨rfl, hb1⟩
 obtain ⟨c30, c31, c32, c33, c34, f30, f31, f32, f33, f34⟩ := cells5' (blk_of_below B3.out hb1)
 obtain ⟨c40, c41, f40, f41⟩ := cells2 (blk_of_below B4.out hb1)
 obtain ⟨c50, f50⟩ := cells1' (blk_of_below B5.out hb1)
 have HB1 := Aside0.mk (below_step HB.out hb1)
 clear hb1
 go_wp2_with fail
 refine bodyPost_ret (v := .tuple #[zI, .agg #[.int .i64 0, .int .i64 0], .int .i64 e0]) ?_ rfl ⟨rfl, ?_⟩
 ·
  simp [results, Tryd.results38, go_sem, *]
 ·
  repeat refine setC ?_ (by omega) _
  exact HB1.out
set_option maxHeartbeats 4000000 in
set_option maxRecDepth 100000 in
theorem change_out (fby : Nat) (sz gr : Int) (A2 : Option Addr) (c2 : Nat) (act : List Int) (ms : Int) (A4 : Option Addr) (c4 : Nat) (mw : List Int) (st ct : Int) (w : World) (e0 t c : Int) (he0 : iCheck.f 10000 sz gr act ms mw = some 0) (ht : itouched.f sz gr act ms mw st ct = some (t, c, e0)) (hne : (e0 != 0) = true)
  (hr2 : Kd.C (Kd.int .i64) w A2 act.length act) (hc2 : act.length ≤ c2) (hr4 : Kd.C (Kd.int .u64) w A4 mw.length mw) (hc4 : mw.length ≤ c4) :
  Calls Tryd.prog 38 #[vI sz gr (.slice A2 act.length c2) ms (.slice A4 mw.length c4), .agg #[.int .i64 st, .int .i64 ct], .func (.func fby) #[] #[]] w fun e w' => e = .returned (.tuple #[zI, .agg #[.int .i64 0, .int .i64 0], .int .i64 e0]) ∧ Below w.heap.size w w' := by
 have HR2 := Aside0.mk hr2
 have HC2 := Aside0.mk hc2
 have HR4 := Aside0.mk hr4
 have HC4 := Aside0.mk hc4
 have HE := Aside0.mk he0
 have HT := Aside0.mk ht
 clear hr2 hc2 hr4 hc4 he0 ht
 go_enter Tryd.func38, Tryd.ntmps38
 go_wp2_with fail
 obtain ⟨W, hW, hB, hS, h0, h1, -, h3, h4, h5⟩ := new6 w (Obj.cells #[Value.int IntKind.i64 sz, Value.int IntKind.i64 gr, Value.slice A2 act.length c2, Value.int IntKind.i64 ms, Value.slice A4 mw.length c4] 28) (Obj.cells #[Value.int IntKind.i64 st, Value.int IntKind.i64 ct] 49) (Obj.cells #[Value.func (.func fby) #[] #[]] 78) (Obj.cells #[Value.int IntKind.i64 0, Value.int IntKind.i64 0, Value.slice none 0 0, Value.int IntKind.i64 0, Value.slice none 0 0] 28) (Obj.cells #[Value.int IntKind.i64 0, Value.int IntKind.i64 0] 49) (Obj.cells #[Value.int IntKind.i64 0] 29)
 rw [hW]
 have HB := Aside0.mk hB
 have B0 := Aside0.mk h0
 have B1 := Aside0.mk h1
 have B3 := Aside0.mk h3
 have B4 := Aside0.mk h4
 have B5 := Aside0.mk h5
 clear hW hB hS h0 h1 h3 h4 h5
 refine (iCheck.calls 10000 sz gr _ c2 act ms _ c4 mw 0 W (Kd.C_below HR2.out HB.out) HC2.out (Kd.C_below HR4.out HB.out) HC4.out HE.out).mono ?_
 rintro e w1 ⟨rfl, hb1⟩
 obtain ⟨c00, c01, c02, c03, c04, -, -, -, -, -⟩ := cells5' (blk_of_below B0.out hb1)
 obtain ⟨c10, c11, -, -⟩ := cells2 (blk_of_below B1.out hb1)
 have B3' := Aside0.mk (blk_of_below B3.out hb1)
 have B4' := Aside0.mk (blk_of_below B4.out hb1)
 have B5' := Aside0.mk (blk_of_below B5.out hb1)
 have HB1 := Aside0.mk (below_step HB.out hb1)
 clear hb1 B0 B1 B3 B4 B5
 go_wp2_with fail
 refine (itouched.calls sz gr _ c2 act ms _ c4 mw st ct t c e0 w1 (Kd.C_below HR2.out HB1.out) HC2.out (Kd.C_below HR4.out HB1.out) HC4.out HT.out).mono ?_
 rintro e w2 ⟨rfl, hb2⟩
 have HB2 := Aside0.mk (below_step HB1.out hb2)
 have B3 := Aside0.mk (blk_of_below B3'.out hb2)
 have B4 := Aside0.mk (blk_of_below B4'.out hb2)
 have B5 := Aside0.mk (blk_of_below B5'.out hb2)
 clear hb2 c00 c01 c02 c03 c04 c10 c11 B3' B4' B5'
 go_wp2_with fail
 obtain ⟨V, hV, hVB, hVS, v0, v1⟩ := new2 w2 (Obj.cells #[Value.int IntKind.i64 t, Value.int IntKind.i64 c] 49) (Obj.cells #[Value.int IntKind.i64 e0] 29)
 rw [hV]
 obtain ⟨c30, c31, c32, c33, c34, f30, f31, f32, f33, f34⟩ := cells5' (blk_of_below B3.out hVB)
 obtain ⟨c40, c41, f40, f41⟩ := cells2 (blk_of_below B4.out hVB)
 obtain ⟨c50, f50⟩ := cells1' (blk_of_below B5.out hVB)
 obtain ⟨c60, f60⟩ := cells1' v1
 have HB3 := Aside0.mk (below_step HB2.out hVB)
 have HL := Aside0.mk (Array.getElem?_eq_some_iff.1 B5.out).1
 have hn3 : w.heap.size + 1 + 1 + 1 ≠ w2.heap.size + 1 := by have := HL.out; omega
 have hn4 : w.heap.size + 1 + 1 + 1 + 1 ≠ w2.heap.size + 1 := by have := HL.out; omega
 have hn3' := hn3.symm
 have hn4' := hn4.symm
 clear hV hVB hVS v0 v1
 go_region
 go_wp2
 refine bodyPost_ret (v := .tuple #[zI, .agg #[.int .i64 0, .int .i64 0], .int .i64 e0]) ?_ rfl ⟨rfl, ?_⟩
 ·
  simp [results, Tryd.results38, go_sem, *]
 ·
  refine below_drew1 ?_
  iterate 8 refine setC ?_ (by omega) _
  exact HB3.out
set_option maxHeartbeats 8000000 in
set_option maxRecDepth 100000 in
theorem change_go (fby : Nat) (eby : ∀ args w, (callFunc fby args).run Tryd.prog w = .ok (.enter fby args) w) (one : Int → Int × Int) (hby : ∀ x W, Calls Tryd.prog fby #[.int .i64 x] W fun e w' => e = .returned (.tuple #[.int .i64 (one x).1, .int .i64 (one x).2]) ∧ w' = W)
  (sz gr : Int) (A2 : Option Addr) (c2 : Nat) (act : List Int) (ms : Int) (A4 : Option Addr) (c4 : Nat) (mw : List Int) (st ct : Int) (w : World) (t c : Int) (he0 : iCheck.f 10000 sz gr act ms mw = some 0) (ht : itouched.f sz gr act ms mw st ct = some (t, c, 0))
  (ht0 : 0 ≤ t) (hc0 : 0 ≤ c) (htc : t + c ≤ act.length) (hal : act.length ≤ 10000)
  (hr2 : Kd.C (Kd.int .i64) w A2 act.length act) (hc2 : act.length ≤ c2) (hr4 : Kd.C (Kd.int .u64) w A4 mw.length mw) (hc4 : mw.length ≤ c4) :
  Calls Tryd.prog 38 #[vI sz gr (.slice A2 act.length c2) ms (.slice A4 mw.length c4), .agg #[.int .i64 st, .int .i64 ct], .func (.func fby) #[] #[]] w fun e w' =>
   Below w.heap.size w w' ∧ ((chgA one (eachL t c) act).2 ≠ 0 ∧ e = .returned (.tuple #[zI, .agg #[.int .i64 0, .int .i64 0], .int .i64 (chgA one (eachL t c) act).2]) ∨
   (chgA one (eachL t c) act).2 = 0 ∧ ∃ v, e = .returned (.tuple #[vI sz gr v ms (.slice A4 mw.length c4), .agg #[.int .i64 t, .int .i64 c], .int .i64 0]) ∧ w'.ownsRow w.heap.size 3 1 v act.length (nums .i64 (chgA one (eachL t c) act).1)) := by
 have HR2 := Aside0.mk hr2
 have HC2 := Aside0.mk hc2
 have HR4 := Aside0.mk hr4
 have HC4 := Aside0.mk hc4
 have HE := Aside0.mk he0
 have HT := Aside0.mk ht
 have HBY := Aside0.mk hby
 clear hr2 hc2 hr4 hc4 he0 ht hby
 refine (callsIn_wide (n := 5)).1 ?_
 refine callsIn_of_wp_marks Tryd.func38 rfl trivial ?_ rfl
 simp only [Tryd.ntmps38, List.size_toArray, List.length_cons, List.length_nil, Nat.reduceAdd, Nat.reduceSub, Array.replicate_succ, Array.replicate_zero, List.push_toArray, List.append_toArray, List.nil_append, List.cons_append]
 gi_wp2
 obtain ⟨W, hW, hB, hS, h0, h1, h2, h3, h4, h5⟩ := new6 w (Obj.cells #[Value.int IntKind.i64 sz, Value.int IntKind.i64 gr, Value.slice A2 act.length c2, Value.int IntKind.i64 ms, Value.slice A4 mw.length c4] 28) (Obj.cells #[Value.int IntKind.i64 st, Value.int IntKind.i64 ct] 49) (Obj.cells #[Value.func (.func fby) #[] #[]] 78) (Obj.cells #[Value.int IntKind.i64 0, Value.int IntKind.i64 0, Value.slice none 0 0, Value.int IntKind.i64 0, Value.slice none 0 0] 28) (Obj.cells #[Value.int IntKind.i64 0, Value.int IntKind.i64 0] 49) (Obj.cells #[Value.int IntKind.i64 0] 29)
 rw [hW]
 have HB := Aside0.mk hB
 have B0 := Aside0.mk h0
 have B1 := Aside0.mk h1
 have B2 := Aside0.mk h2
 have B3 := Aside0.mk h3
 have B4 := Aside0.mk h4
 have B5 := Aside0.mk h5
 clear hW hB hS h0 h1 h2 h3 h4 h5
 refine ⟨trivial, (callsIn_wide.2 (iCheck.calls 10000 sz gr _ c2 act ms _ c4 mw 0 W (Kd.C_below HR2.out HB.out) HC2.out (Kd.C_below HR4.out HB.out) HC4.out HE.out)).mono ?_⟩
 rintro e w1 ⟨rfl, hb1⟩
 obtain ⟨c00, c01, c02, c03, c04, -, -, -, -, -⟩ := cells5' (blk_of_below B0.out hb1)
 obtain ⟨c10, c11, -, -⟩ := cells2 (blk_of_below B1.out hb1)
 have B0' := Aside0.mk (blk_of_below B0.out hb1)
 have B2' := Aside0.mk (blk_of_below B2.out hb1)
 have B3' := Aside0.mk (blk_of_below B3.out hb1)
 have B4' := Aside0.mk (blk_of_below B4.out hb1)
 have B5' := Aside0.mk (blk_of_below B5.out hb1)
 have HB1 := Aside0.mk (below_step HB.out hb1)
 clear hb1 B0 B1 B2 B3 B4 B5
 gi_wp2
 refine ⟨trivial, (callsIn_wide.2 (itouched.calls sz gr _ c2 act ms _ c4 mw st ct t c 0 w1 (Kd.C_below HR2.out HB1.out) HC2.out (Kd.C_below HR4.out HB1.out) HC4.out HT.out)).mono ?_⟩
 rintro e w2 ⟨rfl, hb2⟩
 have HB2 := Aside0.mk (below_step HB1.out hb2)
 have B0 := Aside0.mk (blk_of_below B0'.out hb2)
 have B2 := Aside0.mk (blk_of_below B2'.out hb2)
 have B3 := Aside0.mk (blk_of_below B3'.out hb2)
 have B4 := Aside0.mk (blk_of_below B4'.out hb2)
 have B5 := Aside0.mk (blk_of_below B5'.out hb2)
 clear hb2 c00 c01 c02 c03 c04 c10 c11 B0' B2' B3' B4' B5'
 obtain ⟨V, hV, hVB, hVS, v0, v1⟩ := new2 w2 (Obj.cells #[Value.int IntKind.i64 t, Value.int IntKind.i64 c] 49) (Obj.cells #[Value.int IntKind.i64 0] 29)
 obtain ⟨c00, c01, c02, c03, c04, f00, f01, f02, f03, f04⟩ := cells5' (blk_of_below B0.out hVB)
 obtain ⟨c60, f60⟩ := cells1' v1
 have hnx : w.heap.size ≠ w2.heap.size + 1 := by have := (Array.getElem?_eq_some_iff.1 B5.out).1; omega
 have hnx' := hnx.symm
 gi_wp2
 have l0 := (Array.getElem?_eq_some_iff.1 B5.out).1
 have B0' := Aside0.mk (blk_else (o := 0) (g := w2.heap.size + 1) (blk_of_below B0.out hVB) (by omega) (.int .i64 0))
 have B2' := Aside0.mk (blk_else (o := 0) (g := w2.heap.size + 1) (blk_of_below B2.out hVB) (by omega) (.int .i64 0))
 have B3' := Aside0.mk (blk_else (o := 0) (g := w2.heap.size + 1) (blk_of_below B3.out hVB) (by omega) (.int .i64 0))
 have B4' := Aside0.mk (blk_else (o := 0) (g := w2.heap.size + 1) (blk_of_below B4.out hVB) (by omega) (.int .i64 0))
 have B5' := Aside0.mk (blk_else (o := 0) (g := w2.heap.size + 1) (blk_of_below B5.out hVB) (by omega) (.int .i64 0))
 have BV0 := Aside0.mk (blk_else (o := 0) (g := w2.heap.size + 1) v0 (by omega) (.int .i64 0))
 have BV1 := Aside0.mk (blk_set1 v1 (.int .i64 0))
 have HB3 := Aside0.mk (setC (below_step HB2.out hVB) (g := w2.heap.size + 1) (o := 0) (by omega) (.int .i64 0))
 have HL := Aside0.mk (And.intro l0 (show (V.setCell ⟨w2.heap.size + 1, 0, none⟩ (.int .i64 0)).heap.size = w2.heap.size + 1 + 1 from by rw [← hVS]; simp))
 clear hVB hVS v0 v1 B0 B2 B3 B4 B5 c00 c01 c02 c03 c04 f00 f01 f02 f03 f04 c60 f60 hV l0 hnx hnx'
 generalize V.setCell ⟨w2.heap.size + 1, 0, none⟩ (.int .i64 0) = V at B0' B2' B3' B4' B5' BV0 BV1 HB3 HL ⊢
 refine ⟨trivial, (callsIn_wide.2 (clone_own _ c2 act V (Kd.C_below HR2.out HB3.out) (by omega))).mono ?_⟩
 rintro e w3 ⟨A3, c3, rfl, hR3, hb3⟩
 have B0 := Aside0.mk (blk_of_below B0'.out hb3)
 have B2 := Aside0.mk (blk_of_below B2'.out hb3)
 have B3 := Aside0.mk (blk_of_below B3'.out hb3)
 have B4 := Aside0.mk (blk_of_below B4'.out hb3)
 have B5 := Aside0.mk (blk_of_below B5'.out hb3)
 have BT := Aside0.mk (blk_of_below BV0.out hb3)
 have BE := Aside0.mk (blk_of_below BV1.out hb3)
 have HB4 := Aside0.mk (below_step HB3.out hb3)
 have HO := Aside0.mk (own_weaken hR3 HB3.out.size)
 clear hb3 hR3 B0' B2' B3' B4' B5' BV0 BV1
 obtain ⟨c00, c01, c02, c03, c04, f00, f01, f02, f03, f04⟩ := cells5' B0.out
 obtain ⟨ct0, ct1, -, -⟩ := cells2 BT.out
 have hnT : w.heap.size ≠ w2.heap.size := by have := HL.out.1; omega
 have hnT' := hnT.symm
 gi_wp2
 clear c00 c01 c02 c03 c04 f00 f01 f02 f03 f04 ct0 ct1 hnT hnT'
 refine ⟨trivial, (each_any _ t c _).mono ?_⟩
 rintro e w' ⟨rfl, rfl⟩
 gi_wp2
 have hl3 := HB4.out.size
 have hb0l := (Array.getElem?_eq_some_iff.1 B0.out).1
 have hTl := (Array.getElem?_eq_some_iff.1 BT.out).1
 have hEl := (Array.getElem?_eq_some_iff.1 BE.out).1
 obtain ⟨g1, g2⟩ := HL.out
 have hci : CI one sz gr (.slice A3 act.length c3) act ms (.slice A4 mw.length c4) t c fby w w2.heap.size w3.heap.size [] ((w3.setCell ⟨w.heap.size, 2, none⟩ (.slice A3 act.length c3)).alloc (.cells #[.int .i64 t, .int .i64 c] 49)) := by
  refine ⟨rfl, ?_, ?_, ?_, ?_, ?_, ?_, ?_, ?_, ?_, below_alloc (setC HB4.out (Nat.le_refl _) _) _⟩
  ·
   exact own_kept (row_far HO.out (row_ne B0.out (by decide) HO.out) _) (World.grownBy_alloc _ _ none) (fun r e => by cases e)
  ·
   exact heap_alloc_old _ _ _ _ (blk_set5 B0.out _)
  ·
   exact heap_alloc_old _ _ _ _ (blk_else B2.out (by omega) _)
  ·
   exact heap_alloc_old _ _ _ _ (blk_else B3.out (by omega) _)
  ·
   exact heap_alloc_old _ _ _ _ (blk_else B4.out (by omega) _)
  ·
   exact heap_alloc_old _ _ _ _ (blk_else B5.out (by omega) _)
  ·
   exact heap_alloc_old _ _ _ _ (blk_else BT.out (by omega) _)
  ·
   exact heap_alloc_old _ _ _ _ (blk_else BE.out (by omega) _)
  ·
   have := heap_alloc_new (w3.setCell ⟨w.heap.size, 2, none⟩ (.slice A3 act.length c3)) (.cells #[.int .i64 t, .int .i64 c] 49)
   simpa using this
 have hUs : ((w3.setCell ⟨w.heap.size, 2, none⟩ (.slice A3 act.length c3)).alloc (.cells #[.int .i64 t, .int .i64 c] 49)).heap.size = w3.heap.size + 1 := by simp
 generalize (w3.setCell ⟨w.heap.size, 2, none⟩ (.slice A3 act.length c3)).alloc (.cells #[.int .i64 t, .int .i64 c] 49) = U at hci hUs ⊢
 refine wpIn_rangeFunc_ownF rfl (by omega) (gf := 64) (lb := #[.pointer (some ⟨w3.heap.size, 0, none⟩)]) rfl trivial (enters_of Tryd.func64 (by kernel_rfl) rfl)
  (each_stops _ w.heap.size w w3.heap.size act.length t c ht0 hc0 htc (by omega) U ⟨hci.below, hci.bB⟩ (by omega)) KpE.trans (KpE.putObj (by omega) (by omega) (by omega)) (Below.refl _ _) (fun _ => rfl)
  (fun pre W => CI one sz gr (.slice A3 act.length c3) act ms (.slice A4 mw.length c4) t c fby w w2.heap.size w3.heap.size (valsG pre) W)
  (fun c' pre W => (c' = .ret ∧ (chgA one (valsG pre) act).2 ≠ 0) ∧ CX (chgA one (valsG pre) act).2 w W)
  (CI.own _ (by omega)) (fun c' => OwnFrom.and (fun _ _ _ _ h _ _ => h) (CX.own _ (by omega))) hci ?act ?assign ?body ?done ?stop
 case assign =>
  intro l x W K hK
  gi_wp2
  exact hK
 case body =>
  rintro l pre x W hI hlen
  have hI0 := hI
  obtain ⟨k, hk⟩ : ∃ k : Nat, x.1 = (k : Int) := ⟨x.1.toNat, by have := x.2.1; omega⟩
  have hkn : k < act.length := by have := x.2.2; omega
  have hlen' := chgA_length one (valsG pre) act hI.ok
  obtain ⟨g, cap, hv, -⟩ := hI.row.form (by omega)
  injection hv with hA _ hcap
  subst hA
  subst hcap
  obtain ⟨c00, c01, c02, c03, c04, f00, f01, f02, f03, f04⟩ := cells5' hI.b0
  obtain ⟨c20, f20⟩ := cells1' hI.b2
  obtain ⟨cE0, fE0⟩ := cells1' hI.bE
  obtain ⟨y, hy⟩ : ∃ y, y = rd (chgA one (valsG pre) act).1 k := ⟨_, rfl⟩
  have hxk : W.cell? ⟨g, k, none⟩ = some (.int .i64 y) := by
   rw [hI.row.cellAt k (by omega), hy]
   simp [nums, rd, hlen', hkn, List.getD, List.getElem?_eq_getElem]
  have hxf : W.frozen? ⟨g, k, none⟩ = false := hI.row.frozenAt k
  have HYY := Aside0.mk hy
  have hgE : w2.heap.size + 1 ≠ g := fun h => row_ne hI.bE (by decide) hI.row (congrArg some h)
  have hgE' := hgE.symm
  clear hy
  gi_wp2
  refine wpIn_region_round (by rfl) (by kernel_rfl) rfl ?_
  refine share (A := ?A) ?cont (fun hl_ => ?walk)
  case walk =>
   refine wpAnyIn_take (i := 0) (v := .pointer (some ⟨w.heap.size, 2, none⟩)) rfl rfl (by kernel_rfl) (by kernel_rfl) (by kernel_rfl) (fun _ _ _ h => h) ⟨Or.inl ⟨by rfl, by intro w_; go_simp⟩, fun _ => rfl⟩ ?_
   refine wpAnyIn_take (i := 2) (v := .int .i64 k) rfl rfl (by kernel_rfl) (by kernel_rfl) (by kernel_rfl) (fun _ _ _ h => h) ⟨Or.inl ⟨by rfl, by intro w_; go_simp⟩, fun _ => rfl⟩ ?_
   refine wpAnyIn_take (i := 4) (v := .pointer (some ⟨w.heap.size, 2, none⟩)) rfl rfl (by kernel_rfl) (by kernel_rfl) (by kernel_rfl) (fun _ _ _ h => h) ⟨Or.inl ⟨by rfl, by intro w_; go_simp⟩, fun _ => rfl⟩ ?_
   refine wpAnyIn_take (i := 6) (v := .int .i64 k) rfl rfl (by kernel_rfl) (by kernel_rfl) (by kernel_rfl) (fun _ _ _ h => h) ⟨Or.inl ⟨by rfl, by intro w_; go_simp⟩, fun _ => rfl⟩ ?_
   refine wpAnyIn_ready (rs := [1,3,5]) (by kernel_rfl) (by simp) ?_
   refine AllReadyIn.cons rfl (fun K hK => ?_) ?_
   ·
    go_simp
    refine hK _ _ ?_
    clear hK K
    refine wpAnyIn_ready (rs := [3,5]) (by kernel_rfl) (by simp) ?_
    refine AllReadyIn.cons rfl (fun K hK => ?_) ?_
    ·
     go_simp
     refine hK _ _ ?_
     clear hK K
     refine wpAnyIn_ready (rs := [5]) (by kernel_rfl) (by simp) ?_
     refine AllReadyIn.cons rfl (fun K hK => ?_) ?_
     ·
      go_simp
      refine hK _ _ ?_
      clear hK K
      refine wpAnyIn_take (i := 7) (v := .pointer (some ⟨g, k, none⟩)) rfl rfl (by kernel_rfl) (by kernel_rfl) (by kernel_rfl) (fun _ _ _ h => h) ⟨Or.inl ⟨by rfl, by intro w_; go_simp⟩, fun _ => rfl⟩ ?_
      refine wpAnyIn_ready (rs := [8]) (by kernel_rfl) (by simp) ?_
      refine AllReadyIn.cons rfl (fun K hK => ?_) ?_
      ·
       go_simp
       refine hK _ _ ?_
       clear hK K
       refine wpAnyIn_ready (rs := [9]) (by kernel_rfl) (by simp) ?_
       refine AllReadyIn.cons rfl (fun K hK => ?_) ?_
       ·
        go_simp
        refine ⟨trivial, (callsIn_wide.2 (HBY.out y _)).mono ?_⟩
        rintro e w' ⟨rfl, rfl⟩
        refine hK _ _ ?_
        clear hK K
        refine wpAnyIn_take (i := 10) (v := .tuple #[.int .i64 (one y).1, .int .i64 (one y).2]) rfl rfl (by kernel_rfl) (by kernel_rfl) (by kernel_rfl) (fun _ _ _ h => h) ⟨Or.inl ⟨by rfl, by intro w_; go_simp⟩, fun _ => rfl⟩ ?_
        refine wpAnyIn_take (i := 11) (v := .int .i64 (one y).1) rfl rfl (by kernel_rfl) (by kernel_rfl) (by kernel_rfl) (fun _ _ _ h => h) ⟨Or.inl ⟨by rfl, by intro w_; go_simp⟩, fun _ => rfl⟩ ?_
        refine wpAnyIn_take (i := 12) (v := .int .i64 (one y).2) rfl rfl (by kernel_rfl) (by kernel_rfl) (by kernel_rfl) (fun _ _ _ h => h) ⟨Or.inl ⟨by rfl, by intro w_; go_simp⟩, fun _ => rfl⟩ ?_
        refine wpAnyIn_take (i := 13) (v := .pointer (some ⟨g, k, none⟩)) rfl rfl (by kernel_rfl) (by kernel_rfl) (by kernel_rfl) (fun _ _ _ h => h) ⟨Or.inl ⟨by rfl, by intro w_; go_simp⟩, fun _ => rfl⟩ ?_
        refine wpAnyIn_ready (rs := [14]) (by kernel_rfl) (by simp) ?_
        refine AllReadyIn.cons rfl (fun K hK => ?_) ?_
        ·
         go_simp
         refine hK _ _ ?_
         clear hK K
         refine wpAnyIn_ready (rs := [15]) (by kernel_rfl) (by simp) ?_
         refine AllReadyIn.cons rfl (fun K hK => ?_) ?_
         ·
          go_simp
          refine hK _ _ ?_
          clear hK K
          refine wpAnyIn_done (by kernel_rfl) ?_ _
          exact hl_
         exact AllReadyIn.nil
        exact AllReadyIn.nil
       exact AllReadyIn.nil
      exact AllReadyIn.nil
     exact AllReadyIn.nil
    refine AllReadyIn.cons rfl (fun K hK => ?_) ?_
    ·
     go_simp
     refine hK _ _ ?_
     clear hK K
     refine wpAnyIn_take (i := 7) (v := .pointer (some ⟨g, k, none⟩)) rfl rfl (by kernel_rfl) (by kernel_rfl) (by kernel_rfl) (fun _ _ _ h => h) ⟨Or.inl ⟨by rfl, by intro w_; go_simp⟩, fun _ => rfl⟩ ?_
     refine wpAnyIn_ready (rs := [3,8]) (by kernel_rfl) (by simp) ?_
     refine AllReadyIn.cons rfl (fun K hK => ?_) ?_
     ·
      go_simp
      refine hK _ _ ?_
      clear hK K
      refine wpAnyIn_ready (rs := [8]) (by kernel_rfl) (by simp) ?_
      refine AllReadyIn.cons rfl (fun K hK => ?_) ?_
      ·
       go_simp
       refine hK _ _ ?_
       clear hK K
       refine wpAnyIn_ready (rs := [9]) (by kernel_rfl) (by simp) ?_
       refine AllReadyIn.cons rfl (fun K hK => ?_) ?_
       ·
        go_simp
        refine ⟨trivial, (callsIn_wide.2 (HBY.out y _)).mono ?_⟩
        rintro e w' ⟨rfl, rfl⟩
        refine hK _ _ ?_
        clear hK K
        refine wpAnyIn_take (i := 10) (v := .tuple #[.int .i64 (one y).1, .int .i64 (one y).2]) rfl rfl (by kernel_rfl) (by kernel_rfl) (by kernel_rfl) (fun _ _ _ h => h) ⟨Or.inl ⟨by rfl, by intro w_; go_simp⟩, fun _ => rfl⟩ ?_
        refine wpAnyIn_take (i := 11) (v := .int .i64 (one y).1) rfl rfl (by kernel_rfl) (by kernel_rfl) (by kernel_rfl) (fun _ _ _ h => h) ⟨Or.inl ⟨by rfl, by intro w_; go_simp⟩, fun _ => rfl⟩ ?_
        refine wpAnyIn_take (i := 12) (v := .int .i64 (one y).2) rfl rfl (by kernel_rfl) (by kernel_rfl) (by kernel_rfl) (fun _ _ _ h => h) ⟨Or.inl ⟨by rfl, by intro w_; go_simp⟩, fun _ => rfl⟩ ?_
        refine wpAnyIn_take (i := 13) (v := .pointer (some ⟨g, k, none⟩)) rfl rfl (by kernel_rfl) (by kernel_rfl) (by kernel_rfl) (fun _ _ _ h => h) ⟨Or.inl ⟨by rfl, by intro w_; go_simp⟩, fun _ => rfl⟩ ?_
        refine wpAnyIn_ready (rs := [14]) (by kernel_rfl) (by simp) ?_
        refine AllReadyIn.cons rfl (fun K hK => ?_) ?_
        ·
         go_simp
         refine hK _ _ ?_
         clear hK K
         refine wpAnyIn_ready (rs := [15]) (by kernel_rfl) (by simp) ?_
         refine AllReadyIn.cons rfl (fun K hK => ?_) ?_
         ·
          go_simp
          refine hK _ _ ?_
          clear hK K
          refine wpAnyIn_done (by kernel_rfl) ?_ _
          exact hl_
         exact AllReadyIn.nil
        exact AllReadyIn.nil
       exact AllReadyIn.nil
      exact AllReadyIn.nil
     refine AllReadyIn.cons rfl (fun K hK => ?_) ?_
     ·
      go_simp
      refine hK _ _ ?_
      clear hK K
      refine wpAnyIn_ready (rs := [3]) (by kernel_rfl) (by simp) ?_
      refine AllReadyIn.cons rfl (fun K hK => ?_) ?_
      ·
       go_simp
       refine hK _ _ ?_
       clear hK K
       refine wpAnyIn_ready (rs := [9]) (by kernel_rfl) (by simp) ?_
       refine AllReadyIn.cons rfl (fun K hK => ?_) ?_
       ·
        go_simp
        refine ⟨trivial, (callsIn_wide.2 (HBY.out y _)).mono ?_⟩
        rintro e w' ⟨rfl, rfl⟩
        refine hK _ _ ?_
        clear hK K
        refine wpAnyIn_take (i := 10) (v := .tuple #[.int .i64 (one y).1, .int .i64 (one y).2]) rfl rfl (by kernel_rfl) (by kernel_rfl) (by kernel_rfl) (fun _ _ _ h => h) ⟨Or.inl ⟨by rfl, by intro w_; go_simp⟩, fun _ => rfl⟩ ?_
        refine wpAnyIn_take (i := 11) (v := .int .i64 (one y).1) rfl rfl (by kernel_rfl) (by kernel_rfl) (by kernel_rfl) (fun _ _ _ h => h) ⟨Or.inl ⟨by rfl, by intro w_; go_simp⟩, fun _ => rfl⟩ ?_
        refine wpAnyIn_take (i := 12) (v := .int .i64 (one y).2) rfl rfl (by kernel_rfl) (by kernel_rfl) (by kernel_rfl) (fun _ _ _ h => h) ⟨Or.inl ⟨by rfl, by intro w_; go_simp⟩, fun _ => rfl⟩ ?_
        refine wpAnyIn_take (i := 13) (v := .pointer (some ⟨g, k, none⟩)) rfl rfl (by kernel_rfl) (by kernel_rfl) (by kernel_rfl) (fun _ _ _ h => h) ⟨Or.inl ⟨by rfl, by intro w_; go_simp⟩, fun _ => rfl⟩ ?_
        refine wpAnyIn_ready (rs := [14]) (by kernel_rfl) (by simp) ?_
        refine AllReadyIn.cons rfl (fun K hK => ?_) ?_
        ·
         go_simp
         refine hK _ _ ?_
         clear hK K
         refine wpAnyIn_ready (rs := [15]) (by kernel_rfl) (by simp) ?_
         refine AllReadyIn.cons rfl (fun K hK => ?_) ?_
         ·
          go_simp
          refine hK _ _ ?_
          clear hK K
          refine wpAnyIn_done (by kernel_rfl) ?_ _
          exact hl_
         exact AllReadyIn.nil
        exact AllReadyIn.nil
       exact AllReadyIn.nil
      exact AllReadyIn.nil
     exact AllReadyIn.nil
    exact AllReadyIn.nil
   refine AllReadyIn.cons rfl (fun K hK => ?_) ?_
   ·
    go_simp
    refine hK _ _ ?_
    clear hK K
    refine wpAnyIn_ready (rs := [1,5]) (by kernel_rfl) (by simp) ?_
    refine AllReadyIn.cons rfl (fun K hK => ?_) ?_
    ·
     go_simp
     refine hK _ _ ?_
     clear hK K
     refine wpAnyIn_ready (rs := [5]) (by kernel_rfl) (by simp) ?_
     refine AllReadyIn.cons rfl (fun K hK => ?_) ?_
     ·
      go_simp
      refine hK _ _ ?_
      clear hK K
      refine wpAnyIn_take (i := 7) (v := .pointer (some ⟨g, k, none⟩)) rfl rfl (by kernel_rfl) (by kernel_rfl) (by kernel_rfl) (fun _ _ _ h => h) ⟨Or.inl ⟨by rfl, by intro w_; go_simp⟩, fun _ => rfl⟩ ?_
      refine wpAnyIn_ready (rs := [8]) (by kernel_rfl) (by simp) ?_
      refine AllReadyIn.cons rfl (fun K hK => ?_) ?_
      ·
       go_simp
       refine hK _ _ ?_
       clear hK K
       refine wpAnyIn_ready (rs := [9]) (by kernel_rfl) (by simp) ?_
       refine AllReadyIn.cons rfl (fun K hK => ?_) ?_
       ·
        go_simp
        refine ⟨trivial, (callsIn_wide.2 (HBY.out y _)).mono ?_⟩
        rintro e w' ⟨rfl, rfl⟩
        refine hK _ _ ?_
        clear hK K
        refine wpAnyIn_take (i := 10) (v := .tuple #[.int .i64 (one y).1, .int .i64 (one y).2]) rfl rfl (by kernel_rfl) (by kernel_rfl) (by kernel_rfl) (fun _ _ _ h => h) ⟨Or.inl ⟨by rfl, by intro w_; go_simp⟩, fun _ => rfl⟩ ?_
        refine wpAnyIn_take (i := 11) (v := .int .i64 (one y).1) rfl rfl (by kernel_rfl) (by kernel_rfl) (by kernel_rfl) (fun _ _ _ h => h) ⟨Or.inl ⟨by rfl, by intro w_; go_simp⟩, fun _ => rfl⟩ ?_
        refine wpAnyIn_take (i := 12) (v := .int .i64 (one y).2) rfl rfl (by kernel_rfl) (by kernel_rfl) (by kernel_rfl) (fun _ _ _ h => h) ⟨Or.inl ⟨by rfl, by intro w_; go_simp⟩, fun _ => rfl⟩ ?_
        refine wpAnyIn_take (i := 13) (v := .pointer (some ⟨g, k, none⟩)) rfl rfl (by kernel_rfl) (by kernel_rfl) (by kernel_rfl) (fun _ _ _ h => h) ⟨Or.inl ⟨by rfl, by intro w_; go_simp⟩, fun _ => rfl⟩ ?_
        refine wpAnyIn_ready (rs := [14]) (by kernel_rfl) (by simp) ?_
        refine AllReadyIn.cons rfl (fun K hK => ?_) ?_
        ·
         go_simp
         refine hK _ _ ?_
         clear hK K
         refine wpAnyIn_ready (rs := [15]) (by kernel_rfl) (by simp) ?_
         refine AllReadyIn.cons rfl (fun K hK => ?_) ?_
         ·
          go_simp
          refine hK _ _ ?_
          clear hK K
          refine wpAnyIn_done (by kernel_rfl) ?_ _
          exact hl_
         exact AllReadyIn.nil
        exact AllReadyIn.nil
       exact AllReadyIn.nil
      exact AllReadyIn.nil
     exact AllReadyIn.nil
    refine AllReadyIn.cons rfl (fun K hK => ?_) ?_
    ·
     go_simp
     refine hK _ _ ?_
     clear hK K
     refine wpAnyIn_take (i := 7) (v := .pointer (some ⟨g, k, none⟩)) rfl rfl (by kernel_rfl) (by kernel_rfl) (by kernel_rfl) (fun _ _ _ h => h) ⟨Or.inl ⟨by rfl, by intro w_; go_simp⟩, fun _ => rfl⟩ ?_
     refine wpAnyIn_ready (rs := [1,8]) (by kernel_rfl) (by simp) ?_
     refine AllReadyIn.cons rfl (fun K hK => ?_) ?_
     ·
      go_simp
      refine hK _ _ ?_
      clear hK K
      refine wpAnyIn_ready (rs := [8]) (by kernel_rfl) (by simp) ?_
      refine AllReadyIn.cons rfl (fun K hK => ?_) ?_
      ·
       go_simp
       refine hK _ _ ?_
       clear hK K
       refine wpAnyIn_ready (rs := [9]) (by kernel_rfl) (by simp) ?_
       refine AllReadyIn.cons rfl (fun K hK => ?_) ?_
       ·
        go_simp
        refine ⟨trivial, (callsIn_wide.2 (HBY.out y _)).mono ?_⟩
        rintro e w' ⟨rfl, rfl⟩
        refine hK _ _ ?_
        clear hK K
        refine wpAnyIn_take (i := 10) (v := .tuple #[.int .i64 (one y).1, .int .i64 (one y).2]) rfl rfl (by kernel_rfl) (by kernel_rfl) (by kernel_rfl) (fun _ _ _ h => h) ⟨Or.inl ⟨by rfl, by intro w_; go_simp⟩, fun _ => rfl⟩ ?_
        refine wpAnyIn_take (i := 11) (v := .int .i64 (one y).1) rfl rfl (by kernel_rfl) (by kernel_rfl) (by kernel_rfl) (fun _ _ _ h => h) ⟨Or.inl ⟨by rfl, by intro w_; go_simp⟩, fun _ => rfl⟩ ?_
        refine wpAnyIn_take (i := 12) (v := .int .i64 (one y).2) rfl rfl (by kernel_rfl) (by kernel_rfl) (by kernel_rfl) (fun _ _ _ h => h) ⟨Or.inl ⟨by rfl, by intro w_; go_simp⟩, fun _ => rfl⟩ ?_
        refine wpAnyIn_take (i := 13) (v := .pointer (some ⟨g, k, none⟩)) rfl rfl (by kernel_rfl) (by kernel_rfl) (by kernel_rfl) (fun _ _ _ h => h) ⟨Or.inl ⟨by rfl, by intro w_; go_simp⟩, fun _ => rfl⟩ ?_
        refine wpAnyIn_ready (rs := [14]) (by kernel_rfl) (by simp) ?_
        refine AllReadyIn.cons rfl (fun K hK => ?_) ?_
        ·
         go_simp
         refine hK _ _ ?_
         clear hK K
         refine wpAnyIn_ready (rs := [15]) (by kernel_rfl) (by simp) ?_
         refine AllReadyIn.cons rfl (fun K hK => ?_) ?_
         ·
          go_simp
          refine hK _ _ ?_
          clear hK K
          refine wpAnyIn_done (by kernel_rfl) ?_ _
          exact hl_
         exact AllReadyIn.nil
        exact AllReadyIn.nil
       exact AllReadyIn.nil
      exact AllReadyIn.nil
     refine AllReadyIn.cons rfl (fun K hK => ?_) ?_
     ·
      go_simp
      refine hK _ _ ?_
      clear hK K
      refine wpAnyIn_ready (rs := [1,9]) (by kernel_rfl) (by simp) ?_
      refine AllReadyIn.cons rfl (fun K hK => ?_) ?_
      ·
       go_simp
       refine hK _ _ ?_
       clear hK K
       refine wpAnyIn_ready (rs := [9]) (by kernel_rfl) (by simp) ?_
       refine AllReadyIn.cons rfl (fun K hK => ?_) ?_
       ·
        go_simp
        refine ⟨trivial, (callsIn_wide.2 (HBY.out y _)).mono ?_⟩
        rintro e w' ⟨rfl, rfl⟩
        refine hK _ _ ?_
        clear hK K
        refine wpAnyIn_take (i := 10) (v := .tuple #[.int .i64 (one y).1, .int .i64 (one y).2]) rfl rfl (by kernel_rfl) (by kernel_rfl) (by kernel_rfl) (fun _ _ _ h => h) ⟨Or.inl ⟨by rfl, by intro w_; go_simp⟩, fun _ => rfl⟩ ?_
        refine wpAnyIn_take (i := 11) (v := .int .i64 (one y).1) rfl rfl (by kernel_rfl) (by kernel_rfl) (by kernel_rfl) (fun _ _ _ h => h) ⟨Or.inl ⟨by rfl, by intro w_; go_simp⟩, fun _ => rfl⟩ ?_
        refine wpAnyIn_take (i := 12) (v := .int .i64 (one y).2) rfl rfl (by kernel_rfl) (by kernel_rfl) (by kernel_rfl) (fun _ _ _ h => h) ⟨Or.inl ⟨by rfl, by intro w_; go_simp⟩, fun _ => rfl⟩ ?_
        refine wpAnyIn_take (i := 13) (v := .pointer (some ⟨g, k, none⟩)) rfl rfl (by kernel_rfl) (by kernel_rfl) (by kernel_rfl) (fun _ _ _ h => h) ⟨Or.inl ⟨by rfl, by intro w_; go_simp⟩, fun _ => rfl⟩ ?_
        refine wpAnyIn_ready (rs := [14]) (by kernel_rfl) (by simp) ?_
        refine AllReadyIn.cons rfl (fun K hK => ?_) ?_
        ·
         go_simp
         refine hK _ _ ?_
         clear hK K
         refine wpAnyIn_ready (rs := [15]) (by kernel_rfl) (by simp) ?_
         refine AllReadyIn.cons rfl (fun K hK => ?_) ?_
         ·
          go_simp
          refine hK _ _ ?_
          clear hK K
          refine wpAnyIn_done (by kernel_rfl) ?_ _
          exact hl_
         exact AllReadyIn.nil
        exact AllReadyIn.nil
       exact AllReadyIn.nil
      refine AllReadyIn.cons rfl (fun K hK => ?_) ?_
      ·
       go_simp
       refine ⟨trivial, (callsIn_wide.2 (HBY.out y _)).mono ?_⟩
       rintro e w' ⟨rfl, rfl⟩
       refine hK _ _ ?_
       clear hK K
       refine wpAnyIn_take (i := 10) (v := .tuple #[.int .i64 (one y).1, .int .i64 (one y).2]) rfl rfl (by kernel_rfl) (by kernel_rfl) (by kernel_rfl) (fun _ _ _ h => h) ⟨Or.inl ⟨by rfl, by intro w_; go_simp⟩, fun _ => rfl⟩ ?_
       refine wpAnyIn_take (i := 11) (v := .int .i64 (one y).1) rfl rfl (by kernel_rfl) (by kernel_rfl) (by kernel_rfl) (fun _ _ _ h => h) ⟨Or.inl ⟨by rfl, by intro w_; go_simp⟩, fun _ => rfl⟩ ?_
       refine wpAnyIn_take (i := 12) (v := .int .i64 (one y).2) rfl rfl (by kernel_rfl) (by kernel_rfl) (by kernel_rfl) (fun _ _ _ h => h) ⟨Or.inl ⟨by rfl, by intro w_; go_simp⟩, fun _ => rfl⟩ ?_
       refine wpAnyIn_ready (rs := [1]) (by kernel_rfl) (by simp) ?_
       refine AllReadyIn.cons rfl (fun K hK => ?_) ?_
       ·
        go_simp
        refine hK _ _ ?_
        clear hK K
        refine wpAnyIn_take (i := 13) (v := .pointer (some ⟨g, k, none⟩)) rfl rfl (by kernel_rfl) (by kernel_rfl) (by kernel_rfl) (fun _ _ _ h => h) ⟨Or.inl ⟨by rfl, by intro w_; go_simp⟩, fun _ => rfl⟩ ?_
        refine wpAnyIn_ready (rs := [14]) (by kernel_rfl) (by simp) ?_
        refine AllReadyIn.cons rfl (fun K hK => ?_) ?_
        ·
         go_simp
         refine hK _ _ ?_
         clear hK K
         refine wpAnyIn_ready (rs := [15]) (by kernel_rfl) (by simp) ?_
         refine AllReadyIn.cons rfl (fun K hK => ?_) ?_
         ·
          go_simp
          refine hK _ _ ?_
          clear hK K
          refine wpAnyIn_done (by kernel_rfl) ?_ _
          exact hl_
         exact AllReadyIn.nil
        exact AllReadyIn.nil
       exact AllReadyIn.nil
      exact AllReadyIn.nil
     exact AllReadyIn.nil
    exact AllReadyIn.nil
   refine AllReadyIn.cons rfl (fun K hK => ?_) ?_
   ·
    go_simp
    refine hK _ _ ?_
    clear hK K
    refine wpAnyIn_take (i := 7) (v := .pointer (some ⟨g, k, none⟩)) rfl rfl (by kernel_rfl) (by kernel_rfl) (by kernel_rfl) (fun _ _ _ h => h) ⟨Or.inl ⟨by rfl, by intro w_; go_simp⟩, fun _ => rfl⟩ ?_
    refine wpAnyIn_ready (rs := [1,3,8]) (by kernel_rfl) (by simp) ?_
    refine AllReadyIn.cons rfl (fun K hK => ?_) ?_
    ·
     go_simp
     refine hK _ _ ?_
     clear hK K
     refine wpAnyIn_ready (rs := [3,8]) (by kernel_rfl) (by simp) ?_
     refine AllReadyIn.cons rfl (fun K hK => ?_) ?_
     ·
      go_simp
      refine hK _ _ ?_
      clear hK K
      refine wpAnyIn_ready (rs := [8]) (by kernel_rfl) (by simp) ?_
      refine AllReadyIn.cons rfl (fun K hK => ?_) ?_
      ·
       go_simp
       refine hK _ _ ?_
       clear hK K
       refine wpAnyIn_ready (rs := [9]) (by kernel_rfl) (by simp) ?_
       refine AllReadyIn.cons rfl (fun K hK => ?_) ?_
       ·
        go_simp
        refine ⟨trivial, (callsIn_wide.2 (HBY.out y _)).mono ?_⟩
        rintro e w' ⟨rfl, rfl⟩
        refine hK _ _ ?_
        clear hK K
        refine wpAnyIn_take (i := 10) (v := .tuple #[.int .i64 (one y).1, .int .i64 (one y).2]) rfl rfl (by kernel_rfl) (by kernel_rfl) (by kernel_rfl) (fun _ _ _ h => h) ⟨Or.inl ⟨by rfl, by intro w_; go_simp⟩, fun _ => rfl⟩ ?_
        refine wpAnyIn_take (i := 11) (v := .int .i64 (one y).1) rfl rfl (by kernel_rfl) (by kernel_rfl) (by kernel_rfl) (fun _ _ _ h => h) ⟨Or.inl ⟨by rfl, by intro w_; go_simp⟩, fun _ => rfl⟩ ?_
        refine wpAnyIn_take (i := 12) (v := .int .i64 (one y).2) rfl rfl (by kernel_rfl) (by kernel_rfl) (by kernel_rfl) (fun _ _ _ h => h) ⟨Or.inl ⟨by rfl, by intro w_; go_simp⟩, fun _ => rfl⟩ ?_
        refine wpAnyIn_take (i := 13) (v := .pointer (some ⟨g, k, none⟩)) rfl rfl (by kernel_rfl) (by kernel_rfl) (by kernel_rfl) (fun _ _ _ h => h) ⟨Or.inl ⟨by rfl, by intro w_; go_simp⟩, fun _ => rfl⟩ ?_
        refine wpAnyIn_ready (rs := [14]) (by kernel_rfl) (by simp) ?_
        refine AllReadyIn.cons rfl (fun K hK => ?_) ?_
        ·
         go_simp
         refine hK _ _ ?_
         clear hK K
         refine wpAnyIn_ready (rs := [15]) (by kernel_rfl) (by simp) ?_
         refine AllReadyIn.cons rfl (fun K hK => ?_) ?_
         ·
          go_simp
          refine hK _ _ ?_
          clear hK K
          refine wpAnyIn_done (by kernel_rfl) ?_ _
          exact hl_
         exact AllReadyIn.nil
        exact AllReadyIn.nil
       exact AllReadyIn.nil
      exact AllReadyIn.nil
     refine AllReadyIn.cons rfl (fun K hK => ?_) ?_
     ·
      go_simp
      refine hK _ _ ?_
      clear hK K
      refine wpAnyIn_ready (rs := [3]) (by kernel_rfl) (by simp) ?_
      refine AllReadyIn.cons rfl (fun K hK => ?_) ?_
      ·
       go_simp
       refine hK _ _ ?_
       clear hK K
       refine wpAnyIn_ready (rs := [9]) (by kernel_rfl) (by simp) ?_
       refine AllReadyIn.cons rfl (fun K hK => ?_) ?_
       ·
        go_simp
        refine ⟨trivial, (callsIn_wide.2 (HBY.out y _)).mono ?_⟩
        rintro e w' ⟨rfl, rfl⟩
        refine hK _ _ ?_
        clear hK K
        refine wpAnyIn_take (i := 10) (v := .tuple #[.int .i64 (one y).1, .int .i64 (one y).2]) rfl rfl (by kernel_rfl) (by kernel_rfl) (by kernel_rfl) (fun _ _ _ h => h) ⟨Or.inl ⟨by rfl, by intro w_; go_simp⟩, fun _ => rfl⟩ ?_
        refine wpAnyIn_take (i := 11) (v := .int .i64 (one y).1) rfl rfl (by kernel_rfl) (by kernel_rfl) (by kernel_rfl) (fun _ _ _ h => h) ⟨Or.inl ⟨by rfl, by intro w_; go_simp⟩, fun _ => rfl⟩ ?_
        refine wpAnyIn_take (i := 12) (v := .int .i64 (one y).2) rfl rfl (by kernel_rfl) (by kernel_rfl) (by kernel_rfl) (fun _ _ _ h => h) ⟨Or.inl ⟨by rfl, by intro w_; go_simp⟩, fun _ => rfl⟩ ?_
        refine wpAnyIn_take (i := 13) (v := .pointer (some ⟨g, k, none⟩)) rfl rfl (by kernel_rfl) (by kernel_rfl) (by kernel_rfl) (fun _ _ _ h => h) ⟨Or.inl ⟨by rfl, by intro w_; go_simp⟩, fun _ => rfl⟩ ?_
        refine wpAnyIn_ready (rs := [14]) (by kernel_rfl) (by simp) ?_
        refine AllReadyIn.cons rfl (fun K hK => ?_) ?_
        ·
         go_simp
         refine hK _ _ ?_
         clear hK K
         refine wpAnyIn_ready (rs := [15]) (by kernel_rfl) (by simp) ?_
         refine AllReadyIn.cons rfl (fun K hK => ?_) ?_
         ·
          go_simp
          refine hK _ _ ?_
          clear hK K
          refine wpAnyIn_done (by kernel_rfl) ?_ _
          exact hl_
         exact AllReadyIn.nil
        exact AllReadyIn.nil
       exact AllReadyIn.nil
      exact AllReadyIn.nil
     exact AllReadyIn.nil
    refine AllReadyIn.cons rfl (fun K hK => ?_) ?_
    ·
     go_simp
     refine hK _ _ ?_
     clear hK K
     refine wpAnyIn_ready (rs := [1,8]) (by kernel_rfl) (by simp) ?_
     refine AllReadyIn.cons rfl (fun K hK => ?_) ?_
     ·
      go_simp
      refine hK _ _ ?_
      clear hK K
      refine wpAnyIn_ready (rs := [8]) (by kernel_rfl) (by simp) ?_
      refine AllReadyIn.cons rfl (fun K hK => ?_) ?_
      ·
       go_simp
       refine hK _ _ ?_
       clear hK K
       refine wpAnyIn_ready (rs := [9]) (by kernel_rfl) (by simp) ?_
       refine AllReadyIn.cons rfl (fun K hK => ?_) ?_
       ·
        go_simp
        refine ⟨trivial, (callsIn_wide.2 (HBY.out y _)).mono ?_⟩
        rintro e w' ⟨rfl, rfl⟩
        refine hK _ _ ?_
        clear hK K
        refine wpAnyIn_take (i := 10) (v := .tuple #[.int .i64 (one y).1, .int .i64 (one y).2]) rfl rfl (by kernel_rfl) (by kernel_rfl) (by kernel_rfl) (fun _ _ _ h => h) ⟨Or.inl ⟨by rfl, by intro w_; go_simp⟩, fun _ => rfl⟩ ?_
        refine wpAnyIn_take (i := 11) (v := .int .i64 (one y).1) rfl rfl (by kernel_rfl) (by kernel_rfl) (by kernel_rfl) (fun _ _ _ h => h) ⟨Or.inl ⟨by rfl, by intro w_; go_simp⟩, fun _ => rfl⟩ ?_
        refine wpAnyIn_take (i := 12) (v := .int .i64 (one y).2) rfl rfl (by kernel_rfl) (by kernel_rfl) (by kernel_rfl) (fun _ _ _ h => h) ⟨Or.inl ⟨by rfl, by intro w_; go_simp⟩, fun _ => rfl⟩ ?_
        refine wpAnyIn_take (i := 13) (v := .pointer (some ⟨g, k, none⟩)) rfl rfl (by kernel_rfl) (by kernel_rfl) (by kernel_rfl) (fun _ _ _ h => h) ⟨Or.inl ⟨by rfl, by intro w_; go_simp⟩, fun _ => rfl⟩ ?_
        refine wpAnyIn_ready (rs := [14]) (by kernel_rfl) (by simp) ?_
        refine AllReadyIn.cons rfl (fun K hK => ?_) ?_
        ·
         go_simp
         refine hK _ _ ?_
         clear hK K
         refine wpAnyIn_ready (rs := [15]) (by kernel_rfl) (by simp) ?_
         refine AllReadyIn.cons rfl (fun K hK => ?_) ?_
         ·
          go_simp
          refine hK _ _ ?_
          clear hK K
          refine wpAnyIn_done (by kernel_rfl) ?_ _
          exact hl_
         exact AllReadyIn.nil
        exact AllReadyIn.nil
       exact AllReadyIn.nil
      exact AllReadyIn.nil
     refine AllReadyIn.cons rfl (fun K hK => ?_) ?_
     ·
      go_simp
      refine hK _ _ ?_
      clear hK K
      refine wpAnyIn_ready (rs := [1,9]) (by kernel_rfl) (by simp) ?_
      refine AllReadyIn.cons rfl (fun K hK => ?_) ?_
      ·
       go_simp
       refine hK _ _ ?_
       clear hK K
       refine wpAnyIn_ready (rs := [9]) (by kernel_rfl) (by simp) ?_
       refine AllReadyIn.cons rfl (fun K hK => ?_) ?_
       ·
        go_simp
        refine ⟨trivial, (callsIn_wide.2 (HBY.out y _)).mono ?_⟩
        rintro e w' ⟨rfl, rfl⟩
        refine hK _ _ ?_
        clear hK K
        refine wpAnyIn_take (i := 10) (v := .tuple #[.int .i64 (one y).1, .int .i64 (one y).2]) rfl rfl (by kernel_rfl) (by kernel_rfl) (by kernel_rfl) (fun _ _ _ h => h) ⟨Or.inl ⟨by rfl, by intro w_; go_simp⟩, fun _ => rfl⟩ ?_
        refine wpAnyIn_take (i := 11) (v := .int .i64 (one y).1) rfl rfl (by kernel_rfl) (by kernel_rfl) (by kernel_rfl) (fun _ _ _ h => h) ⟨Or.inl ⟨by rfl, by intro w_; go_simp⟩, fun _ => rfl⟩ ?_
        refine wpAnyIn_take (i := 12) (v := .int .i64 (one y).2) rfl rfl (by kernel_rfl) (by kernel_rfl) (by kernel_rfl) (fun _ _ _ h => h) ⟨Or.inl ⟨by rfl, by intro w_; go_simp⟩, fun _ => rfl⟩ ?_
        refine wpAnyIn_take (i := 13) (v := .pointer (some ⟨g, k, none⟩)) rfl rfl (by kernel_rfl) (by kernel_rfl) (by kernel_rfl) (fun _ _ _ h => h) ⟨Or.inl ⟨by rfl, by intro w_; go_simp⟩, fun _ => rfl⟩ ?_
        refine wpAnyIn_ready (rs := [14]) (by kernel_rfl) (by simp) ?_
        refine AllReadyIn.cons rfl (fun K hK => ?_) ?_
        ·
         go_simp
         refine hK _ _ ?_
         clear hK K
         refine wpAnyIn_ready (rs := [15]) (by kernel_rfl) (by simp) ?_
         refine AllReadyIn.cons rfl (fun K hK => ?_) ?_
         ·
          go_simp
          refine hK _ _ ?_
          clear hK K
          refine wpAnyIn_done (by kernel_rfl) ?_ _
          exact hl_
         exact AllReadyIn.nil
        exact AllReadyIn.nil
       exact AllReadyIn.nil
      refine AllReadyIn.cons rfl (fun K hK => ?_) ?_
      ·
       go_simp
       refine ⟨trivial, (callsIn_wide.2 (HBY.out y _)).mono ?_⟩
       rintro e w' ⟨rfl, rfl⟩
       refine hK _ _ ?_
       clear hK K
       refine wpAnyIn_take (i := 10) (v := .tuple #[.int .i64 (one y).1, .int .i64 (one y).2]) rfl rfl (by kernel_rfl) (by kernel_rfl) (by kernel_rfl) (fun _ _ _ h => h) ⟨Or.inl ⟨by rfl, by intro w_; go_simp⟩, fun _ => rfl⟩ ?_
       refine wpAnyIn_take (i := 11) (v := .int .i64 (one y).1) rfl rfl (by kernel_rfl) (by kernel_rfl) (by kernel_rfl) (fun _ _ _ h => h) ⟨Or.inl ⟨by rfl, by intro w_; go_simp⟩, fun _ => rfl⟩ ?_
       refine wpAnyIn_take (i := 12) (v := .int .i64 (one y).2) rfl rfl (by kernel_rfl) (by kernel_rfl) (by kernel_rfl) (fun _ _ _ h => h) ⟨Or.inl ⟨by rfl, by intro w_; go_simp⟩, fun _ => rfl⟩ ?_
       refine wpAnyIn_ready (rs := [1]) (by kernel_rfl) (by simp) ?_
       refine AllReadyIn.cons rfl (fun K hK => ?_) ?_
       ·
        go_simp
        refine hK _ _ ?_
        clear hK K
        refine wpAnyIn_take (i := 13) (v := .pointer (some ⟨g, k, none⟩)) rfl rfl (by kernel_rfl) (by kernel_rfl) (by kernel_rfl) (fun _ _ _ h => h) ⟨Or.inl ⟨by rfl, by intro w_; go_simp⟩, fun _ => rfl⟩ ?_
        refine wpAnyIn_ready (rs := [14]) (by kernel_rfl) (by simp) ?_
        refine AllReadyIn.cons rfl (fun K hK => ?_) ?_
        ·
         go_simp
         refine hK _ _ ?_
         clear hK K
         refine wpAnyIn_ready (rs := [15]) (by kernel_rfl) (by simp) ?_
         refine AllReadyIn.cons rfl (fun K hK => ?_) ?_
         ·
          go_simp
          refine hK _ _ ?_
          clear hK K
          refine wpAnyIn_done (by kernel_rfl) ?_ _
          exact hl_
         exact AllReadyIn.nil
        exact AllReadyIn.nil
       exact AllReadyIn.nil
      exact AllReadyIn.nil
     exact AllReadyIn.nil
    refine AllReadyIn.cons rfl (fun K hK => ?_) ?_
    ·
     go_simp
     refine hK _ _ ?_
     clear hK K
     refine wpAnyIn_ready (rs := [1,3]) (by kernel_rfl) (by simp) ?_
     refine AllReadyIn.cons rfl (fun K hK => ?_) ?_
     ·
      go_simp
      refine hK _ _ ?_
      clear hK K
      refine wpAnyIn_ready (rs := [3]) (by kernel_rfl) (by simp) ?_
      refine AllReadyIn.cons rfl (fun K hK => ?_) ?_
      ·
       go_simp
       refine hK _ _ ?_
       clear hK K
       refine wpAnyIn_ready (rs := [9]) (by kernel_rfl) (by simp) ?_
       refine AllReadyIn.cons rfl (fun K hK => ?_) ?_
       ·
        go_simp
        refine ⟨trivial, (callsIn_wide.2 (HBY.out y _)).mono ?_⟩
        rintro e w' ⟨rfl, rfl⟩
        refine hK _ _ ?_
        clear hK K
        refine wpAnyIn_take (i := 10) (v := .tuple #[.int .i64 (one y).1, .int .i64 (one y).2]) rfl rfl (by kernel_rfl) (by kernel_rfl) (by kernel_rfl) (fun _ _ _ h => h) ⟨Or.inl ⟨by rfl, by intro w_; go_simp⟩, fun _ => rfl⟩ ?_
        refine wpAnyIn_take (i := 11) (v := .int .i64 (one y).1) rfl rfl (by kernel_rfl) (by kernel_rfl) (by kernel_rfl) (fun _ _ _ h => h) ⟨Or.inl ⟨by rfl, by intro w_; go_simp⟩, fun _ => rfl⟩ ?_
        refine wpAnyIn_take (i := 12) (v := .int .i64 (one y).2) rfl rfl (by kernel_rfl) (by kernel_rfl) (by kernel_rfl) (fun _ _ _ h => h) ⟨Or.inl ⟨by rfl, by intro w_; go_simp⟩, fun _ => rfl⟩ ?_
        refine wpAnyIn_take (i := 13) (v := .pointer (some ⟨g, k, none⟩)) rfl rfl (by kernel_rfl) (by kernel_rfl) (by kernel_rfl) (fun _ _ _ h => h) ⟨Or.inl ⟨by rfl, by intro w_; go_simp⟩, fun _ => rfl⟩ ?_
        refine wpAnyIn_ready (rs := [14]) (by kernel_rfl) (by simp) ?_
        refine AllReadyIn.cons rfl (fun K hK => ?_) ?_
        ·
         go_simp
         refine hK _ _ ?_
         clear hK K
         refine wpAnyIn_ready (rs := [15]) (by kernel_rfl) (by simp) ?_
         refine AllReadyIn.cons rfl (fun K hK => ?_) ?_
         ·
          go_simp
          refine hK _ _ ?_
          clear hK K
          refine wpAnyIn_done (by kernel_rfl) ?_ _
          exact hl_
         exact AllReadyIn.nil
        exact AllReadyIn.nil
       exact AllReadyIn.nil
      exact AllReadyIn.nil
     refine AllReadyIn.cons rfl (fun K hK => ?_) ?_
     ·
      go_simp
      refine hK _ _ ?_
      clear hK K
      refine wpAnyIn_ready (rs := [1,9]) (by kernel_rfl) (by simp) ?_
      refine AllReadyIn.cons rfl (fun K hK => ?_) ?_
      ·
       go_simp
       refine hK _ _ ?_
       clear hK K
       refine wpAnyIn_ready (rs := [9]) (by kernel_rfl) (by simp) ?_
       refine AllReadyIn.cons rfl (fun K hK => ?_) ?_
       ·
        go_simp
        refine ⟨trivial, (callsIn_wide.2 (HBY.out y _)).mono ?_⟩
        rintro e w' ⟨rfl, rfl⟩
        refine hK _ _ ?_
        clear hK K
        refine wpAnyIn_take (i := 10) (v := .tuple #[.int .i64 (one y).1, .int .i64 (one y).2]) rfl rfl (by kernel_rfl) (by kernel_rfl) (by kernel_rfl) (fun _ _ _ h => h) ⟨Or.inl ⟨by rfl, by intro w_; go_simp⟩, fun _ => rfl⟩ ?_
        refine wpAnyIn_take (i := 11) (v := .int .i64 (one y).1) rfl rfl (by kernel_rfl) (by kernel_rfl) (by kernel_rfl) (fun _ _ _ h => h) ⟨Or.inl ⟨by rfl, by intro w_; go_simp⟩, fun _ => rfl⟩ ?_
        refine wpAnyIn_take (i := 12) (v := .int .i64 (one y).2) rfl rfl (by kernel_rfl) (by kernel_rfl) (by kernel_rfl) (fun _ _ _ h => h) ⟨Or.inl ⟨by rfl, by intro w_; go_simp⟩, fun _ => rfl⟩ ?_
        refine wpAnyIn_take (i := 13) (v := .pointer (some ⟨g, k, none⟩)) rfl rfl (by kernel_rfl) (by kernel_rfl) (by kernel_rfl) (fun _ _ _ h => h) ⟨Or.inl ⟨by rfl, by intro w_; go_simp⟩, fun _ => rfl⟩ ?_
        refine wpAnyIn_ready (rs := [14]) (by kernel_rfl) (by simp) ?_
        refine AllReadyIn.cons rfl (fun K hK => ?_) ?_
        ·
         go_simp
         refine hK _ _ ?_
         clear hK K
         refine wpAnyIn_ready (rs := [15]) (by kernel_rfl) (by simp) ?_
         refine AllReadyIn.cons rfl (fun K hK => ?_) ?_
         ·
          go_simp
          refine hK _ _ ?_
          clear hK K
          refine wpAnyIn_done (by kernel_rfl) ?_ _
          exact hl_
         exact AllReadyIn.nil
        exact AllReadyIn.nil
       exact AllReadyIn.nil
      refine AllReadyIn.cons rfl (fun K hK => ?_) ?_
      ·
       go_simp
       refine ⟨trivial, (callsIn_wide.2 (HBY.out y _)).mono ?_⟩
       rintro e w' ⟨rfl, rfl⟩
       refine hK _ _ ?_
       clear hK K
       refine wpAnyIn_take (i := 10) (v := .tuple #[.int .i64 (one y).1, .int .i64 (one y).2]) rfl rfl (by kernel_rfl) (by kernel_rfl) (by kernel_rfl) (fun _ _ _ h => h) ⟨Or.inl ⟨by rfl, by intro w_; go_simp⟩, fun _ => rfl⟩ ?_
       refine wpAnyIn_take (i := 11) (v := .int .i64 (one y).1) rfl rfl (by kernel_rfl) (by kernel_rfl) (by kernel_rfl) (fun _ _ _ h => h) ⟨Or.inl ⟨by rfl, by intro w_; go_simp⟩, fun _ => rfl⟩ ?_
       refine wpAnyIn_take (i := 12) (v := .int .i64 (one y).2) rfl rfl (by kernel_rfl) (by kernel_rfl) (by kernel_rfl) (fun _ _ _ h => h) ⟨Or.inl ⟨by rfl, by intro w_; go_simp⟩, fun _ => rfl⟩ ?_
       refine wpAnyIn_ready (rs := [1]) (by kernel_rfl) (by simp) ?_
       refine AllReadyIn.cons rfl (fun K hK => ?_) ?_
       ·
        go_simp
        refine hK _ _ ?_
        clear hK K
        refine wpAnyIn_take (i := 13) (v := .pointer (some ⟨g, k, none⟩)) rfl rfl (by kernel_rfl) (by kernel_rfl) (by kernel_rfl) (fun _ _ _ h => h) ⟨Or.inl ⟨by rfl, by intro w_; go_simp⟩, fun _ => rfl⟩ ?_
        refine wpAnyIn_ready (rs := [14]) (by kernel_rfl) (by simp) ?_
        refine AllReadyIn.cons rfl (fun K hK => ?_) ?_
        ·
         go_simp
         refine hK _ _ ?_
         clear hK K
         refine wpAnyIn_ready (rs := [15]) (by kernel_rfl) (by simp) ?_
         refine AllReadyIn.cons rfl (fun K hK => ?_) ?_
         ·
          go_simp
          refine hK _ _ ?_
          clear hK K
          refine wpAnyIn_done (by kernel_rfl) ?_ _
          exact hl_
         exact AllReadyIn.nil
        exact AllReadyIn.nil
       exact AllReadyIn.nil
      exact AllReadyIn.nil
     exact AllReadyIn.nil
    exact AllReadyIn.nil
   exact AllReadyIn.nil
  case cont =>
   clear c00 c01 c02 c03 c04 f00 f01 f02 f03 f04 c20 f20 cE0 fE0 hxk hxf
   have hg0 := own_base hI0.row g rfl
   have hstep : chgA one (valsG (pre ++ [x])) act = if (one y).2 ≠ 0 then ([], (one y).2) else ((chgA one (valsG pre) act).1.set k (one y).1, 0) := by
    rw [valsG_append, chgA_append one _ _ _ hI0.ok]
    show chgA one [x.1] _ = _
    rw [hk, chgA, ← HYY.out, Int.toNat_natCast]
    rfl
   generalize hZ : World.drew _ = Z
   have zk : ∀ (j : Nat) (o : Obj), j ≠ g → j ≠ w2.heap.size + 1 → W.heap[j]? = some o → Z.heap[j]? = some o := fun j o h1 h2 h => by
    rw [← hZ]
    exact drew_blk (blk_else (blk_else h h1 _) h2 _)
   have zE : Z.heap[w2.heap.size + 1]? = some (.cells #[.int .i64 (one y).2] 29 (0, 0)) := by
    rw [← hZ]
    exact drew_blk (blk_set1 (blk_else hI0.bE hgE _) _)
   have zr : Z.ownsRow w.heap.size 3 1 (.slice (some ⟨g, 0, none⟩) act.length c3) act.length ((nums .i64 (chgA one (valsG pre) act).1).set k (.int .i64 (one y).1)) := by
    rw [← hZ]
    exact drew_row (row_far (row_set hI0.row (j := k) (by rw [nums_length, hlen']; exact hkn) _) (row_ne (blk_else hI0.bE hgE (.int .i64 (one y).1)) (by decide) (row_set hI0.row (j := k) (by rw [nums_length, hlen']; exact hkn) _)) _)
   have zb : Below w.heap.size W Z := by
    rw [← hZ]
    exact below_drew1 (setC (setC (Below.refl _ _) hg0 _) (by omega) _)
   have zo : KeepsOthers W Z := by
    rw [← hZ]
    exact ((KeepsOthers.setCell W ⟨g, k, none⟩ (.int .i64 (one y).1)).trans (KeepsOthers.setCell _ ⟨w2.heap.size + 1, 0, none⟩ (.int .i64 (one y).2))).trans (drew_keeps _)
   have n0 : w.heap.size ≠ g := fun h => row_ne hI0.b0 (by decide) hI0.row (congrArg some h)
   have n2 : w.heap.size + 1 + 1 ≠ g := fun h => row_ne hI0.b2 (by decide) hI0.row (congrArg some h)
   have n3 : w.heap.size + 1 + 1 + 1 ≠ g := fun h => row_ne hI0.b3 (by decide) hI0.row (congrArg some h)
   have n4 : w.heap.size + 1 + 1 + 1 + 1 ≠ g := fun h => row_ne hI0.b4 (by decide) hI0.row (congrArg some h)
   have n5 : w.heap.size + 1 + 1 + 1 + 1 + 1 ≠ g := fun h => row_ne hI0.b5 (by decide) hI0.row (congrArg some h)
   have nT : w2.heap.size ≠ g := fun h => row_ne hI0.bT (by decide) hI0.row (congrArg some h)
   have nB : w3.heap.size ≠ g := fun h => row_ne hI0.bB (by decide) hI0.row (congrArg some h)
   have zB := zk _ _ nB (by omega) hI0.bB
   have HZ := Aside0.mk (And.intro zk (And.intro zr (And.intro zb zo)))
   have HZE := Aside0.mk zE
   have HS := Aside0.mk hstep
   clear hZ zk zr zb zo hstep
   obtain ⟨cE0, fE0⟩ := cells1' zE
   clear zE
   by_cases he : (one y).2 = 0
   ·
    rw [he] at cE0
    have HS2 := HS.out
    rw [if_neg (by simpa using he)] at HS2
    gi_wp2
    refine ⟨HZ.out.2.2.2, ⟨HZ.out.2.2.1, zB.trans hI0.bB.symm, zB.trans hI0.bB.symm⟩, ?_⟩
    refine ⟨by rw [HS2], ?_, HZ.out.1 _ _ n0 (by omega) hI0.b0, HZ.out.1 _ _ n2 (by omega) hI0.b2, HZ.out.1 _ _ n3 (by omega) hI0.b3, HZ.out.1 _ _ n4 (by omega) hI0.b4, HZ.out.1 _ _ n5 (by omega) hI0.b5, HZ.out.1 _ _ nT (by omega) hI0.bT, by rw [← he]; exact HZE.out, zB, hI0.below.trans HZ.out.2.2.1⟩
    rw [HS2]
    have := HZ.out.2.1
    simpa [nums, List.map_set] using this
   ·
    have hne : ((one y).2 != 0) = true := by simpa using he
    have HS2 := HS.out
    rw [if_pos he] at HS2
    have HN := Aside0.mk he
    obtain ⟨c30, c31, c32, c33, c34, f30, f31, f32, f33, f34⟩ := cells5' (HZ.out.1 _ _ n3 (by omega) hI0.b3)
    obtain ⟨c40, c41, f40, f41⟩ := cells2 (HZ.out.1 _ _ n4 (by omega) hI0.b4)
    obtain ⟨c50, f50⟩ := cells1' (HZ.out.1 _ _ n5 (by omega) hI0.b5)
    have m3 : w.heap.size + 1 + 1 + 1 ≠ w2.heap.size + 1 := by omega
    have m4 : w.heap.size + 1 + 1 + 1 + 1 ≠ w2.heap.size + 1 := by omega
    have m5 : w.heap.size + 1 + 1 + 1 + 1 + 1 ≠ w2.heap.size + 1 := by omega
    have m3' := m3.symm
    have m4' := m4.symm
    have m5' := m5.symm
    clear he
    gi_wp2
    refine wpIn_region_round (by rfl) (by kernel_rfl) rfl ?_
    refine share (A := ?A2) ?cont2 (fun hl_ => ?walk2)
    case walk2 =>
     refine wpAnyIn_take (i := 0) (v := zI) rfl rfl (by kernel_rfl) (by kernel_rfl) (by kernel_rfl) (fun _ _ _ h => h) ⟨Or.inl ⟨by rfl, by intro w_; go_simp⟩, fun _ => rfl⟩ ?_
     refine wpAnyIn_take (i := 1) (v := .agg #[.int .i64 0, .int .i64 0]) rfl rfl (by kernel_rfl) (by kernel_rfl) (by kernel_rfl) (fun _ _ _ h => h) ⟨Or.inl ⟨by rfl, by intro w_; go_simp⟩, fun _ => rfl⟩ ?_
     refine wpAnyIn_ready (rs := [2,3]) (by kernel_rfl) (by simp) ?_
     refine AllReadyIn.cons rfl (fun K hK => ?_) ?_
     ·
      go_simp
      refine hK _ _ ?_
      clear hK K
      refine wpAnyIn_ready (rs := [3]) (by kernel_rfl) (by simp) ?_
      refine AllReadyIn.cons rfl (fun K hK => ?_) ?_
      ·
       go_simp
       refine hK _ _ ?_
       clear hK K
       refine wpAnyIn_ready (rs := [4]) (by kernel_rfl) (by simp) ?_
       refine AllReadyIn.cons rfl (fun K hK => ?_) ?_
       ·
        go_simp
        refine hK _ _ ?_
        clear hK K
        refine wpAnyIn_ready (rs := [5]) (by kernel_rfl) (by simp) ?_
        refine AllReadyIn.cons rfl (fun K hK => ?_) ?_
        ·
         go_simp
         refine hK _ _ ?_
         clear hK K
         refine wpAnyIn_done (by kernel_rfl) ?_ _
         exact hl_
        exact AllReadyIn.nil
       exact AllReadyIn.nil
      exact AllReadyIn.nil
     refine AllReadyIn.cons rfl (fun K hK => ?_) ?_
     ·
      go_simp
      refine hK _ _ ?_
      clear hK K
      refine wpAnyIn_ready (rs := [2,4]) (by kernel_rfl) (by simp) ?_
      refine AllReadyIn.cons rfl (fun K hK => ?_) ?_
      ·
       go_simp
       refine hK _ _ ?_
       clear hK K
       refine wpAnyIn_ready (rs := [4]) (by kernel_rfl) (by simp) ?_
       refine AllReadyIn.cons rfl (fun K hK => ?_) ?_
       ·
        go_simp
        refine hK _ _ ?_
        clear hK K
        refine wpAnyIn_ready (rs := [5]) (by kernel_rfl) (by simp) ?_
        refine AllReadyIn.cons rfl (fun K hK => ?_) ?_
        ·
         go_simp
         refine hK _ _ ?_
         clear hK K
         refine wpAnyIn_done (by kernel_rfl) ?_ _
         exact hl_
        exact AllReadyIn.nil
       exact AllReadyIn.nil
      refine AllReadyIn.cons rfl (fun K hK => ?_) ?_
      ·
       go_simp
       refine hK _ _ ?_
       clear hK K
       refine wpAnyIn_ready (rs := [2]) (by kernel_rfl) (by simp) ?_
       refine AllReadyIn.cons rfl (fun K hK => ?_) ?_
       ·
        go_simp
        refine hK _ _ ?_
        clear hK K
        refine wpAnyIn_ready (rs := [5]) (by kernel_rfl) (by simp) ?_
        refine AllReadyIn.cons rfl (fun K hK => ?_) ?_
        ·
         go_simp
         refine hK _ _ ?_
         clear hK K
         refine wpAnyIn_done (by kernel_rfl) ?_ _
         exact hl_
        exact AllReadyIn.nil
       exact AllReadyIn.nil
      exact AllReadyIn.nil
     exact AllReadyIn.nil
    case cont2 =>
     clear c30 c31 c32 c33 c34 f30 f31 f32 f33 f34 c40 c41 f40 f41 c50 f50 cE0 fE0
     generalize hY : World.drew _ = Y
     have y3 : Y.heap[w.heap.size + 1 + 1 + 1]? = some (.cells #[.int .i64 0, .int .i64 0, .slice none 0 0, .int .i64 0, .slice none 0 0] 28 (0, 0)) := by
      rw [← hY]
      refine drew_blk ?_
      iterate 3 refine blk_else ?_ (by omega) _
      iterate 5 refine blkPut (cs := #[.int .i64 0, .int .i64 0, .slice none 0 0, .int .i64 0, .slice none 0 0]) ?_ rfl
      exact HZ.out.1 _ _ n3 (by omega) hI0.b3
     have y4 : Y.heap[w.heap.size + 1 + 1 + 1 + 1]? = some (.cells #[.int .i64 0, .int .i64 0] 49 (0, 0)) := by
      rw [← hY]
      refine drew_blk ?_
      refine blk_else ?_ (by omega) _
      iterate 2 refine blkPut (cs := #[.int .i64 0, .int .i64 0]) ?_ rfl
      iterate 5 refine blk_else ?_ (by omega) _
      exact HZ.out.1 _ _ n4 (by omega) hI0.b4
     have y5 : Y.heap[w.heap.size + 1 + 1 + 1 + 1 + 1]? = some (.cells #[.int .i64 (one y).2] 29 (0, 0)) := by
      rw [← hY]
      refine drew_blk ?_
      refine blkPut (cs := #[.int .i64 0]) ?_ rfl
      iterate 7 refine blk_else ?_ (by omega) _
      exact HZ.out.1 _ _ n5 (by omega) hI0.b5
     have yb : Below w.heap.size w Y := by
      rw [← hY]
      refine below_drew1 ?_
      iterate 8 refine setC ?_ (by omega) _
      exact hI0.below.trans HZ.out.2.2.1
     have yo : KeepsOthers Z Y := by
      rw [← hY]
      have k1 := KeepsOthers.setCell Z ⟨w.heap.size + 1 + 1 + 1, 0, none⟩ (.int .i64 0)
      have k2 := k1.trans (KeepsOthers.setCell _ ⟨w.heap.size + 1 + 1 + 1, 1, none⟩ (.int .i64 0))
      have k3 := k2.trans (KeepsOthers.setCell _ ⟨w.heap.size + 1 + 1 + 1, 2, none⟩ (.slice none 0 0))
      have k4 := k3.trans (KeepsOthers.setCell _ ⟨w.heap.size + 1 + 1 + 1, 3, none⟩ (.int .i64 0))
      have k5 := k4.trans (KeepsOthers.setCell _ ⟨w.heap.size + 1 + 1 + 1, 4, none⟩ (.slice none 0 0))
      have k6 := k5.trans (KeepsOthers.setCell _ ⟨w.heap.size + 1 + 1 + 1 + 1, 0, none⟩ (.int .i64 0))
      have k7 := k6.trans (KeepsOthers.setCell _ ⟨w.heap.size + 1 + 1 + 1 + 1, 1, none⟩ (.int .i64 0))
      have k8 := k7.trans (KeepsOthers.setCell _ ⟨w.heap.size + 1 + 1 + 1 + 1 + 1, 0, none⟩ (.int .i64 (one y).2))
      exact k8.trans (drew_keeps _)
     have HY2 := Aside0.mk (And.intro (HZ.out.2.2.2.trans yo) (CX.mk (e := (one y).2) (w := w) (W := Y) y3 y4 y5 yb))
     clear hY y3 y4 y5 yb yo
     gi_wp2
     refine ⟨HY2.out.1, ⟨rfl, ?_⟩, ?_⟩
     ·
      rw [HS2]; exact HN.out
     ·
      rw [HS2]; exact HY2.out.2
 case done =>
  rintro D ys W hD hys hI hK
  rw [hys] at hI
  have HI := Aside0.mk hI
  obtain ⟨c00, c01, c02, c03, c04, -, -, -, -, -⟩ := cells5' hI.b0
  obtain ⟨c30, c31, c32, c33, c34, f30, f31, f32, f33, f34⟩ := cells5' hI.b3
  obtain ⟨c40, c41, f40, f41⟩ := cells2 hI.b4
  obtain ⟨c50, f50⟩ := cells1' hI.b5
  obtain ⟨ct0, ct1, -, -⟩ := cells2 hI.bT
  have hn3 : w.heap.size + 1 + 1 + 1 ≠ w2.heap.size := by omega
  have hn4 : w.heap.size + 1 + 1 + 1 + 1 ≠ w2.heap.size := by omega
  have hn5 : w.heap.size + 1 + 1 + 1 + 1 + 1 ≠ w2.heap.size := by omega
  have hn3' := hn3.symm
  have hn4' := hn4.symm
  have hn5' := hn5.symm
  have HK := Aside0.mk hK
  clear hI hK hys
  gi_wp2
  gi_region
  generalize hZ : World.drew _ = Z
  have q3 := row_ne HI.out.b3 (by decide) HI.out.row
  have q4 := row_ne HI.out.b4 (by decide) HI.out.row
  have q5 := row_ne HI.out.b5 (by decide) HI.out.row
  have z3 : Z.heap[w.heap.size + 1 + 1 + 1]? = some (.cells #[.int .i64 sz, .int .i64 gr, .slice A3 act.length c3, .int .i64 ms, .slice A4 mw.length c4] 28 (0, 0)) := by
   rw [← hZ]
   refine drew_blk ?_
   iterate 3 refine blk_else ?_ (by omega) _
   exact blkPut (cs := #[.int .i64 sz, .int .i64 gr, .slice A3 act.length c3, .int .i64 ms, .slice none 0 0]) (blkPut (cs := #[.int .i64 sz, .int .i64 gr, .slice A3 act.length c3, .int .i64 0, .slice none 0 0]) (blkPut (cs := #[.int .i64 sz, .int .i64 gr, .slice none 0 0, .int .i64 0, .slice none 0 0]) (blkPut (cs := #[.int .i64 sz, .int .i64 0, .slice none 0 0, .int .i64 0, .slice none 0 0]) (blkPut HI.out.b3 rfl) rfl) rfl) rfl) rfl
  have z4 : Z.heap[w.heap.size + 1 + 1 + 1 + 1]? = some (.cells #[.int .i64 t, .int .i64 c] 49 (0, 0)) := by
   rw [← hZ]
   refine drew_blk ?_
   refine blk_else ?_ (by omega) _
   refine blkPut (cs := #[.int .i64 t, .int .i64 0]) (blkPut (cs := #[.int .i64 0, .int .i64 0]) ?_ rfl) rfl
   iterate 5 refine blk_else ?_ (by omega) _
   exact HI.out.b4
  have z5 : Z.heap[w.heap.size + 1 + 1 + 1 + 1 + 1]? = some (.cells #[.int .i64 0] 29 (0, 0)) := by
   rw [← hZ]
   refine drew_blk ?_
   refine blkPut (cs := #[.int .i64 0]) ?_ rfl
   iterate 7 refine blk_else ?_ (by omega) _
   exact HI.out.b5
  have zD : Z.heap[D]? = some (.deferred (some [])) := by
   rw [← hZ]
   refine drew_blk ?_
   iterate 8 refine blk_else ?_ (by omega) _
   exact HK.out
  have zr : Z.ownsRow w.heap.size 3 1 (.slice A3 act.length c3) act.length (nums .i64 (chgA one (eachL t c) act).1) := by
   rw [← hZ]
   refine drew_row ?_
   refine row_far (row_far (row_far ?_ q4 _) q4 _) q5 _
   iterate 5 refine row_far ?_ q3 _
   exact HI.out.row
  have zb : Below w.heap.size w Z := by
   rw [← hZ]
   refine below_drew1 ?_
   iterate 8 refine setC ?_ (by omega) _
   exact HI.out.below
  have HZ := Aside0.mk (And.intro zr (And.intro zb zD))
  have H3 := Aside0.mk z3
  have H4 := Aside0.mk z4
  have H5 := Aside0.mk z5
  clear hZ q3 q4 q5 z3 z4 z5 zD zr zb c00 c01 c02 c03 c04 c30 c31 c32 c33 c34 f30 f31 f32 f33 f34 c40 c41 f40 f41 c50 f50 ct0 ct1 HK
  gi_wp2
  refine ⟨by simp, .inl ⟨_, _, rfl, run_takeDeferred HZ.out.2.2, ?_⟩⟩
  have hput : ∀ (k : Nat) (o : Obj), k ≠ D → Z.heap[k]? = some o → (Z.putObj D (.deferred none)).heap[k]? = some o := fun k o hk h => (World.putObj_heap_other hk).trans h
  obtain ⟨c30, c31, c32, c33, c34, -, -, -, -, -⟩ := cells5' (hput _ _ (by omega) H3.out)
  obtain ⟨c40, c41, -, -⟩ := cells2 (hput _ _ (by omega) H4.out)
  obtain ⟨c50, -⟩ := cells1' (hput _ _ (by omega) H5.out)
  refine ⟨.tuple #[vI sz gr (.slice A3 act.length c3) ms (.slice A4 mw.length c4), .agg #[.int .i64 t, .int .i64 c], .int .i64 0], ?_, HZ.out.2.1.trans (belowK_b (w := w) (Nat.le_refl _) Z D _ _ (by omega) HZ.out.2.2 rfl rfl), .inr ⟨HI.out.ok, _, rfl, ownsRow_putObj HZ.out.1 _ HZ.out.2.2 rfl⟩⟩
  simp [results, Tryd.f38, go_sem, *]
 case stop =>
  rintro D c' pre W hD hpre ⟨⟨rfl, hne⟩, hX⟩ hK
  obtain ⟨r, hr⟩ := hpre
  have hst := chgA_stop one r (valsG pre) act hne
  rw [hr] at hst
  have HST := Aside0.mk hst
  have HX := Aside0.mk hX
  have HN := Aside0.mk hne
  obtain ⟨c30, c31, c32, c33, c34, -, -, -, -, -⟩ := cells5' hX.b3
  obtain ⟨c40, c41, -, -⟩ := cells2 hX.b4
  obtain ⟨c50, -⟩ := cells1' hX.b5
  clear hX hst hr
  gi_wp2
  refine ⟨by simp, .inl ⟨_, _, rfl, run_takeDeferred hK, ?_⟩⟩
  have hX2 : CX (chgA one (valsG pre) act).2 w (W.putObj D (.deferred none)) := OwnFrom.putObj (CX.own (α := Unit) (D := D) (fun _ => (chgA one (valsG pre) act).2) (by omega)) (.deferred none) (s := ()) HX.out (Nat.le_refl _) hK rfl
  obtain ⟨c30, c31, c32, c33, c34, -, -, -, -, -⟩ := cells5' hX2.b3
  obtain ⟨c40, c41, -, -⟩ := cells2 hX2.b4
  obtain ⟨c50, -⟩ := cells1' hX2.b5
  refine ⟨.tuple #[zI, .agg #[.int .i64 0, .int .i64 0], .int .i64 (chgA one (valsG pre) act).2], ?_, hX2.below, .inl ⟨by rw [HST.out]; exact HN.out, by rw [HST.out]⟩⟩
  simp [results, Tryd.f38, go_sem, *]
end Go.Proofs.YtnjbdcnefienhaaDoor.P

namespace Go.Proofs.YtnjbdcnefienhaaDoor.P
open Go.RowKit Go.Proofs.YtnjbdcnefienhaaDoorW.PrintWords Go.Proofs.YtnjbdcnefienhaaDoorW.PrintLast Go.Proofs.YtnjbdcnefienhaaDoorW.PrintMore
theorem icheck_ok {k : Nat} {sz gr : Int} {act : List Int} {ms : Int} {mw : List Int} (h : iCheck.f k sz gr act ms mw = some 0) : 1 ≤ sz ∧ sz ≤ 4096 ∧ 1 ≤ gr ∧ gr ≤ 4096 ∧ (act.length : Int) = (sz + gr - 1) / gr := by
 have hbad : ∀ k a b c d e, iCheck.j0 k true a b c d e ≠ some 0 := fun k a b c d e h => by
  cases k with
  | zero => cases h
  | succ k => rw [iCheck.j0, if_pos rfl] at h; cases h
 unfold iCheck.f at h
 have hs : isizes.f sz gr = some (decide (1 ≤ sz ∧ sz ≤ 4096 ∧ 1 ≤ gr ∧ gr ≤ 4096)) := by
  unfold isizes.f
  by_cases h1 : sz ≥ 1
  ·
   rw [if_pos h1]
   by_cases h2 : sz ≤ 4096
   ·
    rw [if_pos h2]
    by_cases h3 : gr ≥ 1
    ·
     rw [if_pos h3]; congr 1; rw [decide_eq_decide]; omega
    ·
     rw [if_neg h3, decide_eq_false (by omega)]
   ·
    rw [if_neg h2, decide_eq_false (by omega)]
  ·
   rw [if_neg h1, decide_eq_false (by omega)]
 rw [hs, Option.bind_some] at h
 by_cases hk : 1 ≤ sz ∧ sz ≤ 4096 ∧ 1 ≤ gr ∧ gr ≤ 4096
 ·
  rw [decide_eq_true hk, if_pos rfl] at h
  have hg : igranules.f sz gr = some ((sz + gr - 1) / gr) := by
   unfold igranules.f
   have h2 : 0 ≤ (sz + gr - 1) / gr := Int.ediv_nonneg (by omega) (by omega)
   have h3 : (sz + gr - 1) / gr ≤ sz + gr - 1 := Int.ediv_le_self _ (by omega)
   rw [if_neg (by omega), w64 (sz + gr) (by omega) (by omega), w64 (sz + gr - 1) (by omega) (by omega), Int.tdiv_eq_ediv_of_nonneg (by omega), w64 _ (by omega) (by omega)]
  rw [hg, Option.bind_some] at h
  by_cases hl : (act.length : Int) = (sz + gr - 1) / gr
  ·
   exact ⟨hk.1, hk.2.1, hk.2.2.1, hk.2.2.2, hl⟩
  ·
   rw [if_neg hl] at h
   exact absurd h (hbad _ _ _ _ _ _)
 ·
  rw [decide_eq_false hk, if_neg (by decide)] at h
  exact absurd h (hbad _ _ _ _ _ _)
theorem itouched_ok {sz gr : Int} {act : List Int} {ms : Int} {mw : List Int} {st ct t c : Int} (h1 : 1 ≤ sz) (h2 : sz ≤ 4096) (h3 : 1 ≤ gr) (h4 : gr ≤ 4096) (hl : (act.length : Int) = (sz + gr - 1) / gr)
  (h : itouched.f sz gr act ms mw st ct = some (t, c, 0)) : 0 ≤ t ∧ 1 ≤ c ∧ t + c ≤ act.length ∧ 0 ≤ st ∧ 1 ≤ ct ∧ st + ct ≤ sz ∧ t = st / gr ∧ c = (st + ct - 1) / gr - st / gr + 1 := by
 unfold itouched.f at h
 by_cases c1 : st < 0
 ·
  rw [if_pos c1] at h; cases h
 rw [if_neg c1] at h
 by_cases c2 : ct < 1
 ·
  rw [if_pos c2] at h; cases h
 rw [if_neg c2] at h
 by_cases c3 : st ≥ sz
 ·
  rw [if_pos c3] at h; cases h
 rw [if_neg c3, w64 (sz - st) (by omega) (by omega)] at h
 by_cases c4 : ct > sz - st
 ·
  rw [if_pos c4] at h; cases h
 rw [if_neg c4, if_neg (by omega), w64 (st + ct) (by omega) (by omega), w64 (st + ct - 1) (by omega) (by omega), Int.tdiv_eq_ediv_of_nonneg (by omega), Int.tdiv_eq_ediv_of_nonneg (by omega)] at h
 have a0 : 0 ≤ st / gr := Int.ediv_nonneg (by omega) (by omega)
 have a1 : st / gr ≤ st := Int.ediv_le_self _ (by omega)
 have b0 : 0 ≤ (st + ct - 1) / gr := Int.ediv_nonneg (by omega) (by omega)
 have b1 : (st + ct - 1) / gr ≤ st + ct - 1 := Int.ediv_le_self _ (by omega)
 have ab : st / gr ≤ (st + ct - 1) / gr := Int.ediv_le_ediv (by omega) (by omega)
 have hm : (st + ct - 1) / gr ≤ (sz - 1) / gr := Int.ediv_le_ediv (by omega) (by omega)
 have hn : (sz + gr - 1) / gr = (sz - 1) / gr + 1 := by
  rw [show sz + gr - 1 = (sz - 1) + gr from by omega, Int.add_ediv_of_dvd_right (Int.dvd_refl gr), Int.ediv_self (by omega)]
 rw [w64 (st / gr) (by omega) (by omega), w64 ((st + ct - 1) / gr) (by omega) (by omega), w64 ((st + ct - 1) / gr - st / gr) (by omega) (by omega), w64 _ (by omega) (by omega)] at h
 have := Option.some.inj h
 rw [Prod.mk.injEq, Prod.mk.injEq] at this
 omega
theorem change_any (fby : Nat) (eby : ∀ args w, (callFunc fby args).run Tryd.prog w = .ok (.enter fby args) w) (one : Int → Int × Int) (hby : ∀ x W, Calls Tryd.prog fby #[.int .i64 x] W fun e w' => e = .returned (.tuple #[.int .i64 (one x).1, .int .i64 (one x).2]) ∧ w' = W)
  (sz gr : Int) (A2 : Option Addr) (c2 : Nat) (act : List Int) (ms : Int) (A4 : Option Addr) (c4 : Nat) (mw : List Int) (st ct : Int) (w : World) (q : List Int × Int × Int × Int) (h : chgI one sz gr act ms mw st ct = some q)
  (hr2 : Kd.C (Kd.int .i64) w A2 act.length act) (hc2 : act.length ≤ c2) (hr4 : Kd.C (Kd.int .u64) w A4 mw.length mw) (hc4 : mw.length ≤ c4) :
  Calls Tryd.prog 38 #[vI sz gr (.slice A2 act.length c2) ms (.slice A4 mw.length c4), .agg #[.int .i64 st, .int .i64 ct], .func (.func fby) #[] #[]] w fun e w' =>
   Below w.heap.size w w' ∧ (q.2.2.2 ≠ 0 ∧ e = .returned (.tuple #[zI, .agg #[.int .i64 0, .int .i64 0], .int .i64 q.2.2.2]) ∨
   q.2.2.2 = 0 ∧ ∃ v, e = .returned (.tuple #[vI sz gr v ms (.slice A4 mw.length c4), .agg #[.int .i64 q.2.1, .int .i64 q.2.2.1], .int .i64 0]) ∧ w'.ownsRow w.heap.size 3 1 v q.1.length (nums .i64 q.1)) := by
 unfold chgI at h
 rw [Option.bind_eq_some_iff] at h
 obtain ⟨e0, he0, h⟩ := h
 by_cases c0 : e0 ≠ 0
 ·
  rw [if_pos c0] at h
  obtain rfl := Option.some.inj h
  exact (change_bad fby sz gr A2 c2 act ms A4 c4 mw st ct w e0 he0 (by simpa using c0) hr2 hc2 hr4 hc4).mono fun e w' ⟨he, hb⟩ => ⟨hb, .inl ⟨c0, he⟩⟩
 ·
  rw [if_neg c0] at h
  have e00 : e0 = 0 := by simpa using c0
  subst e00
  rw [Option.bind_eq_some_iff] at h
  obtain ⟨⟨t, c, e1⟩, ht, h⟩ := h
  by_cases c1 : e1 ≠ 0
  ·
   rw [if_pos c1] at h
   obtain rfl := Option.some.inj h
   exact (change_out fby sz gr A2 c2 act ms A4 c4 mw st ct w e1 t c he0 ht (by simpa using c1) hr2 hc2 hr4 hc4).mono fun e w' ⟨he, hb⟩ => ⟨hb, .inl ⟨c1, he⟩⟩
  ·
   rw [if_neg c1] at h
   have e10 : e1 = 0 := by simpa using c1
   subst e10
   obtain ⟨s1, s2, s3, s4, s5⟩ := icheck_ok he0
   obtain ⟨t1, t2, t3, -⟩ := itouched_ok s1 s2 s3 s4 s5 ht
   have s6 : (sz + gr - 1) / gr ≤ sz + gr - 1 := Int.ediv_le_self _ (by omega)
   refine (change_go fby eby one hby sz gr A2 c2 act ms A4 c4 mw st ct w t c he0 ht t1 (by omega) t3 (by omega) hr2 hc2 hr4 hc4).mono ?_
   rintro e w' ⟨hb, ⟨hne, he⟩ | ⟨h0, v, he, ho⟩⟩
   ·
    rw [if_pos hne] at h
    obtain rfl := Option.some.inj h
    exact ⟨hb, .inl ⟨hne, he⟩⟩
   ·
    rw [if_neg (by simpa using h0)] at h
    obtain rfl := Option.some.inj h
    refine ⟨hb, .inr ⟨rfl, v, he, ?_⟩⟩
    rw [chgA_length one _ _ h0]
    exact ho
theorem begin_by (x : Int) (W : World) : Calls Tryd.prog 39 #[.int .i64 x] W fun e w' => e = .returned (.tuple #[.int .i64 (addOne x).1, .int .i64 (addOne x).2]) ∧ w' = W := by
 unfold addOne
 by_cases h : x = 4096
 ·
  rw [if_pos h]
  subst h
  go_enter Tryd.func39, Tryd.ntmps39
  go_wp2
  refine bodyPost_ret (v := .tuple #[.int .i64 _, .int .i64 _]) ?_ rfl ⟨rfl, rfl⟩
  simp [results, Tryd.results39, go_sem, i64_w]
 ·
  rw [if_neg h]
  have hb : (x == 4096) = false := by simpa using h
  go_enter Tryd.func39, Tryd.ntmps39
  go_wp2
  refine bodyPost_ret (v := .tuple #[.int .i64 _, .int .i64 _]) ?_ rfl ⟨rfl, rfl⟩
  simp [results, Tryd.results39, go_sem, i64_w]
theorem end_by (x : Int) (W : World) : Calls Tryd.prog 43 #[.int .i64 x] W fun e w' => e = .returned (.tuple #[.int .i64 (subOne x).1, .int .i64 (subOne x).2]) ∧ w' = W := by
 unfold subOne
 by_cases h : x = 0
 ·
  rw [if_pos h]
  subst h
  go_enter Tryd.func43, Tryd.ntmps43
  go_wp2
  refine bodyPost_ret (v := .tuple #[.int .i64 _, .int .i64 _]) ?_ rfl ⟨rfl, rfl⟩
  simp [results, Tryd.results43, go_sem, i64_w]
 ·
  rw [if_neg h]
  have hb : (x == 0) = false := by simpa using h
  go_enter Tryd.func43, Tryd.ntmps43
  go_wp2
  refine bodyPost_ret (v := .tuple #[.int .i64 _, .int .i64 _]) ?_ rfl ⟨rfl, rfl⟩
  simp [results, Tryd.results43, go_sem, i64_w]
set_option maxHeartbeats 4000000 in
set_option maxRecDepth 100000 in
theorem iEnd.calls (a0_0 : Int) (a0_1 : Int) (A0_2 : Option Addr) (c0_2 : Nat) (l0_2 : List Int) (a0_3 : Int) (P0_4_ : Nat → Prop) (A0_4 : Option Addr) (c0_4 : Nat) (l0_4 : List Int) (a1_0 : Int) (a1_1 : Int) (r1 : Int) (r2 : Int) (r3 : List Int) (r4 : Int) (r5 : List Int) (r6 : Int) (w : World) (hr0_2 : Kd.C (Kd.int .i64) w A0_2 l0_2.length l0_2) (hc0_2 : l0_2.length ≤ c0_2) (hs0_4 : Kd.V (Kd.int .u64) 90 w w.heap.size (fun k_ => P0_4_ k_) (.slice A0_4 l0_4.length c0_4) l0_4) (h : iEnd.f a0_0 a0_1 l0_2 a0_3 l0_4 a1_0 a1_1 = some (r1, r2, r3, r4, r5, r6)) :
 Calls Tryd.prog 17 #[.agg #[.int .i64 a0_0, .int .i64 a0_1, .slice A0_2 l0_2.length c0_2, .int .i64 a0_3, .slice A0_4 l0_4.length c0_4], .agg #[.int .i64 a1_0, .int .i64 a1_1]] w fun e w' => ∃ v2_ v4_ : Value, e = .returned (.tuple #[.agg #[.int .i64 r1, .int .i64 r2, v2_, .int .i64 r4, v4_], .int .i64 r6]) ∧ Kd.R (Kd.int .i64) 3 w' w.heap.size (fun k_ => (w.heap.size ≤ k_)) v2_ r3 ∧ Kd.V (Kd.int .u64) 90 w' w.heap.size (fun k_ => (P0_4_ k_ ∨ w.heap.size ≤ k_) ∧ some k_ ≠ (v2_ : Value).ownBlock) v4_ r5 ∧ Below w.heap.size w w' := by
 unfold iEnd.f at h
 rw [Option.bind_eq_some_iff] at h
 obtain ⟨q, hq, h⟩ := h
 have HQ := Aside0.mk h
 have hch := fun (W : World) (hb : Below w.heap.size w W) => change_any 43 (enters_of Tryd.func43 (by kernel_rfl) rfl) subOne end_by a0_0 a0_1 A0_2 c0_2 l0_2 a0_3 A0_4 c0_4 l0_4 a1_0 a1_1 W q hq (Kd.C_below hr0_2 hb) hc0_2 (Kd.C_below (Kd.V_reads' hs0_4).2.2 hb) (Kd.V_reads' hs0_4).2.1
 have HCH := Aside0.mk hch
 have HS := Aside0.mk hs0_4
 clear hch hs0_4 hr0_2 hc0_2 h hq
 go_enter Tryd.func17, Tryd.ntmps17
 go_wp2_with fail
 obtain ⟨W, hW, hB, hSz, -, -, h2⟩ := new3 w (Obj.cells #[Value.int IntKind.i64 a0_0, Value.int IntKind.i64 a0_1, Value.slice A0_2 l0_2.length c0_2, Value.int IntKind.i64 a0_3, Value.slice A0_4 l0_4.length c0_4] 28) (Obj.cells #[Value.int IntKind.i64 a1_0, Value.int IntKind.i64 a1_1] 49) (Obj.cells #[Value.int IntKind.i64 0, Value.int IntKind.i64 0, Value.slice none 0 0, Value.int IntKind.i64 0, Value.slice none 0 0] 28)
 rw [hW]
 have HB := Aside0.mk (And.intro hB hSz)
 have B2 := Aside0.mk h2
 clear hW hB hSz h2
 refine (HCH.out W HB.out.1).mono ?_
 rintro e w1 ⟨hb1, ⟨hne, rfl⟩ | ⟨h0, v, rfl, ho⟩⟩
 ·
  obtain ⟨V, hV, hVB, hVS, v0, v1⟩ := new2 w1 (Obj.cells #[Value.int IntKind.i64 0, Value.int IntKind.i64 0, Value.slice none 0 0, Value.int IntKind.i64 0, Value.slice none 0 0] 28) (Obj.cells #[Value.int IntKind.i64 0, Value.int IntKind.i64 0] 49)
  have hl := (Array.getElem?_eq_some_iff.1 (blk_of_below B2.out hb1)).1
  have hn1 : w.heap.size + 1 + 1 ≠ w1.heap.size := by omega
  have hn2 : w.heap.size + 1 + 1 ≠ w1.heap.size + 1 := by omega
  have hn1' := hn1.symm
  have hn2' := hn2.symm
  obtain ⟨c30, c31, c32, c33, c34, f30, f31, f32, f33, f34⟩ := cells5' (blk_of_below (blk_of_below B2.out hb1) hVB)
  obtain ⟨c40, c41, c42, c43, c44, f40, f41, f42, f43, f44⟩ := cells5' v0
  obtain ⟨c50, c51, f50, f51⟩ := cells2 v1
  have HB1 := Aside0.mk (below_step (below_step HB.out.1 hb1) hVB)
  have HN := Aside0.mk hne
  have HBL := Aside0.mk (And.intro (blk_of_below (blk_of_below B2.out hb1) hVB) (And.intro v0 v1))
  have HLL := Aside0.mk hl
  clear hb1 hne hVB v0 v1 hVS hl
  go_wp2_with fail
  have hcase : (0, 0, [], 0, [], q.2.2.2) = (r1, r2, r3, r4, r5, r6) := by
   have := HQ.out
   rw [if_pos HN.out] at this
   exact Option.some.inj this
  simp only [Prod.mk.injEq] at hcase
  obtain ⟨rfl, rfl, rfl, rfl, rfl, rfl⟩ := hcase
  generalize hZ : World.setCell _ _ _ = Z
  have z2 : Z.heap[w.heap.size + 1 + 1]? = some (.cells #[.int .i64 0, .int .i64 0, .slice none 0 0, .int .i64 0, .slice none 0 0] 28 (0, 0)) := by
   rw [← hZ]
   iterate 5 refine blkPut (cs := #[.int .i64 0, .int .i64 0, .slice none 0 0, .int .i64 0, .slice none 0 0]) ?_ rfl
   iterate 7 refine blk_else ?_ (by omega) _
   exact HBL.out.1
  have zb : Below w.heap.size w Z := by
   rw [← hZ]
   have := HLL.out
   iterate 12 refine setC ?_ (by omega) _
   exact HB1.out
  clear hZ
  obtain ⟨e30, e31, e32, e33, e34, -, -, -, -, -⟩ := cells5' z2
  refine bodyPost_ret (v := .tuple #[zI, .int .i64 q.2.2.2]) ?_ rfl ⟨.slice none 0 0, .slice none 0 0, rfl, Kd.R_nil _ _ _ _ _, Kd.V_nil _ _ _ _ _, zb⟩
  simp [results, Tryd.results17, go_sem, *]
 ·
  obtain ⟨A, c, rfl⟩ := own_slice ho
  obtain ⟨V, hV, hVB, hVS, v0, v1⟩ := new2 w1 (Obj.cells #[Value.int IntKind.i64 0, Value.int IntKind.i64 0, Value.slice none 0 0, Value.int IntKind.i64 0, Value.slice none 0 0] 28) (Obj.cells #[Value.int IntKind.i64 0, Value.int IntKind.i64 0] 49)
  have hl := (Array.getElem?_eq_some_iff.1 (blk_of_below B2.out hb1)).1
  have hn1 : w.heap.size + 1 + 1 ≠ w1.heap.size := by omega
  have hn2 : w.heap.size + 1 + 1 ≠ w1.heap.size + 1 := by omega
  have hn1' := hn1.symm
  have hn2' := hn2.symm
  obtain ⟨c30, c31, c32, c33, c34, f30, f31, f32, f33, f34⟩ := cells5' (blk_of_below (blk_of_below B2.out hb1) hVB)
  obtain ⟨c40, c41, c42, c43, c44, f40, f41, f42, f43, f44⟩ := cells5' v0
  obtain ⟨c50, c51, f50, f51⟩ := cells2 v1
  have HB1 := Aside0.mk (below_step (below_step HB.out.1 hb1) hVB)
  have H0 := Aside0.mk h0
  have HBL := Aside0.mk (And.intro (blk_of_below (blk_of_below B2.out hb1) hVB) (And.intro v0 v1))
  have HLL := Aside0.mk hl
  have HO : Aside0 (V.ownsRow w.heap.size 3 1 (.slice A q.1.length c) q.1.length (nums .i64 q.1)) := ⟨by
   rw [← hV]
   exact own_weaken (own_kept (own_kept ho (World.grownBy_alloc _ _ none) (fun r e => by cases e)) (World.grownBy_alloc _ _ none) (fun r e => by cases e)) (by have := HB.out.2; omega)⟩
  clear hb1 h0 hVB v0 v1 hVS hl ho
  go_wp2_with fail
  have hcase : (a0_0, a0_1, q.1, a0_3, l0_4, 0) = (r1, r2, r3, r4, r5, r6) := by
   have := HQ.out
   rw [if_neg (by simpa using H0.out)] at this
   exact Option.some.inj this
  simp only [Prod.mk.injEq] at hcase
  obtain ⟨rfl, rfl, rfl, rfl, rfl, rfl⟩ := hcase
  have q2 := row_ne HBL.out.1 (by decide) HO.out
  have q6 := row_ne HBL.out.2.1 (by decide) HO.out
  have q7 := row_ne HBL.out.2.2 (by decide) HO.out
  generalize hZ : World.setCell _ _ _ = Z
  have z2 : Z.heap[w.heap.size + 1 + 1]? = some (.cells #[.int .i64 a0_0, .int .i64 a0_1, .slice A q.1.length c, .int .i64 a0_3, .slice A0_4 l0_4.length c0_4] 28 (0, 0)) := by
   rw [← hZ]
   refine blkPut (cs := #[.int .i64 a0_0, .int .i64 a0_1, .slice A q.1.length c, .int .i64 a0_3, .slice none 0 0]) (blkPut (cs := #[.int .i64 a0_0, .int .i64 a0_1, .slice A q.1.length c, .int .i64 0, .slice none 0 0]) (blkPut (cs := #[.int .i64 a0_0, .int .i64 a0_1, .slice none 0 0, .int .i64 0, .slice none 0 0]) (blkPut (cs := #[.int .i64 a0_0, .int .i64 0, .slice none 0 0, .int .i64 0, .slice none 0 0]) (blkPut (cs := #[.int .i64 0, .int .i64 0, .slice none 0 0, .int .i64 0, .slice none 0 0]) ?_ rfl) rfl) rfl) rfl) rfl
   iterate 7 refine blk_else ?_ (by omega) _
   exact HBL.out.1
  have zr : Z.ownsRow w.heap.size 3 1 (.slice A q.1.length c) q.1.length (nums .i64 q.1) := by
   rw [← hZ]
   iterate 5 refine row_far ?_ q2 _
   iterate 2 refine row_far ?_ q7 _
   iterate 5 refine row_far ?_ q6 _
   exact HO.out
  have zb : Below w.heap.size w Z := by
   rw [← hZ]
   have := HLL.out
   iterate 12 refine setC ?_ (by omega) _
   exact HB1.out
  clear hZ
  obtain ⟨e30, e31, e32, e33, e34, -, -, -, -, -⟩ := cells5' z2
  have hR : Kd.R (Kd.int .i64) 3 Z w.heap.size (fun k_ => w.heap.size ≤ k_) (.slice A q.1.length c) q.1 := Kd.R_of_own zr (fun k hk => own_base zr k hk)
  refine bodyPost_ret (v := .tuple #[vI a0_0 a0_1 (.slice A q.1.length c) a0_3 (.slice A0_4 l0_4.length c0_4), .int .i64 0]) ?_ rfl ⟨.slice A q.1.length c, .slice A0_4 l0_4.length c0_4, rfl, hR, Kd.V_mono (Kd.V_elder' HS.out (Kd.R_base hR) zb) (fun k hk => ⟨.inl hk.1, hk.2⟩), zb⟩
  simp [results, Tryd.results17, go_sem, *]
end Go.Proofs.YtnjbdcnefienhaaDoor.P

namespace Go.Proofs.YtnjbdcnefienhaaDoor.P
open Go.RowKit Go.Proofs.YtnjbdcnefienhaaDoorW.PrintWords Go.Proofs.YtnjbdcnefienhaaDoorW.PrintLast Go.Proofs.YtnjbdcnefienhaaDoorW.PrintMore
theorem icheck_good {k : Nat} {sz gr : Int} {act : List Int} {ms : Int} {mw : List Int} (h : iCheck.f k sz gr act ms mw = some 0) : Good ms mw ∧ ms = act.length := by
 have hbad : ∀ k a b c d e, iCheck.j0 k true a b c d e ≠ some 0 := fun k a b c d e h => by
  cases k with
  | zero => cases h
  | succ k => rw [iCheck.j0, if_pos rfl] at h; cases h
 obtain ⟨s1, s2, s3, s4, s5⟩ := icheck_ok h
 unfold iCheck.f at h
 rw [Option.bind_eq_some_iff] at h
 obtain ⟨b, -, h⟩ := h
 by_cases hb : b = true
 ·
  rw [if_pos hb, Option.bind_eq_some_iff] at h
  obtain ⟨n, -, h⟩ := h
  by_cases hn : (act.length : Int) = n
  ·
   rw [if_pos hn] at h
   rw [Option.bind_eq_some_iff] at h
   obtain ⟨e, he, h⟩ := h
   by_cases h0 : e = 0
   ·
    rw [if_pos h0] at h
    subst h0
    refine ⟨?_, ?_⟩
    ·
     cases k with
     | zero =>
      exfalso
      unfold bCheck.f at he
      repeat' first
       | (cases he; done)
       | (simp [bCheck.j0] at he; done)
       | (split at he)
     | succ k =>
      rcases check_any k ms mw with h' | h'
      ·
       exact h'.1
      ·
       rw [h'.2] at he; cases he
    ·
     by_cases hm : ms = act.length
     ·
      exact hm
     ·
      rw [show (ms != (act.length : Int)) = true from by simpa using hm] at h
      exact absurd h (hbad _ _ _ _ _ _)
   ·
    rw [if_neg h0] at h
    exact absurd h (hbad _ _ _ _ _ _)
  ·
   rw [if_neg hn] at h
   exact absurd h (hbad _ _ _ _ _ _)
 ·
  rw [if_neg hb] at h
  exact absurd h (hbad _ _ _ _ _ _)
theorem get_some {ms : Int} {mw : List Int} (h : Good ms mw) (x : Int) : ∃ b, bGet.f 1 ms mw x = some b := by
 unfold bGet.f
 rw [good_yes h 0, Option.bind_some, if_pos rfl]
 by_cases h1 : x ≥ 0
 ·
  rw [if_pos h1]
  by_cases h2 : x < ms
  ·
   rw [if_pos h2]
   have hl := h.len
   have hh := h.hi
   have a := Int.tdiv_eq_ediv_of_nonneg (b := 64) h1
   have b := Int.tmod_eq_emod_of_nonneg (b := 64) h1
   rw [a, b, w64 _ (by omega) (by omega), if_pos (by omega), if_pos (by omega), if_pos (by omega)]
   exact ⟨_, rfl⟩
  ·
   rw [if_neg h2]; exact ⟨_, rfl⟩
 ·
  rw [if_neg h1]; exact ⟨_, rfl⟩
structure BI (ms : Int) (mw : List Int) (sz gr : Int) (v2 : Value) (vA : Value) (la : List Int) (v4 : Value) (t c : Int) (w : World) (H1 : Nat) (pre : List Int) (W : World) : Prop where
 row : W.ownsRow w.heap.size 3 1 vA la.length (nums .i64 la)
 b0 : W.heap[w.heap.size]? = some (.cells #[.int .i64 sz, .int .i64 gr, v2, .int .i64 ms, v4] 28 (0, 0))
 b2 : W.heap[w.heap.size + 1 + 1]? = some (.cells #[.int .i64 0, .int .i64 0, .slice none 0 0, .int .i64 0, .slice none 0 0] 28 (0, 0))
 bO : W.heap[H1]? = some (.cells #[.int .i64 sz, .int .i64 gr, vA, .int .i64 ms, v4] 28 (0, 0))
 bT : W.heap[H1 + 1]? = some (.cells #[.int .i64 t, .int .i64 c] 49 (0, 0))
 bS : W.heap[H1 + 1 + 1]? = some (.cells #[.bool (pre.any (isNew ms mw))] 4 (0, 0))
 bB : W.heap[H1 + 1 + 1 + 1]? = some (.cells #[.int .i64 t, .int .i64 c] 49 (0, 0))
 below : Below w.heap.size w W
theorem BI.own {α : Type} {ms : Int} {mw : List Int} {sz gr : Int} {v2 vA : Value} {la : List Int} {v4 : Value} {t c : Int} {w : World} {H1 D : Nat} (f : α → List Int) (hD : w.heap.size ≤ D) :
  OwnFrom (β := α) D (fun p W => BI ms mw sz gr v2 vA la v4 t c w H1 (f p) W) := by
 intro s X Y row hs hg hr
 have hk : ∀ (k : Nat) (cs : Array Value) (ty : TypeId), X.heap[k]? = some (.cells cs ty (0, 0)) → Y.heap[k]? = some (.cells cs ty (0, 0)) := fun k cs ty h => by
  refine (hg.block k (Array.getElem?_eq_some_iff.1 h).1 (fun e => ?_)).trans h
  obtain ⟨_, o, ho, hc⟩ := hr k e.symm
  rw [h] at ho; cases ho; cases hc
 exact ⟨own_kept hs.row hg (fun r e => (hr r e).2), hk _ _ _ hs.b0, hk _ _ _ hs.b2, hk _ _ _ hs.bO, hk _ _ _ hs.bT, hk _ _ _ hs.bS, hk _ _ _ hs.bB, hs.below.grown hg hs.below.size (fun k e => by have := (hr k e).1; omega)⟩
set_option maxHeartbeats 4000000 in
set_option maxRecDepth 100000 in
theorem begin_bad (sz gr : Int) (A2 : Option Addr) (c2 : Nat) (act : List Int) (ms : Int) (A4 : Option Addr) (c4 : Nat) (mw : List Int) (st ct : Int) (w : World) (q : List Int × Int × Int × Int) (hq : chgI addOne sz gr act ms mw st ct = some q) (hne : q.2.2.2 ≠ 0)
  (hr2 : Kd.C (Kd.int .i64) w A2 act.length act) (hc2 : act.length ≤ c2) (hr4 : Kd.C (Kd.int .u64) w A4 mw.length mw) (hc4 : mw.length ≤ c4) :
  Calls Tryd.prog 16 #[vI sz gr (.slice A2 act.length c2) ms (.slice A4 mw.length c4), .agg #[.int .i64 st, .int .i64 ct]] w fun e w' => e = .returned (.tuple #[zI, .bool false, .int .i64 q.2.2.2]) ∧ Below w.heap.size w w' := by
 have hch := fun (W : World) (hb : Below w.heap.size w W) => change_any 39 (enters_of Tryd.func39 (by kernel_rfl) rfl) addOne begin_by sz gr A2 c2 act ms A4 c4 mw st ct W q hq (Kd.C_below hr2 hb) hc2 (Kd.C_below hr4 hb) hc4
 have HCH := Aside0.mk hch
 have HN := Aside0.mk hne
 clear hch hr2 hc2 hr4 hc4 hq hne
 go_enter Tryd.func16, Tryd.ntmps16
 go_wp2_with fail
 obtain ⟨W, hW, hB, hSz, -, -, h2⟩ := new3 w (Obj.cells #[Value.int IntKind.i64 sz, Value.int IntKind.i64 gr, Value.slice A2 act.length c2, Value.int IntKind.i64 ms, Value.slice A4 mw.length c4] 28) (Obj.cells #[Value.int IntKind.i64 st, Value.int IntKind.i64 ct] 49) (Obj.cells #[Value.int IntKind.i64 0, Value.int IntKind.i64 0, Value.slice none 0 0, Value.int IntKind.i64 0, Value.slice none 0 0] 28)
 rw [hW]
 have HB := Aside0.mk (And.intro hB hSz)
 have B2 := Aside0.mk h2
 clear hW hB hSz h2
 refine (HCH.out W HB.out.1).mono ?_
 rintro e w1 ⟨hb1, ⟨hne, rfl⟩ | ⟨h0, -⟩⟩
 ·
  obtain ⟨V, hV, hVB, hVS, v0, v1⟩ := new2 w1 (Obj.cells #[Value.int IntKind.i64 0, Value.int IntKind.i64 0, Value.slice none 0 0, Value.int IntKind.i64 0, Value.slice none 0 0] 28) (Obj.cells #[Value.int IntKind.i64 0, Value.int IntKind.i64 0] 49)
  have hl := (Array.getElem?_eq_some_iff.1 (blk_of_below B2.out hb1)).1
  have hn1 : w.heap.size + 1 + 1 ≠ w1.heap.size := by omega
  have hn2 : w.heap.size + 1 + 1 ≠ w1.heap.size + 1 := by omega
  have hn1' := hn1.symm
  have hn2' := hn2.symm
  obtain ⟨c30, c31, c32, c33, c34, f30, f31, f32, f33, f34⟩ := cells5' (blk_of_below (blk_of_below B2.out hb1) hVB)
  obtain ⟨c40, c41, c42, c43, c44, f40, f41, f42, f43, f44⟩ := cells5' v0
  obtain ⟨c50, c51, f50, f51⟩ := cells2 v1
  have HB1 := Aside0.mk (below_step (below_step HB.out.1 hb1) hVB)
  have HBL := Aside0.mk (And.intro (blk_of_below (blk_of_below B2.out hb1) hVB) (And.intro v0 v1))
  have HLL := Aside0.mk hl
  have hnq : (q.2.2.2 != 0) = true := by simpa using HN.out
  clear hb1 hne hVB v0 v1 hVS hl
  go_wp2_with fail
  generalize hZ : World.setCell _ _ _ = Z
  have z2 : Z.heap[w.heap.size + 1 + 1]? = some (.cells #[.int .i64 0, .int .i64 0, .slice none 0 0, .int .i64 0, .slice none 0 0] 28 (0, 0)) := by
   rw [← hZ]
   iterate 5 refine blkPut (cs := #[.int .i64 0, .int .i64 0, .slice none 0 0, .int .i64 0, .slice none 0 0]) ?_ rfl
   iterate 7 refine blk_else ?_ (by omega) _
   exact HBL.out.1
  have zb : Below w.heap.size w Z := by
   rw [← hZ]
   have := HLL.out
   iterate 12 refine setC ?_ (by omega) _
   exact HB1.out
  clear hZ
  obtain ⟨e30, e31, e32, e33, e34, -, -, -, -, -⟩ := cells5' z2
  refine bodyPost_ret (v := .tuple #[zI, .bool false, .int .i64 q.2.2.2]) ?_ rfl ⟨rfl, zb⟩
  simp [results, Tryd.results16, go_sem, *]
 ·
  exact absurd h0 HN.out
end Go.Proofs.YtnjbdcnefienhaaDoor.P

namespace Go.Proofs.YtnjbdcnefienhaaDoor.P
open Go.RowKit Go.Proofs.YtnjbdcnefienhaaDoorW.PrintWords Go.Proofs.YtnjbdcnefienhaaDoorW.PrintLast Go.Proofs.YtnjbdcnefienhaaDoorW.PrintMore
attribute [local go_sem] Oper.semAt_some
set_option maxHeartbeats 4000000 in
set_option maxRecDepth 100000 in
theorem begin_go (sz gr : Int) (A2 : Option Addr) (c2 : Nat) (act : List Int) (ms : Int) (A4 : Option Addr) (c4 : Nat) (mw : List Int) (st ct : Int) (w : World) (la : List Int) (t c : Int) (hq : chgI addOne sz gr act ms mw st ct = some (la, t, c, 0)) (hg : Good ms mw)
  (ht : 0 ≤ t) (hc : 0 ≤ c) (htc : t + c ≤ 10000)
  (hr2 : Kd.C (Kd.int .i64) w A2 act.length act) (hc2 : act.length ≤ c2) (hr4 : Kd.C (Kd.int .u64) w A4 mw.length mw) (hc4 : mw.length ≤ c4) (m1 : Int) (m2 : List Int) (m3 : Int) (hm : bSet.f ms mw t c = some (m1, m2, m3)) :
  Calls Tryd.prog 16 #[vI sz gr (.slice A2 act.length c2) ms (.slice A4 mw.length c4), .agg #[.int .i64 st, .int .i64 ct]] w fun e w' => ∃ v2_ v4_ : Value, e = .returned (.tuple #[vI sz gr v2_ m1 v4_, .bool ((eachL t c).any (isNew ms mw)), .int .i64 m3]) ∧ Kd.R (Kd.int .i64) 3 w' w.heap.size (fun _ => True) v2_ la ∧ Kd.R (Kd.int .u64) 90 w' w.heap.size (fun _ => True) v4_ m2 ∧ Below w.heap.size w w' := by
 have hch := fun (W : World) (hb : Below w.heap.size w W) => change_any 39 (enters_of Tryd.func39 (by kernel_rfl) rfl) addOne begin_by sz gr A2 c2 act ms A4 c4 mw st ct W _ hq (Kd.C_below hr2 hb) hc2 (Kd.C_below hr4 hb) hc4
 have hget := fun (W : World) (hb : Below w.heap.size w W) (x : Int) (b : Bool) (h : bGet.f 1 ms mw x = some b) => bGet.calls 1 ms A4 c4 mw x b W (Kd.C_below hr4 hb) hc4 h
 have hset := fun (W : World) (hb : Below w.heap.size w W) => bSet.calls ms A4 c4 mw t c m1 m2 m3 W (Kd.C_below hr4 hb) hc4 hm
 have HCH := Aside0.mk hch
 have HGET := Aside0.mk hget
 have HSET := Aside0.mk hset
 have HG := Aside0.mk hg
 clear hch hget hset hr2 hc2 hr4 hc4 hq hm hg
 refine (callsIn_wide (n := 5)).1 ?_
 refine callsIn_of_wp_marks Tryd.func16 rfl trivial ?_ rfl
 simp only [Tryd.ntmps16, List.size_toArray, List.length_cons, List.length_nil, Nat.reduceAdd, Nat.reduceSub, Array.replicate_succ, Array.replicate_zero, List.push_toArray, List.append_toArray, List.nil_append, List.cons_append]
 gi_wp2
 obtain ⟨W, hW, hB, hSz, h0, -, h2⟩ := new3 w (Obj.cells #[Value.int IntKind.i64 sz, Value.int IntKind.i64 gr, Value.slice A2 act.length c2, Value.int IntKind.i64 ms, Value.slice A4 mw.length c4] 28) (Obj.cells #[Value.int IntKind.i64 st, Value.int IntKind.i64 ct] 49) (Obj.cells #[Value.int IntKind.i64 0, Value.int IntKind.i64 0, Value.slice none 0 0, Value.int IntKind.i64 0, Value.slice none 0 0] 28)
 rw [hW]
 have HB := Aside0.mk (And.intro hB hSz)
 have B0 := Aside0.mk h0
 have B2 := Aside0.mk h2
 clear hW hB hSz h0 h2
 refine ⟨trivial, (callsIn_wide.2 (HCH.out W HB.out.1)).mono ?_⟩
 rintro e w1 ⟨hb1, ⟨hne, rfl⟩ | ⟨-, v, rfl, ho⟩⟩
 ·
  exact absurd rfl hne
 obtain ⟨A, cv, rfl⟩ := own_slice ho
 obtain ⟨V, hV, hVB, hVS, v0, v1⟩ := new2 w1 (Obj.cells #[Value.int IntKind.i64 0, Value.int IntKind.i64 0, Value.slice none 0 0, Value.int IntKind.i64 0, Value.slice none 0 0] 28) (Obj.cells #[Value.int IntKind.i64 0, Value.int IntKind.i64 0] 49)
 have hl := (Array.getElem?_eq_some_iff.1 (blk_of_below B2.out hb1)).1
 obtain ⟨c40, c41, c42, c43, c44, f40, f41, f42, f43, f44⟩ := cells5' v0
 obtain ⟨c50, c51, f50, f51⟩ := cells2 v1
 have HB1 := Aside0.mk (below_step (below_step HB.out.1 hb1) hVB)
 have HBL := Aside0.mk (And.intro (blk_of_below (blk_of_below B0.out hb1) hVB) (And.intro (blk_of_below (blk_of_below B2.out hb1) hVB) (And.intro v0 v1)))
 have HLL := Aside0.mk (And.intro hl hVS)
 have HO : Aside0 (V.ownsRow w.heap.size 3 1 (.slice A la.length cv) la.length (nums .i64 la)) := ⟨by
  rw [← hV]
  exact own_weaken (own_kept (own_kept ho (World.grownBy_alloc _ _ none) (fun r e => by cases e)) (World.grownBy_alloc _ _ none) (fun r e => by cases e)) (by have := HB.out.2; omega)⟩
 have hn3 : w.heap.size ≠ w1.heap.size := by omega
 have hn4 : w.heap.size ≠ w1.heap.size + 1 := by omega
 have hn5 : w.heap.size ≠ w1.heap.size + 1 + 1 := by omega
 have hn3' := hn3.symm
 have hn4' := hn4.symm
 have hn5' := hn5.symm
 clear hb1 hVB v0 v1 hl ho
 gi_wp2_with fail
 obtain ⟨g1, g2⟩ := HLL.out
 obtain ⟨q0, q2, qO, qT⟩ := HBL.out
 have hrO := row_ne qO (by decide) HO.out
 have hrT := row_ne qT (by decide) HO.out
 generalize hZ : World.alloc _ _ = Z
 have zs : Z.heap.size = w1.heap.size + 1 + 1 + 1 := by rw [← hZ]; simp [g2]
 have z0 : Z.heap[w.heap.size]? = some (.cells #[.int .i64 sz, .int .i64 gr, .slice A2 act.length c2, .int .i64 ms, .slice A4 mw.length c4] 28 (0, 0)) := by
  rw [← hZ]
  refine heap_alloc_old _ _ _ _ ?_
  iterate 7 refine blk_else ?_ (by omega) _
  exact q0
 have z2 : Z.heap[w.heap.size + 1 + 1]? = some (.cells #[.int .i64 0, .int .i64 0, .slice none 0 0, .int .i64 0, .slice none 0 0] 28 (0, 0)) := by
  rw [← hZ]
  refine heap_alloc_old _ _ _ _ ?_
  iterate 7 refine blk_else ?_ (by omega) _
  exact q2
 have zO : Z.heap[w1.heap.size]? = some (.cells #[.int .i64 sz, .int .i64 gr, .slice A la.length cv, .int .i64 ms, .slice A4 mw.length c4] 28 (0, 0)) := by
  rw [← hZ]
  refine heap_alloc_old _ _ _ _ ?_
  iterate 2 refine blk_else ?_ (by omega) _
  exact blkPut (cs := #[.int .i64 sz, .int .i64 gr, .slice A la.length cv, .int .i64 ms, .slice none 0 0]) (blkPut (cs := #[.int .i64 sz, .int .i64 gr, .slice A la.length cv, .int .i64 0, .slice none 0 0]) (blkPut (cs := #[.int .i64 sz, .int .i64 gr, .slice none 0 0, .int .i64 0, .slice none 0 0]) (blkPut (cs := #[.int .i64 sz, .int .i64 0, .slice none 0 0, .int .i64 0, .slice none 0 0]) (blkPut (cs := #[.int .i64 0, .int .i64 0, .slice none 0 0, .int .i64 0, .slice none 0 0]) qO rfl) rfl) rfl) rfl) rfl
 have zT : Z.heap[w1.heap.size + 1]? = some (.cells #[.int .i64 t, .int .i64 c] 49 (0, 0)) := by
  rw [← hZ]
  refine heap_alloc_old _ _ _ _ ?_
  refine blkPut (cs := #[.int .i64 t, .int .i64 0]) (blkPut (cs := #[.int .i64 0, .int .i64 0]) ?_ rfl) rfl
  iterate 5 refine blk_else ?_ (by omega) _
  exact qT
 have zS : Z.heap[w1.heap.size + 1 + 1]? = some (.cells #[.bool false] 4 (0, 0)) := by
  rw [← hZ]
  have := heap_alloc_new (((((((V.setCell ⟨w1.heap.size, 0, none⟩ (.int .i64 sz)).setCell ⟨w1.heap.size, 1, none⟩ (.int .i64 gr)).setCell ⟨w1.heap.size, 2, none⟩ (.slice A la.length cv)).setCell ⟨w1.heap.size, 3, none⟩ (.int .i64 ms)).setCell ⟨w1.heap.size, 4, none⟩ (.slice A4 mw.length c4)).setCell ⟨w1.heap.size + 1, 0, none⟩ (.int .i64 t)).setCell ⟨w1.heap.size + 1, 1, none⟩ (.int .i64 c)) (.cells #[.bool false] 4)
  simpa [g2] using this
 have zr : Z.ownsRow w.heap.size 3 1 (.slice A la.length cv) la.length (nums .i64 la) := by
  rw [← hZ]
  refine own_kept ?_ (World.grownBy_alloc _ _ none) (fun r e => by cases e)
  refine row_far (row_far ?_ hrT _) hrT _
  iterate 5 refine row_far ?_ hrO _
  exact HO.out
 have zb : Below w.heap.size w Z := by
  rw [← hZ]
  refine below_alloc ?_ _
  iterate 7 refine setC ?_ (by omega) _
  exact HB1.out
 clear hZ c40 c41 c42 c43 c44 f40 f41 f42 f43 f44 c50 c51 f50 f51 hn3 hn4 hn5 hn3' hn4' hn5' hrO hrT hV hVS q0 q2 qO qT
 refine ⟨trivial, (each_any _ t c _).mono ?_⟩
 rintro e w' ⟨rfl, rfl⟩
 gi_wp2
 have hbi : BI ms mw sz gr (.slice A2 act.length c2) (.slice A la.length cv) la (.slice A4 mw.length c4) t c w w1.heap.size [] (Z.alloc (.cells #[.int .i64 t, .int .i64 c] 49)) := by
  refine ⟨?_, heap_alloc_old _ _ _ _ z0, heap_alloc_old _ _ _ _ z2, heap_alloc_old _ _ _ _ zO, heap_alloc_old _ _ _ _ zT, heap_alloc_old _ _ _ _ zS, ?_, below_alloc zb _⟩
  ·
   exact own_kept zr (World.grownBy_alloc _ _ none) (fun r e => by cases e)
  ·
   have := heap_alloc_new Z (.cells #[.int .i64 t, .int .i64 c] 49)
   rw [zs] at this
   exact this
 have hUs : (Z.alloc (.cells #[.int .i64 t, .int .i64 c] 49)).heap.size = w1.heap.size + 1 + 1 + 1 + 1 := by simp [zs]
 generalize Z.alloc (.cells #[.int .i64 t, .int .i64 c] 49) = U at hbi hUs ⊢
 clear zs z0 z2 zO zT zS zr zb
 refine wpIn_rangeFunc_ownF rfl (by omega) (gf := 64) (lb := #[.pointer (some ⟨w1.heap.size + 1 + 1 + 1, 0, none⟩)]) rfl trivial (enters_of Tryd.func64 (by kernel_rfl) rfl)
  (each_stops _ w.heap.size w (w1.heap.size + 1 + 1 + 1) 10000 t c ht hc htc (by omega) U ⟨hbi.below, hbi.bB⟩ (by omega)) KpE.trans (KpE.putObj (by omega) (by omega) (by omega)) (Below.refl _ _) (fun _ => rfl)
  (fun pre W => BI ms mw sz gr (.slice A2 act.length c2) (.slice A la.length cv) la (.slice A4 mw.length c4) t c w w1.heap.size (valsG pre) W)
  (fun _ _ _ => False)
  (BI.own _ (by omega)) (fun c' => fun _ _ _ _ h _ _ => h.elim) hbi ?act ?assign ?body ?done ?stop
 case assign =>
  intro l x W K hK
  gi_wp2
  exact hK
 case body =>
  rintro l pre x W hI hlen
  have HI := Aside0.mk hI
  obtain ⟨b, hb⟩ := get_some HG.out x.1
  have hnew : isNew ms mw x.1 = !b := by unfold isNew; rw [hb]; rfl
  have hpx : (valsG (pre ++ [x])).any (isNew ms mw) = ((valsG pre).any (isNew ms mw) || !b) := by rw [valsG_append, List.any_append, ← hnew]; simp [valsG]
  have HX := Aside0.mk hpx
  have hgetx := HGET.out W hI.below x.1 b hb
  have HGX := Aside0.mk hgetx
  obtain ⟨p, hp⟩ : ∃ p, p = (valsG pre).any (isNew ms mw) := ⟨_, rfl⟩
  have hbS := hI.bS
  rw [← hp] at hbS hpx
  obtain ⟨cS, fS⟩ := cells1' hbS
  obtain ⟨-, -, -, c03, c04, -, -, -, -, -⟩ := cells5' hI.b0
  have HP := Aside0.mk hpx
  have HPP := Aside0.mk hp
  clear hI hgetx hpx hnew hb hbS hp
  have hstepW : ∀ (W1 : World) (v : Bool), Below W.heap.size W W1 → (valsG (pre ++ [x])).any (isNew ms mw) = v →
    KeepsOthers W (W1.setCell ⟨w1.heap.size + 1 + 1, 0, none⟩ (.bool v)) ∧ KpE w.heap.size (w1.heap.size + 1 + 1 + 1) (w1.heap.size + 1 + 1 + 1) W (W1.setCell ⟨w1.heap.size + 1 + 1, 0, none⟩ (.bool v)) ∧
    BI ms mw sz gr (.slice A2 act.length c2) (.slice A la.length cv) la (.slice A4 mw.length c4) t c w w1.heap.size (valsG (pre ++ [x])) (W1.setCell ⟨w1.heap.size + 1 + 1, 0, none⟩ (.bool v)) := by
   intro W1 v hb1 hv
   have hI := HI.out
   have kf : ∀ (k : Nat) (o : Obj), k ≠ w1.heap.size + 1 + 1 → W.heap[k]? = some o → (W1.setCell ⟨w1.heap.size + 1 + 1, 0, none⟩ (.bool v)).heap[k]? = some o := fun k o hk h => blk_else (blk_of_below h hb1) hk _
   have kB := kf _ _ (by omega) hI.bB
   have hbw : Below w.heap.size W (W1.setCell ⟨w1.heap.size + 1 + 1, 0, none⟩ (.bool v)) := setC (hb1.mono hI.below.size) (by omega) _
   refine ⟨⟨?_, ?_⟩, ⟨hbw, kB.trans hI.bB.symm, kB.trans hI.bB.symm⟩, ?_⟩
   ·
    have := hb1.size; simpa using this
   ·
    intro k o h hc
    by_cases hk : k = w1.heap.size + 1 + 1
    ·
     subst hk
     rw [hI.bS] at h; cases h; cases hc
    ·
     exact kf k o hk h
   ·
    refine ⟨?_, kf _ _ (by omega) hI.b0, kf _ _ (by omega) hI.b2, kf _ _ (by omega) hI.bO, kf _ _ (by omega) hI.bT, ?_, kB, hI.below.trans hbw⟩
    ·
     have hb := blk_of_below hI.bS hb1
     exact row_far (pw_own_below hI.row hb1) (row_ne hb (by decide) (pw_own_below hI.row hb1)) _
    ·
     rw [hv]
     exact blk_set1 (blk_of_below hI.bS hb1) _
  have HSW := Aside0.mk hstepW
  clear hstepW
  cases p
  ·
   gi_wp2
   refine ⟨trivial, (callsIn_wide.2 HGX.out).mono ?_⟩
   rintro e W1 ⟨rfl, hb1⟩
   obtain ⟨cS1, fS1⟩ := cells1' (blk_of_below HI.out.bS hb1)
   have HB1' := Aside0.mk hb1
   clear hb1 cS fS c03 c04
   gi_wp2
   exact HSW.out _ _ HB1'.out (by rw [HP.out]; rfl)
  ·
   gi_wp2
   refine ⟨trivial, ?_⟩
   gi_wp2
   exact HSW.out _ _ (Below.refl _ _) (by rw [HP.out]; rfl)
 case done =>
  rintro D ys W hD hys hI hK
  rw [hys] at hI
  have HI := Aside0.mk hI
  have HK := Aside0.mk hK
  obtain ⟨-, -, -, c03, c04, -, -, -, -, -⟩ := cells5' hI.b0
  obtain ⟨cT0, cT1, -, -⟩ := cells2 hI.bT
  have hset := HSET.out W hI.below
  have HST := Aside0.mk hset
  clear hI hK hys hset
  gi_wp2
  refine ⟨trivial, (callsIn_wide.2 HST.out).mono ?_⟩
  rintro e W1 ⟨v4, rfl, hR4, hb1⟩
  obtain ⟨A5, c5, rfl⟩ := Kd.R_slice hR4
  have HR4 := Aside0.mk hR4
  have HB1' := Aside0.mk hb1
  have hl := (Array.getElem?_eq_some_iff.1 HI.out.bO).1
  have B0 := Aside0.mk (blk_of_below HI.out.b0 hb1)
  have B2' := Aside0.mk (blk_of_below HI.out.b2 hb1)
  have BO := Aside0.mk (blk_of_below HI.out.bO hb1)
  have BS := Aside0.mk (blk_of_below HI.out.bS hb1)
  have BD := Aside0.mk (blk_of_below HK.out hb1)
  have HRW := Aside0.mk (pw_own_below HI.out.row hb1)
  obtain ⟨cO0, cO1, cO2, cO3, cO4, fO0, fO1, fO2, fO3, fO4⟩ := cells5' BO.out
  obtain ⟨cS, fS⟩ := cells1' BS.out
  obtain ⟨c20, c21, c22, c23, c24, f20, f21, f22, f23, f24⟩ := cells5' B2'.out
  have hn1 : w1.heap.size ≠ w.heap.size + 1 + 1 := by omega
  have hn1' := hn1.symm
  have hn2 : w1.heap.size + 1 + 1 ≠ w.heap.size + 1 + 1 := by omega
  have hn2' := hn2.symm
  clear hR4 hb1 c03 c04 cT0 cT1
  gi_wp2
  gi_region
  generalize hZ : World.drew _ = Z
  have qO := row_ne BO.out (by decide) HRW.out
  have q2 := row_ne B2'.out (by decide) HRW.out
  have hD2 : D < W.heap.size := (Array.getElem?_eq_some_iff.1 HK.out).1
  have hOne : w1.heap.size < W.heap.size := hl
  have zf : ∀ (k : Nat) (o : Obj), k ≠ w1.heap.size → k ≠ w.heap.size + 1 + 1 → W1.heap[k]? = some o → Z.heap[k]? = some o := fun k o h1 h2 h => by
   rw [← hZ]
   refine drew_blk ?_
   iterate 5 refine blk_else ?_ h2 _
   iterate 2 refine blk_else ?_ h1 _
   exact h
  have z2 : Z.heap[w.heap.size + 1 + 1]? = some (.cells #[.int .i64 sz, .int .i64 gr, .slice A la.length cv, .int .i64 m1, .slice A5 m2.length c5] 28 (0, 0)) := by
   rw [← hZ]
   refine drew_blk ?_
   refine blkPut (cs := #[.int .i64 sz, .int .i64 gr, .slice A la.length cv, .int .i64 m1, .slice none 0 0]) (blkPut (cs := #[.int .i64 sz, .int .i64 gr, .slice A la.length cv, .int .i64 0, .slice none 0 0]) (blkPut (cs := #[.int .i64 sz, .int .i64 gr, .slice none 0 0, .int .i64 0, .slice none 0 0]) (blkPut (cs := #[.int .i64 sz, .int .i64 0, .slice none 0 0, .int .i64 0, .slice none 0 0]) (blkPut (cs := #[.int .i64 0, .int .i64 0, .slice none 0 0, .int .i64 0, .slice none 0 0]) ?_ rfl) rfl) rfl) rfl) rfl
   iterate 2 refine blk_else ?_ (by omega) _
   exact B2'.out
  have zD : Z.heap[D]? = some (.deferred (some [])) := zf _ _ (by omega) (by omega) BD.out
  have zr : Z.ownsRow w.heap.size 3 1 (.slice A la.length cv) la.length (nums .i64 la) := by
   rw [← hZ]
   refine drew_row ?_
   iterate 5 refine row_far ?_ q2 _
   iterate 2 refine row_far ?_ qO _
   exact HRW.out
  have zb : Below w.heap.size W1 Z := by
   rw [← hZ]
   refine below_drew1 ?_
   iterate 7 refine setC ?_ (by omega) _
   exact Below.refl _ _
  have hRb : Kd.R (Kd.int .u64) 90 W1 W.heap.size (fun k => W.heap.size ≤ k) (.slice A5 m2.length c5) m2 := Kd.R_mono (Kd.R_bound HR4.out) (fun k hk => hk.2.1)
  have zR : Kd.R (Kd.int .u64) 90 Z W.heap.size (fun k => W.heap.size ≤ k) (.slice A5 m2.length c5) m2 := Kd.R_step hRb (fun k hk hlt => by
   obtain ⟨o, ho⟩ : ∃ o, W1.heap[k]? = some o := ⟨_, Array.getElem?_eq_getElem hlt⟩
   rw [ho]
   exact zf _ _ (by omega) (by omega) ho)
  have hW : Below w.heap.size w Z := (HI.out.below.trans (HB1'.out.mono HI.out.below.size)).trans zb
  have HZ := Aside0.mk (And.intro zr (And.intro hW (And.intro zD zR)))
  have H2 := Aside0.mk z2
  clear hZ qO q2 zf z2 zD zr zb hRb zR hW cO0 cO1 cO2 cO3 cO4 fO0 fO1 fO2 fO3 fO4 cS fS c20 c21 c22 c23 c24 f20 f21 f22 f23 f24
  gi_wp2
  refine ⟨by simp, .inl ⟨_, _, rfl, run_takeDeferred HZ.out.2.2.1, ?_⟩⟩
  have hput : ∀ (k : Nat) (o : Obj), k ≠ D → Z.heap[k]? = some o → (Z.putObj D (.deferred none)).heap[k]? = some o := fun k o hk h => (World.putObj_heap_other hk).trans h
  obtain ⟨c30, c31, c32, c33, c34, -, -, -, -, -⟩ := cells5' (hput _ _ (by omega) H2.out)
  have hRD : Kd.R (Kd.int .u64) 90 (Z.putObj D (.deferred none)) W.heap.size (fun k => W.heap.size ≤ k) (.slice A5 m2.length c5) m2 := Kd.R_step HZ.out.2.2.2 (fun k hk hlt => World.putObj_heap_other (by omega))
  refine ⟨.tuple #[vI sz gr (.slice A la.length cv) m1 (.slice A5 m2.length c5), .bool ((eachL t c).any (isNew ms mw)), .int .i64 m3], ?_, .slice A la.length cv, .slice A5 m2.length c5, rfl, Kd.R_of_own (ok := fun _ => True) (ownsRow_putObj HZ.out.1 _ HZ.out.2.2.1 rfl) (fun _ _ => trivial), Kd.R_lower (Kd.R_mono hRD (fun _ _ => trivial)) HI.out.below.size, HZ.out.2.1.trans (belowK_b (w := w) (Nat.le_refl _) Z D _ _ (by omega) HZ.out.2.2.1 rfl rfl)⟩
  simp [results, Tryd.f16, go_sem, *]
 case stop =>
  rintro D c' pre W hD hpre h
  exact h.elim
theorem chgI_ok {one : Int → Int × Int} {sz gr : Int} {act : List Int} {ms : Int} {mw : List Int} {st ct : Int} {la : List Int} {t c : Int} (h : chgI one sz gr act ms mw st ct = some (la, t, c, 0)) :
  iCheck.f 10000 sz gr act ms mw = some 0 ∧ itouched.f sz gr act ms mw st ct = some (t, c, 0) ∧ (chgA one (eachL t c) act).2 = 0 ∧ la = (chgA one (eachL t c) act).1 := by
 unfold chgI at h
 rw [Option.bind_eq_some_iff] at h
 obtain ⟨e0, he0, h⟩ := h
 by_cases c0 : e0 ≠ 0
 ·
  rw [if_pos c0] at h
  have := Option.some.inj h
  simp only [Prod.mk.injEq] at this
  exact absurd this.2.2.2 c0
 ·
  rw [if_neg c0, Option.bind_eq_some_iff] at h
  obtain ⟨⟨t1, c1, e1⟩, ht, h⟩ := h
  simp only at h
  have e00 : e0 = 0 := by simpa using c0
  subst e00
  by_cases c2 : e1 ≠ 0
  ·
   rw [if_pos c2] at h
   have := Option.some.inj h
   simp only [Prod.mk.injEq] at this
   exact absurd this.2.2.2 c2
  ·
   rw [if_neg c2] at h
   have e10 : e1 = 0 := by simpa using c2
   subst e10
   by_cases c3 : (chgA one (eachL t1 c1) act).2 ≠ 0
   ·
    rw [if_pos c3] at h
    have := Option.some.inj h
    simp only [Prod.mk.injEq] at this
    exact absurd this.2.2.2 c3
   ·
    rw [if_neg c3] at h
    have := Option.some.inj h
    simp only [Prod.mk.injEq] at this
    obtain ⟨rfl, rfl, rfl, -⟩ := this
    exact ⟨he0, ht, by simpa using c3, rfl⟩
theorem iBegin.calls (a0_0 : Int) (a0_1 : Int) (A0_2 : Option Addr) (c0_2 : Nat) (l0_2 : List Int) (a0_3 : Int) (A0_4 : Option Addr) (c0_4 : Nat) (l0_4 : List Int) (a1_0 : Int) (a1_1 : Int) (r1 : Int) (r2 : Int) (r3 : List Int) (r4 : Int) (r5 : List Int) (r6 : Bool) (r7 : Int) (w : World) (hr0_2 : Kd.C (Kd.int .i64) w A0_2 l0_2.length l0_2) (hc0_2 : l0_2.length ≤ c0_2) (hr0_4 : Kd.C (Kd.int .u64) w A0_4 l0_4.length l0_4) (hc0_4 : l0_4.length ≤ c0_4) (h : iBegin.f a0_0 a0_1 l0_2 a0_3 l0_4 a1_0 a1_1 = some (r1, r2, r3, r4, r5, r6, r7)) :
 Calls Tryd.prog 16 #[.agg #[.int .i64 a0_0, .int .i64 a0_1, .slice A0_2 l0_2.length c0_2, .int .i64 a0_3, .slice A0_4 l0_4.length c0_4], .agg #[.int .i64 a1_0, .int .i64 a1_1]] w fun e w' => ∃ v2_ v4_ : Value, e = .returned (.tuple #[.agg #[.int .i64 r1, .int .i64 r2, v2_, .int .i64 r4, v4_], .bool r6, .int .i64 r7]) ∧ Kd.R (Kd.int .i64) 3 w' w.heap.size (fun _ => True) v2_ r3 ∧ Kd.R (Kd.int .u64) 90 w' w.heap.size (fun _ => True) v4_ r5 ∧ Below w.heap.size w w' := by
 unfold iBegin.f at h
 rw [Option.bind_eq_some_iff] at h
 obtain ⟨q, hq, h⟩ := h
 by_cases h0 : q.2.2.2 = 0
 ·
  rw [if_neg (by simpa using h0)] at h
  obtain ⟨la, t, c, e⟩ := q
  simp only at h0 h
  subst h0
  obtain ⟨k1, k2, k3, k4⟩ := chgI_ok hq
  obtain ⟨s1, s2, s3, s4, s5⟩ := icheck_ok k1
  obtain ⟨hg, hms⟩ := icheck_good k1
  obtain ⟨b1, b2, b3, -, -, -, -, -⟩ := itouched_ok s1 s2 s3 s4 s5 k2
  have hhi := hg.hi
  have hcase := Option.some.inj h
  simp only [Prod.mk.injEq] at hcase
  obtain ⟨rfl, rfl, rfl, rfl, rfl, rfl, rfl⟩ := hcase
  exact begin_go _ _ A0_2 c0_2 l0_2 a0_3 A0_4 c0_4 l0_4 a1_0 a1_1 w _ t c hq hg b1 (by omega) (by omega) hr0_2 hc0_2 hr0_4 hc0_4 _ _ _ rfl
 ·
  rw [if_pos h0] at h
  have hcase := Option.some.inj h
  simp only [Prod.mk.injEq] at hcase
  obtain ⟨rfl, rfl, rfl, rfl, rfl, rfl, rfl⟩ := hcase
  refine (begin_bad a0_0 a0_1 A0_2 c0_2 l0_2 a0_3 A0_4 c0_4 l0_4 a1_0 a1_1 w q hq h0 hr0_2 hc0_2 hr0_4 hc0_4).mono ?_
  rintro e w' ⟨rfl, hb⟩
  exact ⟨.slice none 0 0, .slice none 0 0, rfl, Kd.R_nil _ _ _ _ _, Kd.R_nil _ _ _ _ _, hb⟩
end Go.Proofs.YtnjbdcnefienhaaDoor.P

namespace Go.Proofs.YtnjbdcnefienhaaDoor.P
open Go.RowKit Go.Proofs.YtnjbdcnefienhaaDoorW.PrintWords Go.Proofs.YtnjbdcnefienhaaDoorW.PrintLast Go.Proofs.YtnjbdcnefienhaaDoorW.PrintMore
attribute [local go_sem] max2_int min2_int max_two min_two max_three min_three max_four min_four   -- for this text's walks alone
set_option linter.unusedVariables false
set_option linter.unusedSimpArgs false
theorem eqA49 (d : Nat) (w : World) (x0 y0 : Int) (x1 y1 : Int) :
    (Op.equalIn (d + 2) 49 (.agg #[.int .i64 x0, .int .i64 x1]) (.agg #[.int .i64 y0, .int .i64 y1])).run Tryd.prog w = .ok (x0 == y0 && (x1 == y1)) w := by
  refine eqA_of Tryd.underlying49 (by kernel_rfl) ?_
  refine eqf_cons (by rfl) (by go_simp; rfl) (by go_simp; rfl) (by go_simp) ?_
  exact eqf_last (by rfl) (by go_simp; rfl) (by go_simp; rfl) (by go_simp)
end Go.Proofs.YtnjbdcnefienhaaDoor.P

namespace Go.Proofs.YtnjbdcnefienhaaDoor.P
open Go.RowKit Go.Proofs.YtnjbdcnefienhaaDoorW.PrintWords Go.Proofs.YtnjbdcnefienhaaDoorW.PrintLast Go.Proofs.YtnjbdcnefienhaaDoorW.PrintMore
set_option maxHeartbeats 4000000 in
set_option maxRecDepth 100000 in
theorem number_any (g : Nat) (A : Option Addr) (c : Nat) (l : List Int) (w : World) (hg : w.heap[g]? = some (.cells #[.slice A l.length c] 126 (0, 0))) (hC : Kd.C (Kd.int .u8) w A l.length l) (hc : l.length ≤ c) (hl : l.length ≤ 1000000) :
  Calls Tryd.prog 69 #[.pointer (some ⟨g, 0, none⟩)] w fun e w' => e = .returned (.tuple #[.int .i64 (dec7 8 0 0 l).1, .int .i64 (dec7 8 0 0 l).2.2]) ∧
   (((dec7 8 0 0 l).2.2 ≠ 0 ∧ w' = w) ∨ (dec7 8 0 0 l).2.2 = 0 ∧ ∃ (A' : Option Addr) (c' : Nat), (∀ X : World, Kd.C (Kd.int .u8) X A l.length l → Kd.C (Kd.int .u8) X A' (dec7 8 0 0 l).2.1.length (dec7 8 0 0 l).2.1) ∧ (dec7 8 0 0 l).2.1.length ≤ c' ∧ w' = w.setCell ⟨g, 0, none⟩ (.slice A' (dec7 8 0 0 l).2.1.length c')) := by
 obtain ⟨cg, fg⟩ : w.cell? ⟨g, 0, none⟩ = some (.slice A l.length c) ∧ w.frozen? ⟨g, 0, none⟩ = false := ⟨(blk_cell hg 0).trans rfl, blk_frozen hg 0⟩
 have HC := Aside0.mk hC
 clear hC hg
 go_enter Tryd.func69, Tryd.ntmps69
 go_wp2
 go_loopw [4, 7] (fun v i wr => ∃ (k : Nat) (n : Int), k ≤ 8 ∧ i = .int .i64 k ∧ v = .int .i64 n ∧ wr = w ∧ Aside0 (k ≤ l.length ∧ dec7 8 0 0 l = dec7 (8 - k) k n (l.drop k)))
  (fun _ i _ => 8 - (intOf i).toNat)
 case atStart => exact ⟨0, 0, by omega, rfl, rfl, rfl, ⟨Nat.zero_le _, rfl⟩⟩
 case round =>
  obtain ⟨k, n, hk, rfl, rfl, rfl, HD⟩ := hrel
  by_cases h8 : k < 8
  ·
   by_cases hkl : k < l.length
   ·
    obtain ⟨ad, hA, hxk⟩ : ∃ ad, A = some ad ∧ wr.cell? (ad.add k) = some (.int .u8 (l[k])) := by
     obtain ⟨ad, e, h⟩ := HC.out.2.2 (by omega)
     obtain ⟨cs, hl', hk', hcell⟩ := h k _ (List.getElem?_eq_getElem hkl)
     have hcs : cs = [Value.int .u8 l[k]] := hk'
     subst hcs
     exact ⟨ad, e, by simpa [show (Kd.int .u8).sz = 1 from rfl] using hcell 0 _ rfl⟩
    subst hA
    obtain ⟨b, hb⟩ : ∃ b, b = l[k] := ⟨_, rfl⟩
    rw [← hb] at hxk
    have HBB := Aside0.mk hb
    clear hb
    have hge : decide ((k : Int) ≥ (l.length : Int)) = false := by rw [decide_eq_false_iff_not]; omega
    have HDS : Aside0 (dec7 8 0 0 l = if (Go.bits .and .u8 b 128 != 0) = true then dec7 (7 - k) (k + 1) (valB n b k) (l.drop (k + 1)) else if (b = 0 ∧ 0 < k) ∨ valB n b k > 9007199254740991 then (0, [], 3) else (valB n b k, l.drop (k + 1), 0)) := ⟨by
     rw [HD.out.2, show 8 - k = (7 - k) + 1 from by omega, List.drop_eq_getElem_cons hkl, ← HBB.out, dec7]⟩
    by_cases h128 : (Go.bits .and .u8 b 128 != 0) = true
    ·
     go_wp2
     refine ⟨⟨k + 1, valB n b k, by omega, by go_num, rfl, trivial, ⟨by omega, ?_⟩⟩, by simp [intOf]; omega⟩
     rw [HDS.out, if_pos h128, show 8 - (k + 1) = 7 - k from by omega]
    ·
     have hf : (Go.bits .and .u8 b 128 != 0) = false := by simpa using h128
     have HDS2 := HDS.out
     rw [if_neg h128] at HDS2
     have HDT := Aside0.mk HDS2
     clear h128 HDS2
     by_cases hbad : (b = 0 ∧ 0 < k) ∨ valB n b k > 9007199254740991
     ·
      have HE := HDT.out
      rw [if_pos hbad] at HE
      have HEE := Aside0.mk HE
      clear HE
      go_wp2
      all_goals first
       | (refine bodyPost_ret (v := .tuple #[.int .i64 0, .int .i64 3]) (by simp [results, Tryd.results69, go_sem]) rfl ⟨by rw [HEE.out], .inl ⟨by rw [HEE.out]; decide, rfl⟩⟩)
       | (exfalso; unfold valB at hbad; subst_vars; omega)
       | (exfalso; unfold valB at hbad; subst_vars; simp at hbad; omega)
     ·
      have HE := HDT.out
      rw [if_neg hbad] at HE
      have HEE := Aside0.mk HE
      clear HE
      have HCD : ∀ X : World, Kd.C (Kd.int .u8) X (some ad) l.length l → Kd.C (Kd.int .u8) X (if c = k + 1 then some ad else (some ad).map (·.add ((k + 1) * (Kd.int .u8).sz))) (l.drop (k + 1)).length (l.drop (k + 1)) := fun X hX => Kd.C_drop (m := k + 1) hX (by omega) hc
      have hsz : (Kd.int .u8).sz = 1 := rfl
      rw [hsz, Nat.mul_one] at HCD
      have HLD : Aside0 ((l.drop (k + 1)).length = l.length - (k + 1)) := ⟨by simp⟩
      by_cases hck : c = k + 1
      ·
       rw [if_pos hck] at HCD
       have HCE := Aside0.mk HCD
       clear HCD hsz
       subst hck
       go_wp2
       all_goals first
        | (exfalso; unfold valB at hbad; subst_vars; omega)
        | (exfalso; unfold valB at hbad; subst_vars; simp at hbad; omega)
        | (subst_vars; refine bodyPost_ret (v := .tuple #[.int .i64 (dec7 8 0 0 l).1, .int .i64 0]) (by simp [results, Tryd.results69, go_sem, HEE.out, valB]) rfl ⟨by rw [HEE.out], .inr ⟨by rw [HEE.out], some ad, 0, by rw [HEE.out]; exact HCE.out, by rw [HEE.out]; simp only [List.length_drop]; omega, by rw [HEE.out]; simp only [HLD.out]; first | rfl | (congr 2; omega)⟩⟩)
        | (subst_vars; refine bodyPost_ret (v := .tuple #[.int .i64 (dec7 8 0 0 l).1, .int .i64 0]) (by simp [results, Tryd.results69, go_sem, HEE.out, valB]) rfl ⟨by rw [HEE.out], .inr ⟨by rw [HEE.out], some ad, 0, by rw [HEE.out]; exact HCE.out, by rw [HEE.out]; simp only [List.length_drop]; omega, ?_⟩⟩; rw [HEE.out]; simp only [HLD.out]; first | rfl | (congr 2; omega) | trace_state)
      ·
       rw [if_neg hck] at HCD
       have HCE := Aside0.mk HCD
       have HCK := Aside0.mk hck
       clear HCD hsz hck
       go_wp2
       all_goals first
        | (exfalso; unfold valB at hbad; subst_vars; omega)
        | (exfalso; unfold valB at hbad; subst_vars; simp at hbad; omega)
        | (exfalso; subst_vars; exact HCK.out rfl)
        | (subst_vars; refine bodyPost_ret (v := .tuple #[.int .i64 (dec7 8 0 0 l).1, .int .i64 0]) (by simp [results, Tryd.results69, go_sem, HEE.out, valB]) rfl ⟨by rw [HEE.out], .inr ⟨by rw [HEE.out], some (ad.add (k + 1)), by rw [HEE.out]; exact HCE.out, c - (k + 1), by rw [HEE.out]; simp only [List.length_drop]; omega, by rw [HEE.out]; simp [HLD.out, Go.Addr.add]⟩⟩)
        | (subst_vars; refine bodyPost_ret (v := .tuple #[.int .i64 (dec7 8 0 0 l).1, .int .i64 0]) (by simp [results, Tryd.results69, go_sem, HEE.out, valB]) rfl ⟨by rw [HEE.out], .inr ⟨by rw [HEE.out], some (ad.add (0 + 1)), by rw [HEE.out]; exact HCE.out, c - (0 + 1), by rw [HEE.out]; simp only [List.length_drop]; omega, by rw [HEE.out]; simp [HLD.out, Go.Addr.add]⟩⟩)
   ·
    have hd : l.drop k = [] := List.drop_eq_nil_of_le (by omega)
    have HE : Aside0 (dec7 8 0 0 l = (0, [], 10)) := ⟨by rw [HD.out.2, show 8 - k = (7 - k) + 1 from by omega, hd, dec7]⟩
    have hge : decide ((k : Int) ≥ (l.length : Int)) = true := by rw [decide_eq_true_iff]; omega
    go_wp2
    refine bodyPost_ret (v := .tuple #[.int .i64 0, .int .i64 10]) ?_ rfl ⟨by rw [HE.out], .inl ⟨by rw [HE.out]; decide, rfl⟩⟩
    simp [results, Tryd.results69, go_sem]
  ·
   obtain rfl : k = 8 := by omega
   have HE : Aside0 (dec7 8 0 0 l = (0, [], 3)) := ⟨by rw [HD.out.2]; rfl⟩
   go_wp2
   refine bodyPost_ret (v := .tuple #[.int .i64 0, .int .i64 3]) ?_ rfl ⟨by rw [HE.out], .inl ⟨by rw [HE.out]; decide, rfl⟩⟩
   simp [results, Tryd.results69, go_sem]
end Go.Proofs.YtnjbdcnefienhaaDoor.P

namespace Go.Proofs.YtnjbdcnefienhaaDoor.P
open Go.RowKit Go.Proofs.YtnjbdcnefienhaaDoorW.PrintWords Go.Proofs.YtnjbdcnefienhaaDoorW.PrintLast Go.Proofs.YtnjbdcnefienhaaDoorW.PrintMore
theorem dec7_len : ∀ (k i : Nat) (n : Int) (l : List Int), (dec7 k i n l).2.1.length ≤ l.length
  | 0, _, _, _ => by simp [dec7]
  | _ + 1, _, _, [] => by simp [dec7]
  | k + 1, i, n, b :: l => by
    rw [dec7]
    split
    · have := dec7_len k (i + 1) (valB n b i) l; rw [List.length_cons]; omega
    · split
      · simp
      · simp
theorem dec7_bad : ∀ (k i : Nat) (n : Int) (l : List Int), (dec7 k i n l).2.2 ≠ 0 → (dec7 k i n l).1 = 0 ∧ (dec7 k i n l).2.1 = []
  | 0, _, _, _, _ => ⟨rfl, rfl⟩
  | _ + 1, _, _, [], _ => ⟨rfl, rfl⟩
  | k + 1, i, n, b :: l, h => by
    rw [dec7] at h ⊢
    split
    · rename_i c; rw [if_pos c] at h; exact dec7_bad k (i + 1) (valB n b i) l h
    · rename_i c
      rw [if_neg c] at h
      split
      · exact ⟨rfl, rfl⟩
      · rename_i c2; rw [if_neg c2] at h; exact absurd rfl h
set_option maxHeartbeats 4000000 in
set_option maxRecDepth 100000 in
theorem read_int (A : Option Addr) (c : Nat) (l : List Int) (w : World) (hC : Kd.C (Kd.int .u8) w A l.length l) (hc : l.length ≤ c) (hl : l.length ≤ 1000000) :
    Calls Tryd.prog 68 #[.slice A l.length c, .func (.func 69) #[] #[]] w fun e w' => ∃ v, e = .returned (.tuple #[.int .i64 (decI l).1, v, .int .i64 (decI l).2.2]) ∧ Kd.R (Kd.int .u8) 5 w' w.heap.size (fun _ => True) v (decI l).2.1 ∧ Below w.heap.size w w' := by
  have HC := Aside0.mk hC
  clear hC
  have eby : ∀ args w, (callFunc 69 args).run Tryd.prog w = .ok (.enter 69 args) w := enters_of Tryd.func69 (by kernel_rfl) rfl
  go_enter Tryd.func68, Tryd.ntmps68
  go_wp2_with fail
  have hB0 : Below w.heap.size w (w.alloc (.cells #[.slice A l.length c] 126)) := below_alloc (Below.refl _ _) _
  have hg0 := heap_alloc_new w (.cells #[.slice A l.length c] 126)
  refine (number_any w.heap.size A c l _ hg0 (Kd.C_below HC.out hB0) hc hl).mono ?_
  generalize w.alloc (.cells #[.slice A l.length c] 126) = W at hB0 hg0
  rintro e w1 ⟨rfl, ⟨hne, rfl⟩ | ⟨h0, A', c', hC', hl', rfl⟩⟩
  · have HB := Aside0.mk hB0
    have HN := Aside0.mk hne
    have hb := dec7_bad 8 0 0 l hne
    have hbq : ((dec7 8 0 0 l).2.2 != 0) = true := by simpa using hne
    have HBQ := Aside0.mk hb
    clear hB0 hg0 hne hb
    go_wp2
    refine bodyPost_ret (v := .tuple #[.int .i64 0, .slice none 0 0, .int .i64 (dec7 8 0 0 l).2.2]) ?_ rfl ⟨.slice none 0 0, ?_, ?_, HB.out⟩
    · simp [results, Tryd.results68, go_sem]
    · unfold decI; rw [HBQ.out.1]
    · unfold decI; rw [HBQ.out.2]; exact Kd.R_nil _ _ _ _ _
  · have HB := Aside0.mk hB0
    have HL := Aside0.mk hl'
    have H0 := Aside0.mk h0
    have hlen := dec7_len 8 0 0 l
    have hcl : (W.setCell ⟨w.heap.size, 0, none⟩ (.slice A' (dec7 8 0 0 l).2.1.length c')).cell? ⟨w.heap.size, 0, none⟩ = some (.slice A' (dec7 8 0 0 l).2.1.length c') := World.cell?_setCell_same' _ _ _ (by rw [(blk_cell hg0 0).trans rfl]; rfl)
    have hset : Below w.heap.size w (W.setCell ⟨w.heap.size, 0, none⟩ (.slice A' (dec7 8 0 0 l).2.1.length c')) := hB0.setCell (p := ⟨w.heap.size, 0, none⟩) (Nat.le_refl _) _
    have HC2 := Aside0.mk (hC' _ (Kd.C_below HC.out hset))
    have HS := Aside0.mk hset
    have HLEN := Aside0.mk hlen
    clear hg0 hB0 hC' hl' hset hlen
    generalize W.setCell ⟨w.heap.size, 0, none⟩ (.slice A' (dec7 8 0 0 l).2.1.length c') = V at hcl HC2 HS ⊢
    rw [h0]
    clear h0
    go_wp2_with fail
    refine (slices_Clone_byte_byte.calls A' c' _ _ V HC2.out HL.out (by unfold slices_Clone_byte_byte.f; rw [if_pos (by have := HLEN.out; omega)])).mono ?_
    rintro e w2 ⟨v2, rfl, hR2, hb2⟩
    have HR2 := Aside0.mk (Kd.R_lower hR2 HS.out.size)
    have HB2 := Aside0.mk (below_step HS.out hb2)
    clear hR2 hb2
    go_wp2
    refine bodyPost_ret (v := .tuple #[.int .i64 (dec7 8 0 0 l).1, v2, .int .i64 0]) ?_ rfl ⟨v2, ?_, HR2.out, HB2.out⟩
    · simp [results, Tryd.results68, go_sem]
    · unfold decI; rw [H0.out]
set_option maxHeartbeats 2000000 in
theorem wire_Int.calls (A0 : Option Addr) (c0 : Nat) (l0 : List Int) (r1 : Int) (r2 : List Int) (r3 : Int) (w : World) (hr0 : Kd.C (Kd.int .u8) w A0 l0.length l0) (hc0 : l0.length ≤ c0) (h : wire_Int.f l0 = some (r1, r2, r3)) :
  Calls Tryd.prog 46 #[.slice A0 l0.length c0] w fun e w' => ∃ v1_ : Value, e = .returned (.tuple #[.int .i64 r1, v1_, .int .i64 r3]) ∧ Kd.R (Kd.int .u8) 5 w' w.heap.size (fun _ => True) v1_ r2 ∧ Below w.heap.size w w' := by
  unfold wire_Int.f at h
  by_cases hl : l0.length ≤ 1000000
  · rw [if_pos hl] at h
    have hd := Option.some.inj h
    obtain ⟨rfl, rfl, rfl⟩ : (decI l0).1 = r1 ∧ (decI l0).2.1 = r2 ∧ (decI l0).2.2 = r3 := by rw [hd]; exact ⟨rfl, rfl, rfl⟩
    have HR := Aside0.mk (read_int A0 c0 l0 w hr0 hc0 hl)
    clear h hd hr0 hc0
    go_enter Tryd.func46, Tryd.ntmps46
    go_wp2_with fail
    refine HR.out.mono ?_
    rintro e w1 ⟨v, rfl, hv, hb⟩
    have HV := Aside0.mk hv
    have HB := Aside0.mk hb
    clear hv hb
    go_wp2
    refine bodyPost_ret (v := .tuple #[.int .i64 (decI l0).1, v, .int .i64 (decI l0).2.2]) ?_ rfl ⟨v, rfl, HV.out, HB.out⟩
    simp [results, Tryd.results46, go_sem]
  · rw [if_neg hl] at h
    cases h
end Go.Proofs.YtnjbdcnefienhaaDoor.P

namespace Go.Proofs.YtnjbdcnefienhaaDoor.P
open Go.RowKit Go.Proofs.YtnjbdcnefienhaaDoorW.PrintWords Go.Proofs.YtnjbdcnefienhaaDoorW.PrintLast Go.Proofs.YtnjbdcnefienhaaDoorW.PrintMore
structure KF (g : Nat) (W W' : World) : Prop where
 below : Below 0 W W'
 keep : ∀ k, k < W.heap.size → k ≠ g → W'.heap[k]? = W.heap[k]?
theorem KF.refl (g : Nat) (W : World) : KF g W W := ⟨Below.refl _ _, fun _ _ _ => rfl⟩
theorem KF.trans {g : Nat} {X Y Z : World} (h : KF g X Y) (k : KF g Y Z) : KF g X Z := ⟨h.below.trans k.below, fun j hj hg => (k.keep j (Nat.lt_of_lt_of_le hj h.below.size) hg).trans (h.keep j hj hg)⟩
theorem KF.of_below {g : Nat} {X Y : World} (h : Below X.heap.size X Y) : KF g X Y := ⟨h.mono (Nat.zero_le _), fun k hk _ => h.block k hk⟩
theorem KF.set (g o : Nat) (W : World) (v : Value) : KF g W (W.setCell ⟨g, o, none⟩ v) := ⟨(Below.refl 0 W).setCell (p := ⟨g, o, none⟩) (Nat.zero_le _) v, fun k _ hk => Below.heap_setCell W ⟨g, o, none⟩ v k hk⟩
theorem KF.from {g n : Nat} {X Y : World} (h : KF g X Y) (hg : n ≤ g) (hn : n ≤ X.heap.size) : Below n X Y := ⟨h.below.os, h.below.tape, h.below.output, h.below.size, fun k hk => h.keep k (by omega) (by omega)⟩
structure CurF (w0 : World) (g : Nat) (l : List Int) (W : World) : Prop where
 cell : ∃ A c, W.heap[g]? = some (.cells #[.slice A l.length c] 126 (0, 0)) ∧ Kd.C (Kd.int .u8) w0 A l.length l ∧ l.length ≤ c
 below : Below w0.heap.size w0 W
 base : w0.heap.size ≤ g
 len : l.length ≤ 1000000
theorem CurF.step {w0 : World} {g : Nat} {l : List Int} {X Y : World} (h : CurF w0 g l X) (k : Below X.heap.size X Y) : CurF w0 g l Y := by
 obtain ⟨A, c, h1, h2, h3⟩ := h.cell
 exact ⟨⟨A, c, blk_of_below h1 k, h2, h3⟩, h.below.trans (k.mono h.below.size), h.base, h.len⟩
theorem number_cur {w0 : World} {g : Nat} {l : List Int} {W : World} (h : CurF w0 g l W) :
  Calls Tryd.prog 69 #[.pointer (some ⟨g, 0, none⟩)] W fun e w' => e = .returned (.tuple #[.int .i64 (decI l).1, .int .i64 (decI l).2.2]) ∧ KF g W w' ∧ ((decI l).2.2 = 0 → CurF w0 g (decI l).2.1 w') := by
 obtain ⟨A, c, h1, h2, h3⟩ := h.cell
 refine (number_any g A c l W h1 (Kd.C_below h2 h.below) h3 h.len).mono ?_
 rintro e w' ⟨rfl, ⟨hne, rfl⟩ | ⟨h0, A', c', hC, hl, rfl⟩⟩
 ·
  exact ⟨rfl, KF.refl _ _, fun h0 => absurd h0 hne⟩
 ·
  refine ⟨rfl, KF.set _ _ _ _, fun _ => ⟨⟨A', c', ?_, hC _ h2, hl⟩, setC h.below h.base _, h.base, Nat.le_trans (dec7_len 8 0 0 l) h.len⟩⟩
  exact blkPut (cs := #[.slice A l.length c]) h1 rfl
set_option maxHeartbeats 4000000 in
set_option maxRecDepth 100000 in
theorem length_cur {w0 : World} {g : Nat} {l : List Int} {W : World} (h : CurF w0 g l W) :
  Calls Tryd.prog 82 #[.pointer (some ⟨g, 0, none⟩)] W fun e w' => ∃ n, e = .returned (.tuple #[.int .i64 n, .int .i64 (decLen l).2.2]) ∧ KF g W w' ∧ ((decLen l).2.2 = 0 → n = (decLen l).1 ∧ CurF w0 g (decLen l).2.1 w') := by
 have H := Aside0.mk h
 clear h
 go_enter Tryd.func82, Tryd.ntmps82
 go_wp2_with fail
 refine (number_cur H.out).mono ?_
 rintro e w1 ⟨rfl, hk, hcur⟩
 have HK := Aside0.mk hk
 have HC := Aside0.mk hcur
 clear hk hcur
 obtain ⟨⟨n, m, e0⟩, hd⟩ : ∃ q, q = decI l := ⟨_, rfl⟩
 have HD := Aside0.mk hd.symm
 rw [← hd]
 clear hd
 by_cases h0 : e0 = 0
 ·
  subst h0
  by_cases hn : n > 65536
  ·
   have HL : Aside0 ((decLen l).2.2 = 5) := ⟨by unfold decLen; rw [HD.out, if_pos rfl, if_pos hn]⟩
   go_wp2
   refine bodyPost_ret (v := .tuple #[.int .i64 n, .int .i64 5]) (by simp [results, Tryd.results82, go_sem]) rfl ⟨n, by rw [HL.out], HK.out, fun h => absurd (HL.out.symm.trans h) (by decide)⟩
  ·
   have HL : Aside0 (decLen l = (n, m, 0)) := ⟨by unfold decLen; rw [HD.out, if_pos rfl, if_neg hn]⟩
   go_wp2
   refine bodyPost_ret (v := .tuple #[.int .i64 n, .int .i64 0]) (by simp [results, Tryd.results82, go_sem]) rfl ⟨n, by rw [HL.out], HK.out, fun _ => ⟨by rw [HL.out], ?_⟩⟩
   have := HC.out
   rw [HD.out] at this
   rw [HL.out]
   exact this rfl
 ·
  have HL : Aside0 ((decLen l).2.2 = e0) := ⟨by unfold decLen; rw [HD.out, if_neg h0]⟩
  have hne : (e0 == 0) = false := by simpa using h0
  have HN := Aside0.mk h0
  clear h0
  go_wp2
  refine bodyPost_ret (v := .tuple #[.int .i64 n, .int .i64 e0]) (by simp [results, Tryd.results82, go_sem]) rfl ⟨n, by rw [HL.out], HK.out, fun h => absurd (HL.out.symm.trans h) HN.out⟩
set_option maxHeartbeats 4000000 in
set_option maxRecDepth 100000 in
theorem pair_cur {w0 : World} {g : Nat} {l : List Int} {W : World} (h : CurF w0 g l W) :
  Calls Tryd.prog 83 #[.pointer (some ⟨g, 0, none⟩)] W fun e w' => ∃ a b, e = .returned (.tuple #[.int .i64 a, .int .i64 b, .int .i64 (decE l).2.2]) ∧ KF g W w' ∧ ((decE l).2.2 = 0 → (decE l).1 = ⟨a, b⟩ ∧ CurF w0 g (decE l).2.1 w') := by
 have H := Aside0.mk h
 clear h
 go_enter Tryd.func83, Tryd.ntmps83
 go_wp2_with fail
 refine (number_cur H.out).mono ?_
 rintro e w1 ⟨rfl, hk, hcur⟩
 have HK := Aside0.mk hk
 have HC := Aside0.mk hcur
 clear hk hcur
 obtain ⟨⟨n, m, e0⟩, hd⟩ : ∃ q, q = decI l := ⟨_, rfl⟩
 have HD := Aside0.mk hd.symm
 rw [← hd] at HC
 rw [← hd]
 clear hd
 by_cases h0 : e0 = 0
 ·
  subst h0
  have HC1 := Aside0.mk (HC.out rfl)
  go_wp2_with fail
  refine (number_cur HC1.out).mono ?_
  rintro e w2 ⟨rfl, hk2, hcur2⟩
  have HK2 := Aside0.mk (HK.out.trans hk2)
  have HC2 := Aside0.mk hcur2
  clear hk2 hcur2
  obtain ⟨⟨n2, m2, e2⟩, hd⟩ : ∃ q, q = decI m := ⟨_, rfl⟩
  have HD2 := Aside0.mk hd.symm
  have HE : Aside0 (decE l = if e2 ≠ 0 then (⟨0, 0⟩, [], e2) else (⟨n, n2⟩, m2, 0)) := ⟨by unfold decE; rw [HD.out, if_neg (by simp)]; simp only []; rw [← hd]⟩
  simp only [] at HC2 ⊢
  rw [← hd] at HC2
  rw [← hd]
  clear hd
  go_wp2
  refine bodyPost_ret (v := .tuple #[.int .i64 n, .int .i64 n2, .int .i64 e2]) (by simp [results, Tryd.results83, go_sem]) rfl ⟨n, n2, ?_, HK2.out, ?_⟩
  ·
   rw [HE.out]
   by_cases h2 : e2 = 0
   ·
    rw [if_neg (by simpa using h2), h2]
   ·
    rw [if_pos h2]
  ·
   rw [HE.out]
   by_cases h2 : e2 = 0
   ·
    rw [if_neg (by simpa using h2)]
    exact fun _ => ⟨rfl, HC2.out h2⟩
   ·
    rw [if_pos h2]
    exact fun h => absurd h h2
 ·
  have HL : Aside0 ((decE l).2.2 = e0) := ⟨by unfold decE; rw [HD.out, if_pos h0]⟩
  have hne : (e0 != 0) = true := by simpa using h0
  have HN := Aside0.mk h0
  clear h0
  go_wp2
  refine bodyPost_ret (v := .tuple #[.int .i64 0, .int .i64 0, .int .i64 e0]) (by simp [results, Tryd.results83, go_sem]) rfl ⟨0, 0, by rw [HL.out], HK.out, fun h => absurd (HL.out.symm.trans h) HN.out⟩
set_option maxHeartbeats 4000000 in
set_option maxRecDepth 100000 in
theorem extent_cur {w0 : World} {g : Nat} {l : List Int} {W : World} (h : CurF w0 g l W) (hgW : g < W.heap.size) :
  Calls Tryd.prog 73 #[.pointer (some ⟨g, 0, none⟩)] W fun e w' => ∃ a b, e = .returned (.tuple #[.agg #[.int .i64 a, .int .i64 b], .int .i64 (decE l).2.2]) ∧ KF g W w' ∧ ((decE l).2.2 = 0 → (decE l).1 = ⟨a, b⟩ ∧ CurF w0 g (decE l).2.1 w') := by
 have H := Aside0.mk h
 have HG := Aside0.mk hgW
 clear h hgW
 go_enter Tryd.func73, Tryd.ntmps73
 go_wp2_with fail
 have hB0 : Below W.heap.size W (W.alloc (.cells #[.int .i64 0, .int .i64 0] 49)) := below_alloc (Below.refl _ _) _
 have hN0 := heap_alloc_new W (.cells #[.int .i64 0, .int .i64 0] 49)
 have hS0 : (W.alloc (.cells #[.int .i64 0, .int .i64 0] 49)).heap.size = W.heap.size + 1 := by simp
 generalize W.alloc (.cells #[.int .i64 0, .int .i64 0] 49) = V at hB0 hN0 hS0 ⊢
 refine (pair_cur (H.out.step hB0)).mono ?_
 rintro e w1 ⟨a, b, rfl, hk, hcur⟩
 have hN1 : w1.heap[W.heap.size]? = some (.cells #[.int .i64 0, .int .i64 0] 49 (0, 0)) := (hk.keep _ (by omega) (by have := HG.out; omega)).trans hN0
 have HK := Aside0.mk ((KF.of_below (g := g) hB0).trans hk)
 have HC := Aside0.mk hcur
 obtain ⟨c0, c1, f0, f1⟩ := cells2 hN1
 have HNN := Aside0.mk hN1
 clear hk hcur hB0 hN0 hS0 hN1
 go_wp2
 refine bodyPost_ret (v := .tuple #[.agg #[.int .i64 a, .int .i64 b], .int .i64 (decE l).2.2]) ?_ rfl ⟨a, b, rfl, ?_, ?_⟩
 ·
  simp [results, Tryd.results73, go_sem, *]
 ·
  refine ⟨setC (setC HK.out.below (Nat.zero_le _) _) (Nat.zero_le _) _, fun k hk hg => ?_⟩
  rw [Below.heap_setCell _ _ _ _ (by show k ≠ W.heap.size; omega), Below.heap_setCell _ _ _ _ (by show k ≠ W.heap.size; omega)]
  exact HK.out.keep k hk hg
 ·
  intro h0
  obtain ⟨h1, h2⟩ := HC.out h0
  refine ⟨h1, ?_⟩
  obtain ⟨A, c, q1, q2, q3⟩ := h2.cell
  have hgn : g ≠ W.heap.size := by have := HG.out; omega
  exact ⟨⟨A, c, blk_else (blk_else q1 hgn _) hgn _, q2, q3⟩, setC (setC h2.below H.out.below.size _) H.out.below.size _, h2.base, h2.len⟩
theorem KF.row {g b : Nat} {X Y : World} {e size n : Nat} {v : Value} {xs : List Value} (h : KF g X Y) (ho : X.ownsRow b e size v n xs) (hg : g < b) : Y.ownsRow b e size v n xs :=
 own_move ho fun k hk => h.keep k (own_lt ho k hk) (by have := own_base ho k hk; omega)
theorem decEs_bad : ∀ (n : Nat) (out : List S49) (l : List Int), (decEs n out l).2.2 ≠ 0 → (decEs n out l).1 = [] ∧ (decEs n out l).2.1 = []
 | 0, _, _, h => absurd rfl h
 | n + 1, out, l, h => by
  rw [decEs] at h ⊢
  split
  ·
   exact ⟨rfl, rfl⟩
  ·
   rename_i c
   rw [if_neg c] at h
   exact decEs_bad n _ _ h
theorem decL_bad (l : List Int) (h : (decL l).2.2 ≠ 0) : (decL l).1 = [] ∧ (decL l).2.1 = [] := by
 unfold decL at h ⊢
 split
 ·
  exact ⟨rfl, rfl⟩
 ·
  rename_i c
  rw [if_neg c] at h
  exact decEs_bad _ _ _ h
theorem decLen_le (l : List Int) (h : (decLen l).2.2 = 0) : (decLen l).1 ≤ 65536 := by
 unfold decLen at h ⊢
 split
 ·
  rename_i c
  rw [if_pos c] at h
  split
  ·
   rename_i c2
   rw [if_pos c2] at h; cases h
  ·
   omega
 ·
  rename_i c
  rw [if_neg c] at h
  exact absurd h c
set_option maxHeartbeats 4000000 in
set_option maxRecDepth 100000 in
theorem list_cur {w0 : World} {g : Nat} {l : List Int} {W : World} (h : CurF w0 g l W) (hgW : g < W.heap.size) :
  Calls Tryd.prog 72 #[.pointer (some ⟨g, 0, none⟩), .func (.func 73) #[] #[]] W fun e w' => ∃ v, e = .returned (.tuple #[v, .int .i64 (decL l).2.2]) ∧ KF g W w' ∧
   (((decL l).2.2 = 0 ∧ w'.ownsRow W.heap.size 49 2 v (decL l).1.length (flat (decL l).1) ∧ CurF w0 g (decL l).2.1 w') ∨ ((decL l).2.2 ≠ 0 ∧ v = .slice none 0 0)) := by
 have H := Aside0.mk h
 have HG := Aside0.mk hgW
 clear h hgW
 have eby : ∀ args w, (callFunc 73 args).run Tryd.prog w = .ok (.enter 73 args) w := enters_of Tryd.func73 (by kernel_rfl) rfl
 go_enter Tryd.func72, Tryd.ntmps72
 go_wp2_with fail
 refine (length_cur H.out).mono ?_
 rintro e w1 ⟨n, rfl, hk, hcur⟩
 have HK := Aside0.mk hk
 have HC := Aside0.mk hcur
 have HLE := Aside0.mk (decLen_le l)
 clear hk hcur
 obtain ⟨⟨n0, m, e0⟩, hd⟩ : ∃ q, q = decLen l := ⟨_, rfl⟩
 have HD := Aside0.mk hd.symm
 rw [← hd] at HC HLE
 rw [← hd]
 clear hd
 by_cases h0 : e0 = 0
 ·
  subst h0
  obtain ⟨hn, hc⟩ := HC.out rfl
  have hn65 := HLE.out rfl
  simp only at hn hn65
  subst hn
  have HL : Aside0 (decL l = decEs n.toNat [] m) := ⟨by unfold decL; rw [HD.out, if_neg (by simp)]⟩
  have HC1 := Aside0.mk hc
  clear hc HC HLE HD
  go_wp2_with fail
  go_loopw [8, 20] (fun v i wr => ∃ (k : Nat) (out : List S49) (lk : List Int), ((k : Int) ≤ n ∨ k = 0) ∧ i = .int .i64 k ∧ k = out.length ∧ Aside0 (decL l = decEs (n.toNat - k) out lk) ∧ Aside0 (wr.ownsRow W.heap.size 49 2 v out.length (flat out)) ∧ Aside0 (KF g W wr) ∧ Aside0 (CurF w0 g lk wr))
   (fun _ i _ => n.toNat - (intOf i).toNat)
  case atStart => exact ⟨0, [], m, .inr rfl, rfl, rfl, HL, ⟨own_nil _ _ _ _⟩, HK, HC1⟩
  case round =>
   obtain ⟨k, out, lk, hk, rfl, hout, HDK, HR, HKF, HCK⟩ := hrel
   subst hout
   by_cases hlt : (out.length : Int) < n
   ·
    have hdk : decL l = if (decE lk).2.2 ≠ 0 then ([], [], (decE lk).2.2) else decEs (n.toNat - (out.length + 1)) (out ++ [(decE lk).1]) (decE lk).2.1 := by
     rw [HDK.out, show n.toNat - out.length = (n.toNat - (out.length + 1)) + 1 from by omega, decEs]
    have HDK2 := Aside0.mk hdk
    clear hdk
    go_wp2_with fail
    refine (extent_cur HCK.out (Nat.lt_of_lt_of_le HG.out HKF.out.below.size)).mono ?_
    rintro e w2 ⟨a, b, rfl, hk2, hcur2⟩
    have HKF2 := Aside0.mk (HKF.out.trans hk2)
    have HR2 := Aside0.mk (hk2.row HR.out HG.out)
    have HC2 := Aside0.mk hcur2
    clear hk2 hcur2
    obtain ⟨⟨x, m2, e2⟩, hd⟩ : ∃ q, q = decE lk := ⟨_, rfl⟩
    rw [← hd] at HDK2 HC2
    rw [← hd]
    clear hd
    by_cases h2 : e2 = 0
    ·
     subst h2
     obtain ⟨hx, hc2⟩ := HC2.out rfl
     simp only at hx hc2
     subst hx
     have HC3 := Aside0.mk hc2
     have HDK3 : Aside0 (decL l = decEs (n.toNat - (out.length + 1)) (out ++ [⟨a, b⟩]) m2) := ⟨by rw [HDK2.out, if_neg (by simp)]⟩
     clear hc2
     obtain ⟨A3, c3, hv3⟩ := own_slice HR2.out
     subst hv3
     obtain ⟨i0, hi, hz0, hz1, hz2⟩ := info_parts info49
     have hbw : W.heap.size ≤ w2.heap.size := HKF2.out.below.size
     have hlp : out.length < 100000 := by omega
     have HBW := Aside0.mk (And.intro hbw HG.out)
     have hnew : ∀ j u, ([.int .i64 a, .int .i64 b] : List Value)[j]? = some u → ((w2.alloc (.cells #[.int .i64 a, .int .i64 b] 49)).alloc (.cells #[.int .i64 a, .int .i64 b] 49)).cell? ((⟨w2.heap.size + 1, 0, none⟩ : Addr).add j) = some u := by
      have := cells_two_new (w2.alloc (.cells #[.int .i64 a, .int .i64 b] 49)) (.int .i64 a) (.int .i64 b) 49
      simpa using this
     have HNEW := Aside0.mk hnew
     clear hbw hnew
     go_wp2_with (at_builtin; refine wpList_append_own _ rfl _ _ 56 rfl W.heap.size 49 i0 (.agg #[.int .i64 0, .int .i64 0]) 2 16 Tryd.underlying56 hi hz0 hz1 hz2 rfl (by decide) _ _ _ rfl ((HR2.out.alloc _).alloc _) ⟨w2.heap.size + 1, 0, none⟩ 1 1 [.int .i64 a, .int .i64 b] rfl rfl HNEW.out (by simp [Value.oneCell']) (by unfold maxLen; omega) (by omega) (by have := HBW.out.1; simp; omega) ?_; intro v' w' hown' hgrow _; have HR3 := Aside0.mk hown'; have HGR := Aside0.mk (show World.grownBy _ w' (Value.slice A3 out.length c3).ownBlock from hgrow); clear hown' hgrow)
     have hb' : Below W.heap.size w2 w' := ((below_alloc (below_alloc (Below.refl w2.heap.size w2) _) _).mono HBW.out.1).grown HGR.out (by have := HBW.out.1; simp; omega) (fun k e => own_base HR2.out k e)
     have hc' : CurF w0 g m2 w' := by
      obtain ⟨A4, c4, q1, q2, q3⟩ := HC3.out.cell
      exact ⟨⟨A4, c4, (hb'.block g HG.out).trans q1, q2, q3⟩, HC3.out.below.trans (hb'.mono H.out.below.size), HC3.out.base, HC3.out.len⟩
     have hkf' : KF g W w' := ⟨HKF2.out.below.trans (hb'.mono (Nat.zero_le _)), fun k hk hg => (hb'.block k hk).trans (HKF2.out.keep k hk hg)⟩
     go_roundw
     case rel =>
      refine ⟨out.length + 1, out ++ [⟨a, b⟩], m2, by omega, by go_num, by simp, HDK3, ⟨?_⟩, ⟨hkf'⟩, ⟨hc'⟩⟩
      rw [flat_append, List.length_append]
      exact HR3.out
     case measure => simp [intOf]; omega
    ·
     have HL2 : Aside0 (decL l = ([], [], e2)) := ⟨by rw [HDK2.out, if_pos h2]⟩
     have hne : (e2 != 0) = true := by simpa using h2
     have HN := Aside0.mk h2
     clear h2
     go_wp2
     refine bodyPost_ret (v := .tuple #[.slice none 0 0, .int .i64 e2]) (by simp [results, Tryd.results72, go_sem]) rfl ⟨.slice none 0 0, by rw [HL2.out], ?_, .inr ⟨by rw [HL2.out]; exact HN.out, rfl⟩⟩
     have hba := Below.alloc (Below.refl w2.heap.size w2) (Nat.le_refl _) (.cells #[.int .i64 a, .int .i64 b] 49)
     exact HKF2.out.trans (KF.of_below hba)
   ·
    have HL2 : Aside0 (decL l = (out, lk, 0)) := ⟨by rw [HDK.out, show n.toNat - out.length = 0 from by omega]; rfl⟩
    go_wp2
    refine bodyPost_ret (v := .tuple #[u8, .int .i64 0]) (by simp [results, Tryd.results72, go_sem]) rfl ⟨u8, by rw [HL2.out], HKF.out, .inl ⟨by rw [HL2.out], by rw [HL2.out]; exact HR.out, by rw [HL2.out]; exact HCK.out⟩⟩
 ·
  have HL2 : Aside0 ((decL l).2.2 = e0) := ⟨by unfold decL; rw [HD.out, if_pos h0]⟩
  have hne : (e0 != 0) = true := by simpa using h0
  have HN := Aside0.mk h0
  clear h0
  go_wp2
  refine bodyPost_ret (v := .tuple #[.slice none 0 0, .int .i64 e0]) (by simp [results, Tryd.results72, go_sem]) rfl ⟨.slice none 0 0, by rw [HL2.out], HK.out, .inr ⟨by rw [HL2.out]; exact HN.out, rfl⟩⟩
set_option maxHeartbeats 4000000 in
set_option maxRecDepth 100000 in
theorem ext1_cur {w0 : World} {g : Nat} {l : List Int} {W : World} (h : CurF w0 g l W) (hgW : g < W.heap.size) :
  Calls Tryd.prog 71 #[.pointer (some ⟨g, 0, none⟩)] W fun e w' => ∃ v, e = .returned (.tuple #[v, .int .i64 (decL l).2.2]) ∧ KF g W w' ∧
   (((decL l).2.2 = 0 ∧ w'.ownsRow W.heap.size 49 2 v (decL l).1.length (flat (decL l).1) ∧ CurF w0 g (decL l).2.1 w') ∨ ((decL l).2.2 ≠ 0 ∧ v = .slice none 0 0)) := by
 have H := Aside0.mk (list_cur h hgW)
 clear h hgW
 go_enter Tryd.func71, Tryd.ntmps71
 go_wp2_with fail
 refine H.out.mono ?_
 rintro e w1 ⟨v, rfl, hq⟩
 have HQ := Aside0.mk hq
 clear hq
 go_wp2
 exact bodyPost_ret (v := .tuple #[v, .int .i64 (decL l).2.2]) (by simp [results, Tryd.results71, go_sem]) rfl ⟨v, rfl, HQ.out⟩
set_option maxHeartbeats 4000000 in
set_option maxRecDepth 100000 in
theorem read_exts (A : Option Addr) (c : Nat) (l : List Int) (w : World) (hC : Kd.C (Kd.int .u8) w A l.length l) (hc : l.length ≤ c) (hl : l.length ≤ 1000000) :
  Calls Tryd.prog 70 #[.slice A l.length c, .func (.func 71) #[] #[]] w fun e w' => ∃ u v, e = .returned (.tuple #[u, v, .int .i64 (decL l).2.2]) ∧ Kd.R k49 49 w' w.heap.size (fun _ => True) u (decL l).1 ∧ Kd.R (Kd.int .u8) 5 w' w.heap.size (fun _ => True) v (decL l).2.1 ∧ Below w.heap.size w w' := by
 have HC := Aside0.mk hC
 clear hC
 have eby : ∀ args w, (callFunc 71 args).run Tryd.prog w = .ok (.enter 71 args) w := enters_of Tryd.func71 (by kernel_rfl) rfl
 go_enter Tryd.func70, Tryd.ntmps70
 go_wp2_with fail
 have hB0 : Below w.heap.size w (w.alloc (.cells #[.slice A l.length c] 126)) := below_alloc (Below.refl _ _) _
 have hg0 := heap_alloc_new w (.cells #[.slice A l.length c] 126)
 have hs0 : (w.alloc (.cells #[.slice A l.length c] 126)).heap.size = w.heap.size + 1 := by simp
 refine (ext1_cur (w0 := w) (l := l) ⟨⟨A, c, hg0, HC.out, hc⟩, hB0, Nat.le_refl _, hl⟩ (by omega)).mono ?_
 generalize w.alloc (.cells #[.slice A l.length c] 126) = W at hB0 hg0 hs0
 rintro e w1 ⟨u, rfl, hk, ⟨h0, ho, hcur⟩ | ⟨hne, rfl⟩⟩
 ·
  have HB : Aside0 (Below w.heap.size w w1) := ⟨hB0.trans (hk.from (Nat.le_refl _) (by omega))⟩
  obtain ⟨A', c', q1, q2, q3⟩ := hcur.cell
  have HO := Aside0.mk ho
  have HS0 := Aside0.mk hs0
  have HQ1 := Aside0.mk q1
  have HQ2 := Aside0.mk (Kd.C_below q2 HB.out)
  have HQ3 := Aside0.mk (And.intro q3 hcur.len)
  have hcl : w1.cell? ⟨w.heap.size, 0, none⟩ = some (.slice A' (decL l).2.1.length c') := (blk_cell q1 0).trans rfl
  have H0 := Aside0.mk h0
  clear hB0 hg0 hs0 hk hcur q1 q2 q3 ho
  rw [h0]
  clear h0
  go_wp2_with fail
  refine (slices_Clone_byte_byte.calls A' c' _ _ w1 HQ2.out HQ3.out.1 (by unfold slices_Clone_byte_byte.f; rw [if_pos HQ3.out.2])).mono ?_
  rintro e w2 ⟨v2, rfl, hR2, hb2⟩
  have HR2 := Aside0.mk (Kd.R_lower hR2 HB.out.size)
  have HB2 := Aside0.mk (below_step HB.out hb2)
  have HO2 := Aside0.mk (pw_own_below HO.out hb2)
  clear hR2 hb2
  go_wp2
  refine bodyPost_ret (v := .tuple #[u, v2, .int .i64 0]) (by simp [results, Tryd.results70, go_sem]) rfl ⟨u, v2, by rw [H0.out], ?_, HR2.out, HB2.out⟩
  exact Kd.R_lower ⟨fun _ _ => trivial, _, HO2.out, reps_flat _ _ _ _⟩ (by have := HS0.out; omega)
 ·
  have HB : Aside0 (Below w.heap.size w w1) := ⟨hB0.trans (hk.from (Nat.le_refl _) (by omega))⟩
  have HD := Aside0.mk (decL_bad l hne)
  have hnq : ((decL l).2.2 != 0) = true := by simpa using hne
  clear hB0 hg0 hs0 hk hne
  go_wp2
  refine bodyPost_ret (v := .tuple #[.slice none 0 0, .slice none 0 0, .int .i64 (decL l).2.2]) (by simp [results, Tryd.results70, go_sem]) rfl ⟨_, _, rfl, by rw [HD.out.1]; exact Kd.R_nil _ _ _ _ _, by rw [HD.out.2]; exact Kd.R_nil _ _ _ _ _, HB.out⟩
set_option maxHeartbeats 2000000 in
theorem wire_Extents.calls (A0 : Option Addr) (c0 : Nat) (l0 : List Int) (r1 : List (S49)) (r2 : List Int) (r3 : Int) (w : World) (hr0 : Kd.C (Kd.int .u8) w A0 l0.length l0) (hc0 : l0.length ≤ c0) (h : wire_Extents.f l0 = some (r1, r2, r3)) :
 Calls Tryd.prog 47 #[.slice A0 l0.length c0] w fun e w' => ∃ v0_ v1_ : Value, e = .returned (.tuple #[v0_, v1_, .int .i64 r3]) ∧ Kd.R k49 49 w' w.heap.size (fun _ => True) v0_ r1 ∧ Kd.R (Kd.int .u8) 5 w' w.heap.size (fun _ => True) v1_ r2 ∧ Below w.heap.size w w' := by
 unfold wire_Extents.f at h
 by_cases hl : l0.length ≤ 1000000
 ·
  rw [if_pos hl] at h
  have hd := Option.some.inj h
  obtain ⟨rfl, rfl, rfl⟩ : (decL l0).1 = r1 ∧ (decL l0).2.1 = r2 ∧ (decL l0).2.2 = r3 := by rw [hd]; exact ⟨rfl, rfl, rfl⟩
  have HR := Aside0.mk (read_exts A0 c0 l0 w hr0 hc0 hl)
  clear h hd hr0 hc0
  go_enter Tryd.func47, Tryd.ntmps47
  go_wp2_with fail
  refine HR.out.mono ?_
  rintro e w1 ⟨u, v, rfl, hu, hv, hb⟩
  have HU := Aside0.mk hu
  have HV := Aside0.mk hv
  have HB := Aside0.mk hb
  clear hu hv hb
  go_wp2
  refine bodyPost_ret (v := .tuple #[u, v, .int .i64 (decL l0).2.2]) ?_ rfl ⟨u, v, rfl, HU.out, HV.out, HB.out⟩
  simp [results, Tryd.results47, go_sem]
 ·
  rw [if_neg hl] at h
  cases h
end Go.Proofs.YtnjbdcnefienhaaDoor.P

namespace Go.Proofs.YtnjbdcnefienhaaDoor.P.X
open Go.Proofs.YtnjbdcnefienhaaDoor.P Go.RowKit Go.Shelf Go.Proofs.YtnjbdcnefienhaaDoorW.PrintWords Go.Proofs.YtnjbdcnefienhaaDoorW.PrintLast Go.Proofs.YtnjbdcnefienhaaDoorW.PrintMore
attribute [local go_sem] Oper.semAt_some
attribute [local go_sem] max2_int min2_int max_two min_two max_three min_three max_four min_four
def sweepX (keep : Bool → Bool → Bool) : Int → Int → Int → Bool → List (Int × Int × Int) → List S49
 | _, _, _, _, [] => []
 | c0, c1, st, ins, x :: r =>
  let e0 := if x.2.1 = 0 then c0 + x.2.2 else c0
  let e1 := if x.2.1 = 0 then c1 else c1 + x.2.2
  if (r.head?.map (·.1)) = some x.1 then sweepX keep e0 e1 st ins r
  else
   let now := keep (decide (e0 > 0)) (decide (e1 > 0))
   if now && !ins then sweepX keep e0 e1 x.1 now r
   else if !now && ins then ⟨st, wrap64 (x.1 - st)⟩ :: sweepX keep e0 e1 st now r
   else sweepX keep e0 e1 st now r
structure SI (W0 : World) (B1 B2 B3 : Nat) (v1 v2 v3 : Value) (W : World) : Prop where
 below : Below W0.heap.size W0 W
 b1 : W.heap[B1]? = some (.cells #[v1] 56 (0, 0))
 b2 : W.heap[B2]? = some (.cells #[v2] 56 (0, 0))
 b3 : W.heap[B3]? = some (.cells #[v3] 119 (0, 0))
structure KpX (n₀ B1 B2 B3 : Nat) (X Y : World) : Prop where
 below : Below n₀ X Y
 b1 : Y.heap[B1]? = X.heap[B1]?
 b2 : Y.heap[B2]? = X.heap[B2]?
 b3 : Y.heap[B3]? = X.heap[B3]?
 ty : ∀ (k : Nat) (cs : Array Value) (t : TypeId), (t = 133 ∨ t = 135) → X.heap[k]? = some (.cells cs t (0, 0)) → Y.heap[k]? = some (.cells cs t (0, 0))
theorem KpX.trans {n₀ B1 B2 B3 : Nat} {X Y Z : World} (h : KpX n₀ B1 B2 B3 X Y) (k : KpX n₀ B1 B2 B3 Y Z) : KpX n₀ B1 B2 B3 X Z :=
 ⟨h.below.trans k.below, k.b1.trans h.b1, k.b2.trans h.b2, k.b3.trans h.b3, fun i cs t ht hx => k.ty i cs t ht (h.ty i cs t ht hx)⟩
theorem KpX.putObj {n₀ B1 B2 B3 : Nat} {w : World} (hn : n₀ ≤ w.heap.size) (h1 : B1 < w.heap.size) (h2 : B2 < w.heap.size) (h3 : B3 < w.heap.size) (W : World) (l : Nat) (o o' : Obj) (hl : w.heap.size ≤ l) (h : W.heap[l]? = some o) (hc : o.isCells = false) (hw : o.isWalk = false) : KpX n₀ B1 B2 B3 W (W.putObj l o') :=
 ⟨belowK_b hn W l o o' hl h hc hw, World.putObj_heap_other (by omega), World.putObj_heap_other (by omega), World.putObj_heap_other (by omega), fun k cs t _ hx => by
  have hne : k ≠ l := by
   rintro rfl
   rw [h] at hx
   cases hx
   cases hc
  rw [World.putObj_heap_other hne]; exact hx⟩
theorem SI.kp {W0 : World} {B1 B2 B3 : Nat} {v1 v2 v3 : Value} {X Y : World} (h : SI W0 B1 B2 B3 v1 v2 v3 X) (k : KpX W0.heap.size B1 B2 B3 X Y) : SI W0 B1 B2 B3 v1 v2 v3 Y := ⟨h.below.trans k.below, k.b1.trans h.b1, k.b2.trans h.b2, k.b3.trans h.b3⟩
theorem SI.step {W0 : World} {B1 B2 B3 : Nat} {v1 v2 v3 : Value} {X Y : World} (h : SI W0 B1 B2 B3 v1 v2 v3 X) (k : Below X.heap.size X Y) : SI W0 B1 B2 B3 v1 v2 v3 Y := ⟨h.below.trans (k.mono h.below.size), blk_of_below h.b1 k, blk_of_below h.b2 k, blk_of_below h.b3 k⟩
theorem SI.set {W0 : World} {B1 B2 B3 : Nat} {v1 v2 v3 : Value} {X : World} (h : SI W0 B1 B2 B3 v1 v2 v3 X) (p : Addr) (u : Value) (h0 : W0.heap.size ≤ p.block) (h1 : B1 ≠ p.block) (h2 : B2 ≠ p.block) (h3 : B3 ≠ p.block) : SI W0 B1 B2 B3 v1 v2 v3 (X.setCell p u) :=
 ⟨h.below.setCell h0 _, (Below.heap_setCell _ _ _ _ h1).trans h.b1, (Below.heap_setCell _ _ _ _ h2).trans h.b2, (Below.heap_setCell _ _ _ _ h3).trans h.b3⟩
theorem EndsV.kp {n₀ B1 B2 B3 base : Nat} {v : Value} {d : List (Int × Int × Int)} {X Y : World} (h : EndsV X base v d) (k : KpX n₀ B1 B2 B3 X Y) : EndsV Y base v d := by
 obtain ⟨A, c, hv, hl, hp⟩ := h
 refine ⟨A, c, hv, hl, fun h0 => ?_⟩
 obtain ⟨g, hA, hb, hg, hE, cs, hT⟩ := hp h0
 have hk := k.ty g cs _ (.inr rfl) hT
 have he : Y.heap[g]? = X.heap[g]? := hk.trans hT.symm
 exact ⟨g, hA, hb, (Array.getElem?_eq_some_iff.1 hk).1, fun j u hu => ⟨(World.cell?_of_block he).trans (hE j u hu).1, (World.frozen?_of_block he).trans (hE j u hu).2⟩, cs, hk⟩
theorem EndsV.keep {base : Nat} {v : Value} {d : List (Int × Int × Int)} {X Y : World} (h : EndsV X base v d) (k : ∀ (g : Nat) (cs : Array Value), X.heap[g]? = some (.cells cs 135 (0, 0)) → Y.heap[g]? = X.heap[g]?) : EndsV Y base v d := by
 obtain ⟨A, c, hv, hl, hp⟩ := h
 refine ⟨A, c, hv, hl, fun h0 => ?_⟩
 obtain ⟨g, hA, hb, hg, hE, cs, hT⟩ := hp h0
 have he : Y.heap[g]? = X.heap[g]? := k g cs hT
 exact ⟨g, hA, hb, (Array.getElem?_eq_some_iff.1 (he.trans hT)).1, fun j u hu => ⟨(World.cell?_of_block he).trans (hE j u hu).1, (World.frozen?_of_block he).trans (hE j u hu).2⟩, cs, he.trans hT⟩
theorem AbidesT.none_ {β : Type} {B : Nat} {T : Nat → Prop} {J : β → World → Prop} (h : AbidesT B T J) {s : β} {W W' : World} (hs : J s W) (hb : Below W.heap.size W W') : J s W' := h s W W' none hs (grown_of_below hb none) (fun r e => by cases e)
theorem mem_endsOf {i : Int} {l : List S49} {x : Int × Int × Int} (h : x ∈ endsOf i l) : x.2.1 = i ∧ (x.2.2 = 1 ∨ x.2.2 = -1) := by
 unfold endsOf at h
 rw [List.mem_flatMap] at h
 obtain ⟨e, _, h⟩ := h
 unfold endsE at h
 split at h
 ·
  simp only [List.mem_cons, List.not_mem_nil, or_false] at h
  rcases h with rfl | rfl
  ·
   exact ⟨rfl, .inl rfl⟩
  ·
   exact ⟨rfl, .inr rfl⟩
 ·
  cases h
theorem set_pair0 {V : World} {g : Nat} {a b u : Value} {t : TypeId} (h : V.heap[g]? = some (.cells #[a, b] t (0, 0))) : (V.setCell ⟨g, 0, none⟩ u).heap[g]? = some (.cells #[u, b] t (0, 0)) := by
 unfold World.setCell
 simp only [Array.getElem?_modify, if_pos trivial]
 rw [h]
 simp
theorem set_pair1 {V : World} {g : Nat} {a b u : Value} {t : TypeId} (h : V.heap[g]? = some (.cells #[a, b] t (0, 0))) : (V.setCell ⟨g, 1, none⟩ u).heap[g]? = some (.cells #[a, u] t (0, 0)) := by
 unfold World.setCell
 simp only [Array.getElem?_modify, if_pos trivial]
 rw [h]
 simp
theorem grownBy_setCell_ (W : World) (b o : Nat) (v : Value) : W.grownBy (W.setCell ⟨b, o, none⟩ v) (some b) :=
 ⟨rfl, rfl, rfl, (KeepsWalks.setCell W _ v).size, fun k _ hk => Below.heap_setCell _ _ _ k (fun e => hk (by rw [e]))⟩
theorem sweepX_cons (keep : Bool → Bool → Bool) (e0 e1 st : Int) (ins : Bool) (x : Int × Int × Int) (r : List (Int × Int × Int)) (f0 f1 : Int) (hf : (f0, f1) = if x.2.1 = 0 then (e0 + x.2.2, e1) else (e0, e1 + x.2.2)) :
  sweepX keep e0 e1 st ins (x :: r) = if (r.head?.map (·.1)) = some x.1 then sweepX keep f0 f1 st ins r
   else if keep (decide (f0 > 0)) (decide (f1 > 0)) && !ins then sweepX keep f0 f1 x.1 (keep (decide (f0 > 0)) (decide (f1 > 0))) r
   else if !keep (decide (f0 > 0)) (decide (f1 > 0)) && ins then ⟨st, wrap64 (x.1 - st)⟩ :: sweepX keep f0 f1 st (keep (decide (f0 > 0)) (decide (f1 > 0))) r
   else sweepX keep f0 f1 st (keep (decide (f0 > 0)) (decide (f1 > 0))) r := by
 rw [sweepX]
 by_cases h : x.2.1 = 0
 ·
  rw [if_pos h] at hf
  injection hf with h1 h2
  rw [if_pos h, if_pos h, h1, h2]
 ·
  rw [if_neg h] at hf
  injection hf with h1 h2
  rw [if_neg h, if_neg h, h1, h2]
set_option maxHeartbeats 8000000 in
set_option maxRecDepth 100000 in
theorem sweep_gives (n : Nat) (fk : Nat) (keep : Bool → Bool → Bool) (ek : ∀ args w, (callFunc fk args).run Tryd.prog w = .ok (.enter fk args) w) (hkeep : ∀ (p q : Bool) (W : World), Calls Tryd.prog fk #[.bool p, .bool q] W fun e w' => e = .returned (.bool (keep p q)) ∧ w' = W)
  (B1 B2 B3 : Nat) (A0 A1 : Option Addr) (c0 c1 : Nat) (l0 l1 : List S49) (W0 : World) (hW0 : SI W0 B1 B2 B3 (.slice A0 l0.length c0) (.slice A1 l1.length c1) (.func (.func fk) #[] #[]) W0)
  (hr0 : Kd.C k49 W0 A0 l0.length l0) (hc0 : l0.length ≤ c0) (hr1 : Kd.C k49 W0 A1 l1.length l1) (hc1 : l1.length ≤ c1) (hN : l0.length + l1.length ≤ 100000)
  (xs : List S49) (hxs : ∀ d, List.Perm d (endsOf 0 l0 ++ endsOf 1 l1) → d.Pairwise (fun x y => x.1 ≤ y.1) → sweepX keep 0 0 0 false d = xs) :
  GivesAll Fence.wide n Tryd.prog 85 #[.pointer (some ⟨B1, 0, none⟩), .pointer (some ⟨B2, 0, none⟩), .pointer (some ⟨B3, 0, none⟩)] (fun x : S49 => #[.agg #[.int .i64 x.f0, .int .i64 x.f1]]) (KpX W0.heap.size B1 B2 B3) (fun t => t = 133) xs W0 := by
 intro l J W hbW hJ hY h0
 have HSI := Aside0.mk (hW0.step hbW)
 have HR0 := Aside0.mk (Kd.C_below hr0 hbW)
 have HR1 := Aside0.mk (Kd.C_below hr1 hbW)
 have HC0 := Aside0.mk hc0
 have HC1 := Aside0.mk hc1
 have HN := Aside0.mk hN
 have HXS := Aside0.mk hxs
 have HJ := Aside0.mk hJ
 have HY := Aside0.mk hY
 have H0 := Aside0.mk h0
 have HK := Aside0.mk hkeep
 have q1 : W.cell? ⟨B1, 0, none⟩ = some (.slice A0 l0.length c0) := (blk_cell HSI.out.b1 0).trans rfl
 have q2 : W.cell? ⟨B2, 0, none⟩ = some (.slice A1 l1.length c1) := (blk_cell HSI.out.b2 0).trans rfl
 clear hW0 hr0 hr1 hc0 hc1 hN hxs hbW hJ hY h0 hkeep
 refine callsIn_of_wp Tryd.func85 rfl trivial ?_ rfl
 simp only [Tryd.ntmps85, List.size_toArray, List.length_cons, List.length_nil, Nat.reduceAdd, Nat.reduceSub, Array.replicate_succ, Array.replicate_zero, List.push_toArray, List.append_toArray, List.nil_append, List.cons_append]
 gi_wp2
 have hbA : Below W.heap.size W (W.alloc (.cells #[.slice A0 l0.length c0, .slice A1 l1.length c1] 56)) := below_alloc (Below.refl _ _) _
 refine ⟨trivial, fun h => (by cases h), (callsIn_wide.2 (ends_row W.heap.size A0 A1 c0 c1 l0 l1 _ (heap_alloc_new W _) (Kd.C_below HR0.out hbA) HC0.out (Kd.C_below HR1.out hbA) HC1.out HN.out)).mono ?_⟩
 rintro e w1 ⟨v, d, rfl, hE, hP, hS, hb⟩
 have hb1 : Below W.heap.size W w1 := below_step hbA hb
 have HD := Aside0.mk (HXS.out d hP hS)
 have HJ1 := Aside0.mk (HJ.out.none_ H0.out hb1)
 have HSI1 := Aside0.mk (HSI.out.step hb1)
 have HSZ := Aside0.mk hb1.size
 have HDL : Aside0 (d.length ≤ 200000) := ⟨by
  have := hP.length_eq
  have e0 := endsOf_length 0 l0
  have e1 := endsOf_length 1 l1
  have := HN.out
  rw [List.length_append] at *
  omega⟩
 have HDT : Aside0 (∀ x ∈ d, (x.2.1 = 0 ∨ x.2.1 = 1) ∧ (x.2.2 = 1 ∨ x.2.2 = -1)) := ⟨fun x hx => by
  rcases List.mem_append.1 ((hP.mem_iff).1 hx) with h | h
  ·
   exact ⟨.inl (mem_endsOf h).1, (mem_endsOf h).2⟩
  ·
   exact ⟨.inr (mem_endsOf h).1, (mem_endsOf h).2⟩⟩
 have hEV : EndsV w1 W.heap.size v d := by
  obtain ⟨A, c, hv, hl, hp⟩ := hE
  exact ⟨A, c, hv, hl, fun h0 => by
   obtain ⟨g, a1, a2, a3, a4⟩ := hp h0
   exact ⟨g, a1, by simp at a2; omega, a3, a4⟩⟩
 have hEV2 := hEV
 obtain ⟨A, c, hv, hdc, -⟩ := hEV2
 subst hv
 have HEV := Aside0.mk hEV
 clear q1 q2 hbA hE hP hS hb hb1 hEV HXS H0
 gi_wp2
 gi_loopw [7, 8, 18] (fun s b i wr => ∃ (k : Nat) (e0 e1 st : Int) (ins : Bool) (pre : List S49), k ≤ d.length ∧ s = .int .i64 st ∧ b = .bool ins ∧ i = .int .i64 k ∧ Aside0 (-(k : Int) ≤ e0 ∧ e0 ≤ k ∧ -(k : Int) ≤ e1 ∧ e1 ≤ k) ∧ Aside0 (pre ++ sweepX keep e0 e1 st ins (d.drop k) = xs) ∧ Aside0 (J pre wr) ∧
   Aside0 (SI W0 B1 B2 B3 (.slice A0 l0.length c0) (.slice A1 l1.length c1) (.func (.func fk) #[] #[]) wr) ∧ Aside0 (wr.heap[w1.heap.size]? = some (.cells #[.int .i64 e0, .int .i64 e1] 133 (0, 0))) ∧ Aside0 (EndsV wr W.heap.size (.slice A d.length c) d))
  (fun _ _ i _ => d.length - (intOf i).toNat)
 case atStart =>
  have hbn : Below w1.heap.size w1 (w1.alloc (.cells #[.int .i64 0, .int .i64 0] 133)) := below_alloc (Below.refl _ _) _
  refine ⟨0, 0, 0, 0, false, [], Nat.zero_le _, rfl, rfl, rfl, ⟨by omega⟩, ⟨by rw [List.drop_zero, List.nil_append]; exact HD.out⟩, ⟨HJ.out.none_ HJ1.out (below_alloc (Below.refl _ _) _)⟩, ⟨HSI1.out.step hbn⟩, ⟨heap_alloc_new w1 _⟩, ⟨HEV.out.keep fun g cs h => hbn.block g (Array.getElem?_eq_some_iff.1 h).1⟩⟩
 case round =>
  obtain ⟨k, e0, e1, st, ins, pre, hk, rfl, rfl, rfl, HB, HX, HJp, HSr, HDp, HEr⟩ := hrel
  by_cases hlt : k < d.length
  ·
   have HER := Aside0.mk HEr.out
   obtain ⟨A', c', hv', hl', hp⟩ := HER.out
   obtain ⟨rfl, rfl⟩ : A = A' ∧ c = c' := by injection hv' with h1 _ h2; exact ⟨h1, h2⟩
   obtain ⟨g, hA, hgb, hg, hE, cs, hT⟩ := hp (by omega)
   subst hA
   obtain ⟨xa, xi, xt, hx⟩ : ∃ xa xi xt, d[k] = (xa, xi, xt) := ⟨_, _, _, rfl⟩
   have HXK := Aside0.mk hx
   obtain ⟨hxi, hxt⟩ := HDT.out d[k] (List.getElem_mem hlt)
   rw [hx] at hxi hxt
   simp only at hxi hxt
   obtain ⟨q, hq, rfl⟩ : ∃ q : Nat, q < 2 ∧ xi = q := by
    rcases hxi with h | h
    ·
     exact ⟨0, by omega, by omega⟩
    ·
     exact ⟨1, by omega, by omega⟩
   have hcell : ∀ j u, (encE (xa, (q : Int), xt))[j]? = some u → j < 3 → wr.cell? ⟨g, k * 3 + j, none⟩ = some u := fun j u hu hj => (hE (k * 3 + j) u (by rw [flatE_get d k j hlt hj, hx]; exact hu)).1
   have x0 : wr.cell? ⟨g, k * 3, none⟩ = some (.int .i64 xa) := hcell 0 _ rfl (by omega)
   have x1 : wr.cell? ⟨g, k * 3 + 1, none⟩ = some (.int .i64 q) := hcell 1 _ rfl (by omega)
   have x2 : wr.cell? ⟨g, k * 3 + 2, none⟩ = some (.int .i64 xt) := hcell 2 _ rfl (by omega)
   have hdg : w1.heap.size < wr.heap.size := (Array.getElem?_eq_some_iff.1 HDp.out).1
   obtain ⟨eq, hq1⟩ : ∃ eq : Int, eq = if q = 0 then e0 else e1 := ⟨_, rfl⟩
   have hdq : wr.cell? ⟨w1.heap.size, q, none⟩ = some (.int .i64 eq) := by
    obtain ⟨p0, p1, -, -⟩ := cells2 HDp.out
    rcases (show q = 0 ∨ q = 1 by omega) with rfl | rfl
    ·
     rw [hq1]; exact p0
    ·
     rw [hq1]; exact p1
   have hdf : wr.frozen? ⟨w1.heap.size, q, none⟩ = false := blk_frozen HDp.out q
   have HQ := Aside0.mk hq1
   have hqb : -200000 ≤ eq ∧ eq ≤ 200000 := by
    have := HB.out
    have := HDL.out
    rw [hq1]
    split <;> omega
   have hdk : decide (k < d.length) = true := by rw [decide_eq_true_iff]; exact hlt
   clear hv' hl' hp hcell hE hT hx hxi hq1 HER hgb
   have hmx : Tryd.prog.follows .mixedOrders = true := by kernel_rfl
   gi_wp2
   obtain ⟨V, hV⟩ : ∃ V, V = wr.alloc (Obj.cells #[Value.int IntKind.i64 xa, Value.int IntKind.i64 (q : Int), Value.int IntKind.i64 xt] 135) := ⟨_, rfl⟩
   have HV := Aside0.mk hV
   have hVb : Below wr.heap.size wr V := by rw [hV]; exact below_alloc (Below.refl _ _) _
   have hVn : V.heap[wr.heap.size]? = some (.cells #[.int .i64 xa, .int .i64 q, .int .i64 xt] 135 (0, 0)) := by rw [hV]; exact heap_alloc_new wr _
   have hVJ : J pre V := HJ.out.none_ HJp.out hVb
   have hVS := HSr.out.step hVb
   have hVD : V.heap[w1.heap.size]? = some (.cells #[.int .i64 e0, .int .i64 e1] 133 (0, 0)) := blk_of_below HDp.out hVb
   have hVE : EndsV V W.heap.size (.slice (some ⟨g, 0, none⟩) d.length c) d := HEr.out.keep fun g cs h => hVb.block g (Array.getElem?_eq_some_iff.1 h).1
   have hVz : V.heap.size = wr.heap.size + 1 := by rw [hV]; simp
   have y0 : V.cell? ⟨wr.heap.size, 0, none⟩ = some (.int .i64 xa) := (blk_cell hVn 0).trans rfl
   have y1 : V.cell? ⟨wr.heap.size, 1, none⟩ = some (.int .i64 q) := (blk_cell hVn 1).trans rfl
   have y2 : V.cell? ⟨wr.heap.size, 2, none⟩ = some (.int .i64 xt) := (blk_cell hVn 2).trans rfl
   have z0 : V.cell? ⟨w1.heap.size, q, none⟩ = some (.int .i64 eq) := pw_cell_below hVb hdq
   have z1 : V.frozen? ⟨w1.heap.size, q, none⟩ = false := blk_frozen hVD q
   have hsum : IntKind.i64.wrap (eq + xt) = eq + xt := by rw [i64_w, w64 _ (by omega) (by omega)]
   rw [← hV]
   have HVJ := Aside0.mk hVJ
   have HVS := Aside0.mk hVS
   have HVD := Aside0.mk hVD
   have HVE := Aside0.mk hVE
   have HVN := Aside0.mk hVn
   have HVZ := Aside0.mk hVz
   clear hV hVb hVn hVJ hVS hVD hVE hVz x0 x1 x2 hdq hdf
   gi_region
   obtain ⟨V2, hV2⟩ : ∃ V2, V2 = (V.setCell ⟨w1.heap.size, q, none⟩ (.int .i64 (eq + xt))).drew := ⟨_, rfl⟩
   rw [← hV2]
   obtain ⟨f0, f1, hf⟩ : ∃ f0 f1 : Int, (f0, f1) = (if q = 0 then (e0 + xt, e1) else (e0, e1 + xt)) := ⟨_, _, rfl⟩
   have HFB : Aside0 (-((k : Int) + 1) ≤ f0 ∧ f0 ≤ k + 1 ∧ -((k : Int) + 1) ≤ f1 ∧ f1 ≤ k + 1) := ⟨by
    have hB := HB.out
    rcases (show q = 0 ∨ q = 1 by omega) with rfl | rfl
    ·
     rw [if_pos rfl] at hf; injection hf with h1 h2; omega
    ·
     rw [if_neg (by decide)] at hf; injection hf with h1 h2; omega⟩
   have hVg : W.heap.size ≤ w1.heap.size := HSZ.out
   have HD2 : Aside0 (V2.heap[w1.heap.size]? = some (.cells #[.int .i64 f0, .int .i64 f1] 133 (0, 0))) := ⟨by
    rw [hV2]
    show (V.setCell ⟨w1.heap.size, q, none⟩ (.int .i64 (eq + xt))).heap[w1.heap.size]? = _
    rcases (show q = 0 ∨ q = 1 by omega) with rfl | rfl
    ·
     rw [if_pos rfl] at hf; injection hf with h1 h2
     rw [set_pair0 HVD.out, h1, h2, HQ.out]; rfl
    ·
     rw [if_neg (by decide)] at hf; injection hf with h1 h2
     rw [set_pair1 HVD.out, h1, h2, HQ.out]; rfl⟩
   have HJ2 : Aside0 (J pre V2) := ⟨by
    rw [hV2]
    exact HJ.out.none_ (HJ.out _ _ _ (some w1.heap.size) HVJ.out (grownBy_setCell_ V w1.heap.size q _) (fun r e => by cases e; exact ⟨hVg, _, _, HVD.out, rfl⟩)) (below_drew (Below.refl _ _))⟩
   have HS2 : Aside0 (SI W0 B1 B2 B3 (.slice A0 l0.length c0) (.slice A1 l1.length c1) (.func (.func fk) #[] #[]) V2) := ⟨by
    rw [hV2]
    have hb := HSI.out
    have l1' := (Array.getElem?_eq_some_iff.1 hb.b1).1
    have l2' := (Array.getElem?_eq_some_iff.1 hb.b2).1
    have l3' := (Array.getElem?_eq_some_iff.1 hb.b3).1
    have l4' := hb.below.size
    exact (HVS.out.set ⟨w1.heap.size, q, none⟩ _ (by simp only; omega) (by simp only; omega) (by simp only; omega) (by simp only; omega)).step (below_drew (Below.refl _ _))⟩
   have HE2 : Aside0 (EndsV V2 W.heap.size (.slice (some ⟨g, 0, none⟩) d.length c) d) := ⟨by
    rw [hV2]
    refine HVE.out.keep fun g cs h => ?_
    have hne : g ≠ w1.heap.size := by rintro rfl; rw [HVD.out] at h; simp at h
    exact Below.heap_setCell _ _ _ _ hne⟩
   have HN2 : Aside0 (V2.heap[wr.heap.size]? = some (.cells #[.int .i64 xa, .int .i64 q, .int .i64 xt] 135 (0, 0))) := ⟨by
    rw [hV2]
    exact (Below.heap_setCell _ _ _ _ (by simp only; omega)).trans HVN.out⟩
   have HF := Aside0.mk hf
   have y0 : V2.cell? ⟨wr.heap.size, 0, none⟩ = some (.int .i64 xa) := (blk_cell HN2.out 0).trans rfl
   clear hV2 hf z0 z1 hsum y1 y2
   have HST := Aside0.mk (sweepX_cons keep e0 e1 st ins (xa, (q : Int), xt) (d.drop (k + 1)) f0 f1 (by rw [HF.out]; simp only [Int.natCast_eq_zero]))
   have HDR : Aside0 (d.drop k = (xa, (q : Int), xt) :: d.drop (k + 1)) := ⟨by rw [List.drop_eq_getElem_cons hlt, HXK.out]⟩
   have hdl := HDL.out
   have hk5 : k ≤ 200000 := by omega
   have hkw : IntKind.i64.wrap ((k : Int) + 1) = (k : Int) + 1 := by rw [i64_w, w64 _ (by omega) (by omega)]
   have hEV2 := HE2.out
   obtain ⟨A3, c3, hv3, -, hp3⟩ := hEV2
   obtain ⟨g3, hA3, -, -, hE3, -⟩ := hp3 (by omega)
   injection hv3 with hA4 _ hc4
   rw [← hA4] at hA3
   injection hA3 with hA3
   injection hA3 with hA3 _ _
   subst hA3
   by_cases hk1 : k + 1 < d.length
   ·
    obtain ⟨ya, hya⟩ : ∃ ya, ya = d[k + 1].1 := ⟨_, rfl⟩
    have n0 : V2.cell? ⟨g, (k + 1) * 3, none⟩ = some (.int .i64 ya) := (hE3 ((k + 1) * 3) _ (by
     have := flatE_get d (k + 1) 0 hk1 (by omega)
     rw [Nat.add_zero] at this
     rw [this, hya]; rfl)).1
    have HH : Aside0 ((d.drop (k + 1)).head?.map (·.1) = some ya) := ⟨by rw [List.drop_eq_getElem_cons hk1, hya]; rfl⟩
    clear hE3 hp3 hA4 hc4
    by_cases hs : ya = xa
    ·
     clear hya
     subst hs
     have hkd : decide ((k : Int) + 1 < (d.length : Int)) = true := by rw [decide_eq_true_iff]; omega
     have hkn : ((k : Int) + 1).toNat = k + 1 := by omega
     have hk0 : (0 : Int) ≤ (k : Int) + 1 := by omega
     gi_wp2
     refine wpIn_region_quiet_lit_r (by rfl) hmx (by kernel_rfl) ?_
     repeat (gi_big_quiet_step (fail))
     refine wpQuietIn_nil ?_
     intro _ hw'
     obtain ⟨nq, hw''⟩ := hw'
     subst hw''
     obtain ⟨V3, hV3⟩ : ∃ V3, V3 = V2.drewN nq := ⟨_, rfl⟩
     have hb3 : Below V2.heap.size V2 V3 := by rw [hV3]; exact pw_below_drewN (Below.refl _ _) nq
     rw [← hV3]
     have HJ3 := Aside0.mk (HJ.out.none_ HJ2.out hb3)
     have HS3 := Aside0.mk (HS2.out.step hb3)
     have HD3 := Aside0.mk (blk_of_below HD2.out hb3)
     have HE3 := Aside0.mk (HE2.out.keep fun g cs h => hb3.block g (Array.getElem?_eq_some_iff.1 h).1)
     have HN3 := Aside0.mk (blk_of_below HN2.out hb3)
     clear hV3 hb3
     gi_wp2
     refine ⟨⟨k + 1, f0, f1, st, ins, pre, by omega, rfl, rfl, by go_num, ⟨by have := HFB.out; omega⟩, ⟨?_⟩, HJ3, HS3, HD3, HE3⟩, by simp [intOf]; omega⟩
     have := HX.out
     rw [HDR.out, HST.out, if_pos HH.out] at this
     exact this
    ·
     have HNE : Aside0 (¬ ((d.drop (k + 1)).head?.map (·.1) = some xa)) := ⟨by rw [HH.out]; intro e; injection e with e; exact hs e⟩
     have hsd : decide (ya = xa) = false := by rw [decide_eq_false_iff_not]; exact hs
     have hse : ((ya : Int) == xa) = false := by simpa using hs
     have hkd : decide ((k : Int) + 1 < (d.length : Int)) = true := by rw [decide_eq_true_iff]; omega
     have hkn : ((k : Int) + 1).toNat = k + 1 := by omega
     have hk0 : (0 : Int) ≤ (k : Int) + 1 := by omega
     clear hya
     gi_wp2
     refine wpIn_region_quiet_lit_r (by rfl) hmx (by kernel_rfl) ?_
     repeat (gi_big_quiet_step (fail))
     refine wpQuietIn_nil ?_
     intro _ hw'
     obtain ⟨nq, hw''⟩ := hw'
     subst hw''
     obtain ⟨V3, hV3⟩ : ∃ V3, V3 = V2.drewN nq := ⟨_, rfl⟩
     have hb3 : Below V2.heap.size V2 V3 := by rw [hV3]; exact pw_below_drewN (Below.refl _ _) nq
     rw [← hV3]
     have HJ3 := Aside0.mk (HJ.out.none_ HJ2.out hb3)
     have HS3 := Aside0.mk (HS2.out.step hb3)
     have HD3 := Aside0.mk (blk_of_below HD2.out hb3)
     have HE3 := Aside0.mk (HE2.out.keep fun g cs h => hb3.block g (Array.getElem?_eq_some_iff.1 h).1)
     have HN3 := Aside0.mk (blk_of_below HN2.out hb3)
     clear hV3 hb3
     have k3 : V3.cell? ⟨B3, 0, none⟩ = some (.func (.func fk) #[] #[]) := (blk_cell HS3.out.b3 0).trans rfl
     have y3 : V3.cell? ⟨wr.heap.size, 0, none⟩ = some (.int .i64 xa) := (blk_cell HN3.out 0).trans rfl
     obtain ⟨p0, p1, -, -⟩ := cells2 HD3.out
     clear y0
     gi_wp2
     refine ⟨trivial, fun h => (by cases h), (callsIn_wide.2 (HK.out _ _ _)).mono ?_⟩
     rintro e w4 ⟨rfl, rfl⟩
     obtain ⟨now, hnow⟩ : ∃ b, keep (decide (0 < f0)) (decide (0 < f1)) = b := ⟨_, rfl⟩
     rw [hnow]
     have HNOW : Aside0 (keep (decide (f0 > 0)) (decide (f1 > 0)) = now) := ⟨hnow⟩
     clear hnow k3 p0 p1
     cases now
     ·
      cases ins
      ·
       gi_wp2
       refine ⟨fun _ h => (by cases h), ?_⟩
       gi_wp2
       refine ⟨⟨k + 1, f0, f1, st, false, pre, by omega, rfl, rfl, by go_num, ⟨by have := HFB.out; omega⟩, ⟨?_⟩, HJ3, HS3, HD3, HE3⟩, by simp [intOf]; omega⟩
       have := HX.out
       rw [HDR.out, HST.out, if_neg HNE.out, HNOW.out] at this
       exact this
      ·
       have HXX : Aside0 (pre ++ (⟨st, wrap64 (xa - st)⟩ : S49) :: sweepX keep f0 f1 st false (d.drop (k + 1)) = xs) := ⟨by
        have := HX.out
        rw [HDR.out, HST.out, if_neg HNE.out, HNOW.out] at this
        exact this⟩
       obtain ⟨fn, tmps, assign, body, hy, hR⟩ := HY.out pre ⟨st, wrap64 (xa - st)⟩ w4 HJ3.out ⟨sweepX keep f0 f1 st false (d.drop (k + 1)), by rw [← HXX.out]; simp⟩
       have HRR := Aside0.mk hR
       clear hR
       gi_wp2
       refine ⟨fun h => (by cases h), HRR.out.mono ?_⟩
       rintro e W3 ⟨rfl, hJ4, hk4⟩
       have HJ4 := Aside0.mk hJ4
       have HS4 := Aside0.mk (HS3.out.kp hk4)
       have HD4 := Aside0.mk (hk4.ty _ _ _ (.inl rfl) HD3.out)
       have HE4 := Aside0.mk (HE3.out.kp hk4)
       clear hJ4 hk4 hy
       gi_wp2
       refine ⟨⟨k + 1, f0, f1, st, false, pre ++ [(⟨st, wrap64 (xa - st)⟩ : S49)], by omega, rfl, rfl, by go_num, ⟨by have := HFB.out; omega⟩, ⟨?_⟩, HJ4, HS4, HD4, HE4⟩, by simp [intOf]; omega⟩
       rw [← HXX.out]; simp
     ·
      cases ins
      ·
       gi_wp2
       refine ⟨fun _ h => (by cases h), ?_⟩
       gi_wp2
       refine ⟨⟨k + 1, f0, f1, xa, true, pre, by omega, rfl, rfl, by go_num, ⟨by have := HFB.out; omega⟩, ⟨?_⟩, HJ3, HS3, HD3, HE3⟩, by simp [intOf]; omega⟩
       have := HX.out
       rw [HDR.out, HST.out, if_neg HNE.out, HNOW.out] at this
       exact this
      ·
       gi_wp2
       refine ⟨fun _ h => (by cases h), ?_⟩
       gi_wp2
       refine ⟨⟨k + 1, f0, f1, st, true, pre, by omega, rfl, rfl, by go_num, ⟨by have := HFB.out; omega⟩, ⟨?_⟩, HJ3, HS3, HD3, HE3⟩, by simp [intOf]; omega⟩
       have := HX.out
       rw [HDR.out, HST.out, if_neg HNE.out, HNOW.out] at this
       exact this
   ·
    have HNE : Aside0 (¬ ((d.drop (k + 1)).head?.map (·.1) = some xa)) := ⟨by rw [List.drop_eq_nil_of_le (by omega)]; simp⟩
    have hkd : decide ((k : Int) + 1 < (d.length : Int)) = false := by rw [decide_eq_false_iff_not]; omega
    clear hE3 hp3 hA4 hc4
    gi_wp2
    refine wpIn_region_quiet_lit_r (by rfl) hmx (by kernel_rfl) ?_
    repeat (gi_big_quiet_step (fail))
    refine wpQuietIn_nil ?_
    intro _ hw'
    obtain ⟨nq, hw''⟩ := hw'
    subst hw''
    obtain ⟨V3, hV3⟩ : ∃ V3, V3 = V2.drewN nq := ⟨_, rfl⟩
    have hb3 : Below V2.heap.size V2 V3 := by rw [hV3]; exact pw_below_drewN (Below.refl _ _) nq
    rw [← hV3]
    have HJ3 := Aside0.mk (HJ.out.none_ HJ2.out hb3)
    have HS3 := Aside0.mk (HS2.out.step hb3)
    have HD3 := Aside0.mk (blk_of_below HD2.out hb3)
    have HE3 := Aside0.mk (HE2.out.keep fun g cs h => hb3.block g (Array.getElem?_eq_some_iff.1 h).1)
    have HN3 := Aside0.mk (blk_of_below HN2.out hb3)
    clear hV3 hb3
    have k3 : V3.cell? ⟨B3, 0, none⟩ = some (.func (.func fk) #[] #[]) := (blk_cell HS3.out.b3 0).trans rfl
    have y3 : V3.cell? ⟨wr.heap.size, 0, none⟩ = some (.int .i64 xa) := (blk_cell HN3.out 0).trans rfl
    obtain ⟨p0, p1, -, -⟩ := cells2 HD3.out
    clear y0
    gi_wp2
    refine ⟨trivial, fun h => (by cases h), (callsIn_wide.2 (HK.out _ _ _)).mono ?_⟩
    rintro e w4 ⟨rfl, rfl⟩
    obtain ⟨now, hnow⟩ : ∃ b, keep (decide (0 < f0)) (decide (0 < f1)) = b := ⟨_, rfl⟩
    rw [hnow]
    have HNOW : Aside0 (keep (decide (f0 > 0)) (decide (f1 > 0)) = now) := ⟨hnow⟩
    clear hnow k3 p0 p1
    cases now
    ·
     cases ins
     ·
      gi_wp2
      refine ⟨fun _ h => (by cases h), ?_⟩
      gi_wp2
      refine ⟨⟨k + 1, f0, f1, st, false, pre, by omega, rfl, rfl, by go_num, ⟨by have := HFB.out; omega⟩, ⟨?_⟩, HJ3, HS3, HD3, HE3⟩, by simp [intOf]; omega⟩
      have := HX.out
      rw [HDR.out, HST.out, if_neg HNE.out, HNOW.out] at this
      exact this
     ·
      have HXX : Aside0 (pre ++ (⟨st, wrap64 (xa - st)⟩ : S49) :: sweepX keep f0 f1 st false (d.drop (k + 1)) = xs) := ⟨by
       have := HX.out
       rw [HDR.out, HST.out, if_neg HNE.out, HNOW.out] at this
       exact this⟩
      obtain ⟨fn, tmps, assign, body, hy, hR⟩ := HY.out pre ⟨st, wrap64 (xa - st)⟩ w4 HJ3.out ⟨sweepX keep f0 f1 st false (d.drop (k + 1)), by rw [← HXX.out]; simp⟩
      have HRR := Aside0.mk hR
      clear hR
      gi_wp2
      refine ⟨fun h => (by cases h), HRR.out.mono ?_⟩
      rintro e W3 ⟨rfl, hJ4, hk4⟩
      have HJ4 := Aside0.mk hJ4
      have HS4 := Aside0.mk (HS3.out.kp hk4)
      have HD4 := Aside0.mk (hk4.ty _ _ _ (.inl rfl) HD3.out)
      have HE4 := Aside0.mk (HE3.out.kp hk4)
      clear hJ4 hk4 hy
      gi_wp2
      refine ⟨⟨k + 1, f0, f1, st, false, pre ++ [(⟨st, wrap64 (xa - st)⟩ : S49)], by omega, rfl, rfl, by go_num, ⟨by have := HFB.out; omega⟩, ⟨?_⟩, HJ4, HS4, HD4, HE4⟩, by simp [intOf]; omega⟩
      rw [← HXX.out]; simp
    ·
     cases ins
     ·
      gi_wp2
      refine ⟨fun _ h => (by cases h), ?_⟩
      gi_wp2
      refine ⟨⟨k + 1, f0, f1, xa, true, pre, by omega, rfl, rfl, by go_num, ⟨by have := HFB.out; omega⟩, ⟨?_⟩, HJ3, HS3, HD3, HE3⟩, by simp [intOf]; omega⟩
      have := HX.out
      rw [HDR.out, HST.out, if_neg HNE.out, HNOW.out] at this
      exact this
     ·
      gi_wp2
      refine ⟨fun _ h => (by cases h), ?_⟩
      gi_wp2
      refine ⟨⟨k + 1, f0, f1, st, true, pre, by omega, rfl, rfl, by go_num, ⟨by have := HFB.out; omega⟩, ⟨?_⟩, HJ3, HS3, HD3, HE3⟩, by simp [intOf]; omega⟩
      have := HX.out
      rw [HDR.out, HST.out, if_neg HNE.out, HNOW.out] at this
      exact this
  ·
   obtain rfl : k = d.length := by omega
   have hpx : pre = xs := by
    have := HX.out
    rw [List.drop_length, sweepX, List.append_nil] at this
    exact this
   have HPX := Aside0.mk hpx
   clear hpx
   gi_wp2
   go_end0
   exact ⟨⟨_, rfl⟩, by rw [← HPX.out]; exact HJp.out⟩
end Go.Proofs.YtnjbdcnefienhaaDoor.P.X

namespace Go.Proofs.YtnjbdcnefienhaaDoor.P.X
open Go.Proofs.YtnjbdcnefienhaaDoor.P Go.RowKit
def Asc : Int → List S49 → Prop
  | _, [] => True
  | p, e :: l => p < e.f0 ∧ 1 ≤ e.f1 ∧ Asc (e.f0 + e.f1) l
def endL : Int → List S49 → Int
  | p, [] => p
  | _, e :: l => endL (e.f0 + e.f1) l
def Cov (l : List S49) (t : Int) : Prop := ∃ e ∈ l, e.f0 ≤ t ∧ t < e.f0 + e.f1
theorem cov_nil (t : Int) : ¬ Cov [] t := by rintro ⟨e, h, _⟩; cases h
theorem cov_cons (e : S49) (l : List S49) (t : Int) : Cov (e :: l) t ↔ (e.f0 ≤ t ∧ t < e.f0 + e.f1) ∨ Cov l t := by
  constructor
  · rintro ⟨d, h, h1⟩
    rcases List.mem_cons.1 h with rfl | h
    · exact .inl h1
    · exact .inr ⟨d, h, h1⟩
  · rintro (h | ⟨d, h, h1⟩)
    · exact ⟨e, List.mem_cons_self, h⟩
    · exact ⟨d, List.mem_cons_of_mem _ h, h1⟩
theorem cov_snoc (l : List S49) (e : S49) (t : Int) : Cov (l ++ [e]) t ↔ Cov l t ∨ (e.f0 ≤ t ∧ t < e.f0 + e.f1) := by
  constructor
  · rintro ⟨d, h, h1⟩
    rcases List.mem_append.1 h with h | h
    · exact .inl ⟨d, h, h1⟩
    · rw [List.mem_singleton] at h; subst h; exact .inr h1
  · rintro (⟨d, h, h1⟩ | h)
    · exact ⟨d, List.mem_append_left _ h, h1⟩
    · exact ⟨e, by simp, h⟩
def pr (e : S49) : Int × Int := (e.f0, e.f1)
theorem asc_can : ∀ (l : List S49) (p : Int), Asc p l → Canon.Can (p + 1) (l.map pr)
  | [], _, _ => trivial
  | e :: l, p, ⟨h1, h2, h3⟩ => ⟨by show p + 1 ≤ e.f0; omega, by show 0 < e.f1; omega, asc_can l _ h3⟩
theorem cov_mem (l : List S49) (t : Int) : Canon.Mem t (l.map pr) ↔ Cov l t := by
  constructor
  · rintro ⟨d, h, h1, h2⟩
    rw [List.mem_map] at h
    obtain ⟨e, he, rfl⟩ := h
    exact ⟨e, he, h1, h2⟩
  · rintro ⟨e, he, h1, h2⟩
    exact ⟨pr e, List.mem_map.2 ⟨e, he, rfl⟩, h1, h2⟩
theorem map_pr_inj : ∀ {l m : List S49}, l.map pr = m.map pr → l = m
  | [], [], _ => rfl
  | [], _ :: _, h => by simp at h
  | _ :: _, [], h => by simp at h
  | a :: l, b :: m, h => by
    rw [List.map_cons, List.map_cons, List.cons.injEq] at h
    obtain ⟨a0, a1⟩ := a
    obtain ⟨b0, b1⟩ := b
    simp only [pr, Prod.mk.injEq] at h
    rw [h.1.1, h.1.2, map_pr_inj h.2]
theorem asc_unique {l m : List S49} {p q : Int} (hl : Asc p l) (hm : Asc q m) (h : ∀ t, Cov l t ↔ Cov m t) : l = m := by
  have := Canon.can_unique (asc_can l p hl) (asc_can m q hm) (fun t => by rw [cov_mem, cov_mem]; exact h t)
  exact map_pr_inj this
theorem endL_snoc (e : S49) : ∀ (L : List S49) p, endL p (L ++ [e]) = e.f0 + e.f1
  | [], _ => rfl
  | x :: L, p => by rw [List.cons_append, endL, endL_snoc e L]
theorem asc_snoc (e : S49) : ∀ (L : List S49) p, Asc p (L ++ [e]) ↔ Asc p L ∧ endL p L < e.f0 ∧ 1 ≤ e.f1
  | [], p => by simp [Asc, endL]
  | x :: L, p => by
    rw [List.cons_append, Asc, Asc, endL, asc_snoc e L]
    constructor
    · rintro ⟨a, b, c, d⟩; exact ⟨⟨a, b, c⟩, d⟩
    · rintro ⟨⟨a, b, c⟩, d⟩; exact ⟨a, b, c, d⟩
theorem joinE_nil (x : Int) : joinE [] x = [⟨x, 1⟩] := rfl
theorem joinE_snoc (L : List S49) (e : S49) (x : Int) : joinE (L ++ [e]) x = if wrap64 (e.f0 + e.f1) = x then L ++ [⟨e.f0, wrap64 (e.f1 + 1)⟩] else (L ++ [e]) ++ [⟨x, 1⟩] := by
  unfold joinE
  rw [List.getLast?_concat, List.dropLast_concat]
theorem joinE_len (l : List S49) (x : Int) : (joinE l x).length ≤ l.length + 1 := by
  rcases l.eq_nil_or_concat with h | ⟨L, e, h⟩
  · subst h; simp [joinE_nil]
  · rw [List.concat_eq_append] at h
    subst h
    rw [joinE_snoc]
    split <;> simp
theorem fold_len (xs : List Int) : ∀ l, (xs.foldl joinE l).length ≤ l.length + xs.length := by
  induction xs with
  | nil => intro l; simp
  | cons x xs ih => intro l; rw [List.foldl_cons]; have := ih (joinE l x); have := joinE_len l x; simp only [List.length_cons]; omega
theorem canon_length (p : Nat → Bool) : (canon p).length ≤ 5000 := by
  unfold canon
  have h := fold_len (((List.range 4096).filter p).map fun (b : Nat) => (b : Int)) []
  have h2 := List.length_filter_le p (List.range 4096)
  rw [List.length_range] at h2
  rw [List.length_map] at h
  simp only [List.length_nil] at h
  omega
structure Joined (B : Nat) (xs : List Nat) (L : List S49) : Prop where
  asc : Asc (-1) L
  cover : ∀ t : Int, Cov L t ↔ ∃ j ∈ xs, t = (j : Int)
  last : L = [] ∧ xs = [] ∨ ∃ x ∈ xs, endL (-1) L = x + 1
  bound : ∀ e ∈ L, 0 ≤ e.f0 ∧ 1 ≤ e.f1 ∧ e.f0 + e.f1 ≤ B
theorem joined_snoc {B : Nat} (hB : B ≤ 1000000) {xs : List Nat} {L : List S49} (h : Joined B xs L) {x : Nat} (hx : ∀ y ∈ xs, y < x) (hxB : x < B) : Joined B (xs ++ [x]) (joinE L x) := by
  have hmem : ∀ t : Int, (∃ j ∈ xs ++ [x], t = (j : Int)) ↔ (∃ j ∈ xs, t = (j : Int)) ∨ t = x := fun t => by
    constructor
    · rintro ⟨j, hj, rfl⟩
      rcases List.mem_append.1 hj with hj | hj
      · exact .inl ⟨j, hj, rfl⟩
      · rw [List.mem_singleton] at hj; subst hj; exact .inr rfl
    · rintro (⟨j, hj, rfl⟩ | rfl)
      · exact ⟨j, List.mem_append_left _ hj, rfl⟩
      · exact ⟨x, by simp, rfl⟩
  rcases L.eq_nil_or_concat with h0 | ⟨M, e, h0⟩
  · subst h0
    have hxs : xs = [] := by
      rcases h.last with ⟨_, h1⟩ | ⟨y, hy, h1⟩
      · exact h1
      · exact absurd ((h.cover y).2 ⟨y, hy, rfl⟩) (cov_nil _)
    subst hxs
    rw [joinE_nil]
    refine ⟨⟨by simp only; omega, by simp only; omega, trivial⟩, fun t => ?_, .inr ⟨x, by simp, rfl⟩, ?_⟩
    · rw [hmem, cov_cons]
      constructor
      · rintro (h1 | h1)
        · right; simp only at h1; omega
        · exact absurd h1 (cov_nil _)
      · rintro (⟨j, hj, _⟩ | h1)
        · cases hj
        · left; simp only; omega
    · intro e he
      rw [List.mem_singleton] at he
      subst he
      simp only; omega
  · rw [List.concat_eq_append] at h0
    subst h0
    obtain ⟨y, hy, hend⟩ : ∃ y ∈ xs, endL (-1) (M ++ [e]) = y + 1 := by
      rcases h.last with ⟨h1, _⟩ | h1
      · simp at h1
      · exact h1
    rw [endL_snoc] at hend
    have hyx := hx y hy
    have hbe := h.bound e (by simp)
    have hasc := (asc_snoc e M (-1)).1 h.asc
    rw [joinE_snoc, w64 (e.f0 + e.f1) (by omega) (by omega)]
    by_cases hj : e.f0 + e.f1 = x
    · rw [if_pos hj, w64 (e.f1 + 1) (by omega) (by omega)]
      refine ⟨(asc_snoc _ M (-1)).2 ⟨hasc.1, hasc.2.1, by simp only; omega⟩, fun t => ?_, .inr ⟨x, by simp, ?_⟩, ?_⟩
      · rw [hmem, ← h.cover t, cov_snoc, cov_snoc]
        simp only
        constructor
        · rintro (h1 | h1)
          · exact .inl (.inl h1)
          · by_cases ht : t = x
            · exact .inr ht
            · exact .inl (.inr ⟨by omega, by omega⟩)
        · rintro ((h1 | h1) | h1)
          · exact .inl h1
          · exact .inr ⟨by omega, by omega⟩
          · exact .inr ⟨by omega, by omega⟩
      · rw [endL_snoc]; simp only; omega
      · intro e' he'
        rcases List.mem_append.1 he' with he' | he'
        · exact h.bound e' (List.mem_append_left _ he')
        · rw [List.mem_singleton] at he'
          subst he'
          simp only; omega
    · rw [if_neg hj]
      refine ⟨(asc_snoc _ _ (-1)).2 ⟨h.asc, by rw [endL_snoc]; simp only; omega, by simp only; omega⟩, fun t => ?_, .inr ⟨x, by simp, by rw [endL_snoc]⟩, ?_⟩
      · rw [hmem, cov_snoc, h.cover t]
        simp only
        constructor
        · rintro (h1 | h1)
          · exact .inl h1
          · exact .inr (by omega)
        · rintro (h1 | h1)
          · exact .inl h1
          · exact .inr ⟨by omega, by omega⟩
      · intro e' he'
        rcases List.mem_append.1 he' with he' | he'
        · exact h.bound e' he'
        · rw [List.mem_singleton] at he'
          subst he'
          simp only; omega
theorem joined_fold {B : Nat} (hB : B ≤ 1000000) : ∀ (ys xs : List Nat) (L : List S49), Joined B xs L → (xs ++ ys).Pairwise (· < ·) → (∀ y ∈ ys, y < B) → Joined B (xs ++ ys) ((ys.map fun (b : Nat) => (b : Int)).foldl joinE L)
  | [], xs, L, h, _, _ => by simpa using h
  | y :: ys, xs, L, h, hp, hb => by
    rw [List.map_cons, List.foldl_cons]
    have e : xs ++ y :: ys = (xs ++ [y]) ++ ys := by simp
    rw [e] at hp ⊢
    refine joined_fold hB ys (xs ++ [y]) _ (joined_snoc hB h ?_ (hb y List.mem_cons_self)) hp (fun z hz => hb z (List.mem_cons_of_mem _ hz))
    intro z hz
    have := (List.pairwise_append.1 hp).1
    exact (List.pairwise_append.1 this).2.2 z hz y (by simp)
def canonN (N : Nat) (p : Nat → Bool) : List S49 := (((List.range N).filter p).map fun (b : Nat) => (b : Int)).foldl joinE []
theorem canon_eq (p : Nat → Bool) : canon p = canonN 4096 p := by unfold canon canonN; rfl
theorem canonN_joined (N : Nat) (hN : N ≤ 1000000) (p : Nat → Bool) : Joined N ((List.range N).filter p) (canonN N p) :=
  joined_fold (B := N) hN ((List.range N).filter p) [] [] ⟨trivial, fun t => ⟨fun h => absurd h (cov_nil _), fun ⟨j, hj, _⟩ => by cases hj⟩, .inl ⟨rfl, rfl⟩, fun _ h => by cases h⟩
    (by rw [List.nil_append]; exact List.Pairwise.filter _ List.pairwise_lt_range) (fun y hy => List.mem_range.1 (List.mem_filter.1 hy).1)
attribute [irreducible] canonN
theorem canonN_cov (N : Nat) (hN : N ≤ 1000000) (p : Nat → Bool) (t : Int) : Cov (canonN N p) t ↔ 0 ≤ t ∧ t < N ∧ p t.toNat = true := by
  rw [(canonN_joined N hN p).cover]
  constructor
  · rintro ⟨j, hj, rfl⟩
    rw [List.mem_filter, List.mem_range] at hj
    exact ⟨by omega, by omega, by rw [Int.toNat_natCast]; exact hj.2⟩
  · rintro ⟨h1, h2, h3⟩
    exact ⟨t.toNat, List.mem_filter.2 ⟨List.mem_range.2 (by omega), h3⟩, by omega⟩
theorem canon_asc (p : Nat → Bool) : Asc (-1) (canon p) := by
  have h := canonN_joined 4096 (by omega) p
  have h2 := h.asc
  have h3 := canon_eq p
  generalize canonN 4096 p = L at h2 h3
  rw [h3]
  exact h2
theorem canon_cov (p : Nat → Bool) (t : Int) : Cov (canon p) t ↔ 0 ≤ t ∧ t < 4096 ∧ p t.toNat = true := by
  have := canonN_cov 4096 (by omega) p t
  rw [canon_eq, this]
  have e : ((4096 : Nat) : Int) = 4096 := by omega
  rw [e]
theorem canon_of {p : Nat → Bool} {l : List S49} {q : Int} (hl : Asc q l) (h : ∀ t, Cov l t ↔ 0 ≤ t ∧ t < 4096 ∧ p t.toNat = true) : l = canon p :=
  asc_unique hl (canon_asc p) (fun t => (h t).trans (canon_cov p t).symm)
end Go.Proofs.YtnjbdcnefienhaaDoor.P.X

namespace Go.Proofs.YtnjbdcnefienhaaDoor.P.X
open Go.Proofs.YtnjbdcnefienhaaDoor.P Go.RowKit
def part (i t : Int) (x : Int × Int × Int) : Int := if x.2.1 = i ∧ x.1 ≤ t then x.2.2 else 0
def depS (i t : Int) : List (Int × Int × Int) → Int
  | [] => 0
  | x :: r => part i t x + depS i t r
theorem depS_append (i t : Int) : ∀ l m, depS i t (l ++ m) = depS i t l + depS i t m
  | [], m => by simp [depS]
  | x :: l, m => by rw [List.cons_append, depS, depS, depS_append i t l m, Int.add_assoc]
theorem depS_perm (i t : Int) {l m : List (Int × Int × Int)} (h : List.Perm l m) : depS i t l = depS i t m := by
  induction h with
  | nil => rfl
  | cons x _ ih => rw [depS, depS, ih]
  | swap x y l => simp only [depS]; omega
  | trans _ _ h1 h2 => exact h1.trans h2
theorem wI_ok {e : S49} (h : (wI e).2.2 = true) : 0 ≤ (wI e).1 ∧ (wI e).1 < (wI e).2.1 ∧ (wI e).2.1 ≤ 4096 := by
  have he := wI_eq e.f0 e.f1
  have hx : (⟨e.f0, e.f1⟩ : S49) = e := rfl
  rw [hx] at he
  generalize wI e = q at he h
  unfold xwithin.f at he
  simp only [mx_eq, mn_eq] at he
  split at he
  · have := Option.some.inj he
    subst this
    cases h
  · split at he
    · have := Option.some.inj he
      subst this
      simp only [decide_eq_true_eq] at h ⊢
      omega
    · split at he
      · have := Option.some.inj he
        subst this
        simp only [decide_eq_true_eq] at h ⊢
        omega
      · have := Option.some.inj he
        subst this
        simp only [decide_eq_true_eq] at h ⊢
        omega
def cnt (t : Int) : List S49 → Int
  | [] => 0
  | e :: l => (if inE e t then 1 else 0) + cnt t l
theorem cnt_nonneg (t : Int) : ∀ l, 0 ≤ cnt t l
  | [] => Int.le_refl _
  | e :: l => by have := cnt_nonneg t l; rw [cnt]; split <;> omega
theorem cnt_pos (t : Int) : ∀ l, decide (cnt t l > 0) = inL l t
  | [] => rfl
  | e :: l => by
    have h := cnt_pos t l
    have h0 := cnt_nonneg t l
    unfold inL at h ⊢
    rw [List.any_cons, ← h, cnt]
    cases inE e t
    · simp
    · simp; omega
theorem dep_endsE (i t : Int) (e : S49) : depS i t (endsE i e) = if inE e t then 1 else 0 := by
  unfold endsE inE
  cases h : (wI e).2.2
  · simp [depS]
  · obtain ⟨h0, h1, h2⟩ := wI_ok h
    rw [if_pos rfl]
    simp only [depS, part, true_and, Bool.true_and, decide_eq_true_eq]
    by_cases ha : (wI e).1 ≤ t
    · by_cases hb : (wI e).2.1 ≤ t
      · rw [if_pos ha, if_pos hb, if_neg (by omega)]; omega
      · rw [if_pos ha, if_neg hb, if_pos (by omega)]; omega
    · rw [if_neg ha, if_neg (by omega), if_neg (by omega)]; omega
theorem dep_other {i j : Int} (h : i ≠ j) (t : Int) (e : S49) : depS i t (endsE j e) = 0 := by
  unfold endsE
  split
  · have hj : ¬ j = i := fun hh => h hh.symm
    simp [depS, part, hj]
  · rfl
theorem dep_endsOf (i t : Int) : ∀ l, depS i t (endsOf i l) = cnt t l
  | [] => rfl
  | e :: l => by
    have h := dep_endsOf i t l
    unfold endsOf at h ⊢
    rw [List.flatMap_cons, depS_append, dep_endsE, h, cnt]
theorem dep_endsOf_other {i j : Int} (h : i ≠ j) (t : Int) : ∀ l, depS i t (endsOf j l) = 0
  | [] => rfl
  | e :: l => by
    have h' := dep_endsOf_other h t l
    unfold endsOf at h' ⊢
    rw [List.flatMap_cons, depS_append, dep_other h, h']; rfl
theorem dep_before (i t : Int) : ∀ r : List (Int × Int × Int), (∀ x ∈ r, t < x.1) → depS i t r = 0
  | [], _ => rfl
  | x :: r, h => by
    have hx := h x List.mem_cons_self
    rw [depS, dep_before i t r (fun y hy => h y (List.mem_cons_of_mem _ hy)), part, if_neg (by omega)]; rfl
theorem sweep_spec (keep : Bool → Bool → Bool) : ∀ (r : List (Int × Int × Int)) (c0 c1 st T p : Int) (ins : Bool), r.Pairwise (fun x y => x.1 ≤ y.1) → (∀ x ∈ r, T ≤ x.1) → (∀ x ∈ r, (x.2.1 = 0 ∨ x.2.1 = 1) ∧ 0 ≤ x.1 ∧ x.1 ≤ 4096) →
    ((∃ x, r.head? = some x ∧ x.1 = T) ∨ ins = keep (decide (c0 > 0)) (decide (c1 > 0))) → keep (decide (c0 + depS 0 4096 r > 0)) (decide (c1 + depS 1 4096 r > 0)) = false →
    (ins = true → p < st ∧ st < T ∧ 0 ≤ st) → (ins = false → p ≤ T ∧ (p < T ∨ ∀ x ∈ r, T < x.1)) →
    Asc p (sweepX keep c0 c1 st ins r) ∧ ∀ t, Cov (sweepX keep c0 c1 st ins r) t ↔ (ins = true ∧ st ≤ t ∧ t < T) ∨ (T ≤ t ∧ keep (decide (c0 + depS 0 t r > 0)) (decide (c1 + depS 1 t r > 0)) = true) := by
  intro r
  induction r with
  | nil =>
    intro c0 c1 st T p ins _ _ _ hh hf _ _
    have hi : ins = keep (decide (c0 > 0)) (decide (c1 > 0)) := by
      rcases hh with ⟨x, hx, _⟩ | hh
      · cases hx
      · exact hh
    simp only [depS, Int.add_zero] at hf ⊢
    rw [hf] at hi
    subst hi
    rw [sweepX, hf]
    refine ⟨trivial, fun t => ⟨fun h => absurd h (cov_nil _), ?_⟩⟩
    rintro (⟨h, _⟩ | ⟨_, h⟩) <;> cases h
  | cons x r ih =>
    intro c0 c1 st T p ins hs hT hb hh hf hi1 hi0
    obtain ⟨a, i, s⟩ := x
    obtain ⟨hbi, hb0, hb1⟩ := hb _ List.mem_cons_self
    have hTa := hT _ List.mem_cons_self
    simp only at hbi hb0 hb1 hTa
    obtain ⟨hsx, hsr⟩ := List.pairwise_cons.1 hs
    simp only at hsx
    obtain ⟨f0, f1, hf01⟩ : ∃ f0 f1 : Int, (f0, f1) = if i = 0 then (c0 + s, c1) else (c0, c1 + s) := ⟨_, _, rfl⟩
    rw [sweepX_cons keep c0 c1 st ins (a, i, s) r f0 f1 hf01]
    simp only
    -- what the steps come to, before and behind a
    have hlt : ∀ t, t < a → depS 0 t ((a, i, s) :: r) = 0 ∧ depS 1 t ((a, i, s) :: r) = 0 := fun t ht => by
      have hall : ∀ y ∈ (a, i, s) :: r, t < y.1 := fun y hy => by
        rcases List.mem_cons.1 hy with rfl | hy
        · exact ht
        · have := hsx y hy; omega
      exact ⟨dep_before 0 t _ hall, dep_before 1 t _ hall⟩
    have hge : ∀ t, a ≤ t → c0 + depS 0 t ((a, i, s) :: r) = f0 + depS 0 t r ∧ c1 + depS 1 t ((a, i, s) :: r) = f1 + depS 1 t r := fun t ht => by
      simp only [depS, part]
      rcases hbi with rfl | rfl
      · rw [if_pos rfl] at hf01
        injection hf01 with e1 e2
        rw [if_pos ⟨rfl, ht⟩, if_neg (by omega)]; omega
      · rw [if_neg (by decide)] at hf01
        injection hf01 with e1 e2
        rw [if_neg (by omega), if_pos ⟨rfl, ht⟩]; omega
    have hbr : ∀ x ∈ r, (x.2.1 = 0 ∨ x.2.1 = 1) ∧ 0 ≤ x.1 ∧ x.1 ≤ 4096 := fun y hy => hb y (List.mem_cons_of_mem _ hy)
    have hfr : keep (decide (f0 + depS 0 4096 r > 0)) (decide (f1 + depS 1 4096 r > 0)) = false := by
      have := hge 4096 hb1
      rw [← this.1, ← this.2]; exact hf
    have hins : T < a → ins = keep (decide (c0 > 0)) (decide (c1 > 0)) := fun h => by
      rcases hh with ⟨y, hy, hyT⟩ | hh
      · injection hy with hy
        subst hy
        simp only at hyT
        omega
      · exact hh
    have hK : ∀ t, T ≤ t → t < a → keep (decide (c0 + depS 0 t ((a, i, s) :: r) > 0)) (decide (c1 + depS 1 t ((a, i, s) :: r) > 0)) = ins := fun t h1 h2 => by
      rw [(hlt t h2).1, (hlt t h2).2, Int.add_zero, Int.add_zero, ← hins (by omega)]
    have hp : ins = false → p < a ∨ (p ≤ a ∧ ∀ x ∈ r, a < x.1) := fun h => by
      obtain ⟨h1, h2⟩ := hi0 h
      rcases h2 with h2 | h2
      · left; omega
      · have := h2 _ List.mem_cons_self
        simp only at this
        left; omega
    by_cases hsame : r.head?.map (·.1) = some a
    · rw [if_pos hsame]
      have hhd : ∃ x, r.head? = some x ∧ x.1 = a := by
        cases hr : r.head? with
        | none => rw [hr] at hsame; cases hsame
        | some y => rw [hr] at hsame; exact ⟨y, rfl, Option.some.inj hsame⟩
      obtain ⟨hA, hC⟩ := ih f0 f1 st a p ins hsr hsx hbr (.inl hhd) hfr (fun h => ⟨(hi1 h).1, by have := (hi1 h).2.1; omega, (hi1 h).2.2⟩) (fun h => by
        rcases hp h with h1 | h1
        · exact ⟨by omega, .inl h1⟩
        · exact ⟨h1.1, .inr h1.2⟩)
      refine ⟨hA, fun t => ?_⟩
      rw [hC t]
      rcases Int.lt_or_le t a with ht | ht
      · constructor
        · rintro (⟨h1, h2, h3⟩ | ⟨h1, h2⟩)
          · rcases Int.lt_or_le t T with h4 | h4
            · exact .inl ⟨h1, h2, h4⟩
            · exact .inr ⟨h4, by rw [hK t h4 ht]; exact h1⟩
          · omega
        · rintro (⟨h1, h2, h3⟩ | ⟨h1, h2⟩)
          · exact .inl ⟨h1, h2, by omega⟩
          · rw [hK t h1 ht] at h2
            exact .inl ⟨h2, by have := (hi1 h2).2.1; omega, ht⟩
      · rw [(hge t ht).1, (hge t ht).2]
        constructor
        · rintro (⟨h1, h2, h3⟩ | ⟨h1, h2⟩)
          · omega
          · exact .inr ⟨by omega, h2⟩
        · rintro (⟨h1, h2, h3⟩ | ⟨h1, h2⟩)
          · omega
          · exact .inr ⟨ht, h2⟩
    · rw [if_neg hsame]
      have hgt : ∀ x ∈ r, a + 1 ≤ x.1 := fun y hy => by
        cases r with
        | nil => cases hy
        | cons z r' =>
          have hz := hsx z List.mem_cons_self
          have hne : z.1 ≠ a := fun h => hsame (by simp [h])
          rcases List.mem_cons.1 hy with rfl | hy
          · omega
          · have := (List.pairwise_cons.1 hsr).1 y hy; omega
      obtain ⟨now, hnow⟩ : ∃ now, now = keep (decide (f0 > 0)) (decide (f1 > 0)) := ⟨_, rfl⟩
      rw [← hnow]
      have hKa : keep (decide (f0 + depS 0 a r > 0)) (decide (f1 + depS 1 a r > 0)) = now := by
        rw [dep_before 0 a r (fun y hy => by have := hgt y hy; omega), dep_before 1 a r (fun y hy => by have := hgt y hy; omega), Int.add_zero, Int.add_zero, hnow]
      have fin : ∀ (L : List S49) (q : Prop), (∀ t, Cov L t ↔ (q ∧ t < a) ∧ (T ≤ t ∨ t < T) ∧ Cov L t ∨ Cov L t) := fun L q t => ⟨fun h => .inr h, fun h => h.elim (fun h => h.2.2) id⟩
      clear fin
      cases now <;> cases ins
      · -- neither
        rw [if_neg (by decide), if_neg (by decide)]
        obtain ⟨hA, hC⟩ := ih f0 f1 st (a + 1) p false hsr hgt hbr (.inr hnow) hfr (fun h => by cases h) (fun _ => by
          rcases hp rfl with h1 | h1
          · exact ⟨by omega, .inl (by omega)⟩
          · exact ⟨by omega, .inl (by omega)⟩)
        refine ⟨hA, fun t => ?_⟩
        rw [hC t]
        rcases Int.lt_or_le t a with ht | ht
        · constructor
          · rintro (⟨h1, _⟩ | ⟨h1, h2⟩)
            · cases h1
            · omega
          · rintro (⟨h1, _⟩ | ⟨h1, h2⟩)
            · cases h1
            · rw [hK t h1 ht] at h2; cases h2
        · rw [(hge t ht).1, (hge t ht).2]
          constructor
          · rintro (⟨h1, _⟩ | ⟨h1, h2⟩)
            · cases h1
            · exact .inr ⟨by omega, h2⟩
          · rintro (⟨h1, _⟩ | ⟨h1, h2⟩)
            · cases h1
            · rcases Int.lt_or_le a t with h3 | h3
              · exact .inr ⟨by omega, h2⟩
              · obtain rfl : t = a := by omega
                rw [hKa] at h2; cases h2
      · -- it ends
        rw [if_neg (by decide), if_pos (by decide)]
        obtain ⟨q1, q2, q3⟩ := hi1 rfl
        obtain ⟨hA, hC⟩ := ih f0 f1 st (a + 1) a false hsr hgt hbr (.inr hnow) hfr (fun h => by cases h) (fun _ => ⟨by omega, .inl (by omega)⟩)
        have hw : wrap64 (a - st) = a - st := w64 _ (by omega) (by omega)
        rw [hw]
        refine ⟨⟨q1, by simp only; omega, ?_⟩, fun t => ?_⟩
        · have e : st + (a - st) = a := by omega
          simp only [e]; exact hA
        · rw [cov_cons, hC t]
          simp only
          rcases Int.lt_or_le t a with ht | ht
          · constructor
            · rintro (h1 | ⟨h1, _⟩ | ⟨h1, h2⟩)
              · rcases Int.lt_or_le t T with h4 | h4
                · exact .inl ⟨trivial, h1.1, h4⟩
                · exact .inr ⟨h4, hK t h4 ht⟩
              · cases h1
              · omega
            · rintro (⟨_, h2, h3⟩ | ⟨h1, h2⟩)
              · exact .inl ⟨h2, by omega⟩
              · exact .inl ⟨by omega, by omega⟩
          · rw [(hge t ht).1, (hge t ht).2]
            constructor
            · rintro (h1 | ⟨h1, _⟩ | ⟨h1, h2⟩)
              · omega
              · cases h1
              · exact .inr ⟨by omega, h2⟩
            · rintro (⟨_, h2, h3⟩ | ⟨h1, h2⟩)
              · omega
              · rcases Int.lt_or_le a t with h3 | h3
                · exact .inr (.inr ⟨by omega, h2⟩)
                · obtain rfl : t = a := by omega
                  rw [hKa] at h2; cases h2
      · -- it begins
        rw [if_pos (by decide)]
        have hpa : p < a := by
          rcases hp rfl with h1 | h1
          · exact h1
          · obtain ⟨h2, h3⟩ := hi0 rfl
            rcases h3 with h3 | h3
            · omega
            · have := h3 _ List.mem_cons_self
              simp only at this
              omega
        obtain ⟨hA, hC⟩ := ih f0 f1 a (a + 1) p true hsr hgt hbr (.inr hnow) hfr (fun _ => ⟨hpa, by omega, hb0⟩) (fun h => by cases h)
        refine ⟨hA, fun t => ?_⟩
        rw [hC t]
        rcases Int.lt_or_le t a with ht | ht
        · constructor
          · rintro (⟨_, h2, h3⟩ | ⟨h1, h2⟩) <;> omega
          · rintro (⟨h1, _⟩ | ⟨h1, h2⟩)
            · cases h1
            · rw [hK t h1 ht] at h2; cases h2
        · rw [(hge t ht).1, (hge t ht).2]
          constructor
          · rintro (⟨_, h2, h3⟩ | ⟨h1, h2⟩)
            · obtain rfl : t = a := by omega
              exact .inr ⟨hTa, hKa⟩
            · exact .inr ⟨by omega, h2⟩
          · rintro (⟨h1, _⟩ | ⟨h1, h2⟩)
            · cases h1
            · rcases Int.lt_or_le a t with h3 | h3
              · exact .inr ⟨by omega, h2⟩
              · exact .inl ⟨rfl, ht, by omega⟩
      · -- it goes on
        rw [if_neg (by decide), if_neg (by decide)]
        obtain ⟨q1, q2, q3⟩ := hi1 rfl
        obtain ⟨hA, hC⟩ := ih f0 f1 st (a + 1) p true hsr hgt hbr (.inr hnow) hfr (fun _ => ⟨q1, by omega, q3⟩) (fun h => by cases h)
        refine ⟨hA, fun t => ?_⟩
        rw [hC t]
        rcases Int.lt_or_le t a with ht | ht
        · constructor
          · rintro (⟨_, h2, h3⟩ | ⟨h1, h2⟩)
            · rcases Int.lt_or_le t T with h4 | h4
              · exact .inl ⟨rfl, h2, h4⟩
              · exact .inr ⟨h4, hK t h4 ht⟩
            · omega
          · rintro (⟨_, h2, h3⟩ | ⟨h1, h2⟩)
            · exact .inl ⟨rfl, h2, by omega⟩
            · exact .inl ⟨rfl, by omega, by omega⟩
        · rw [(hge t ht).1, (hge t ht).2]
          constructor
          · rintro (⟨_, h2, h3⟩ | ⟨h1, h2⟩)
            · obtain rfl : t = a := by omega
              exact .inr ⟨hTa, hKa⟩
            · exact .inr ⟨by omega, h2⟩
          · rintro (⟨_, h2, h3⟩ | ⟨h1, h2⟩)
            · omega
            · rcases Int.lt_or_le a t with h3 | h3
              · exact .inr ⟨by omega, h2⟩
              · exact .inl ⟨rfl, by omega, by omega⟩
theorem ends_range {i : Int} {l : List S49} {x : Int × Int × Int} (h : x ∈ endsOf i l) : 0 ≤ x.1 ∧ x.1 ≤ 4096 := by
  unfold endsOf at h
  rw [List.mem_flatMap] at h
  obtain ⟨e, _, h⟩ := h
  unfold endsE at h
  split at h
  · rename_i hok
    obtain ⟨h0, h1, h2⟩ := wI_ok hok
    simp only [List.mem_cons, List.not_mem_nil, or_false] at h
    rcases h with rfl | rfl
    · simp only; omega
    · simp only; omega
  · cases h
theorem inL_range {l : List S49} {t : Int} (h : inL l t = true) : 0 ≤ t ∧ t < 4096 := by
  unfold inL at h
  rw [List.any_eq_true] at h
  obtain ⟨e, _, h⟩ := h
  unfold inE at h
  rw [Bool.and_eq_true, decide_eq_true_iff] at h
  obtain ⟨h0, h1, h2⟩ := wI_ok h.1
  omega
theorem sweep_canon (keep : Bool → Bool → Bool) (h00 : keep false false = false) (l0 l1 : List S49) (_hN : l0.length + l1.length ≤ 100000) (d : List (Int × Int × Int)) (hp : List.Perm d (endsOf 0 l0 ++ endsOf 1 l1)) (hs : d.Pairwise (fun x y => x.1 ≤ y.1)) :
    sweepX keep 0 0 0 false d = canon fun j => keep (inL l0 j) (inL l1 j) := by
  have hd0 : ∀ t, depS 0 t d = cnt t l0 := fun t => by rw [depS_perm 0 t hp, depS_append, dep_endsOf, dep_endsOf_other (by decide), Int.add_zero]
  have hd1 : ∀ t, depS 1 t d = cnt t l1 := fun t => by rw [depS_perm 1 t hp, depS_append, dep_endsOf, dep_endsOf_other (by decide), Int.zero_add]
  have hmem : ∀ x ∈ d, (x.2.1 = 0 ∨ x.2.1 = 1) ∧ 0 ≤ x.1 ∧ x.1 ≤ 4096 := fun x hx => by
    rcases List.mem_append.1 ((hp.mem_iff).1 hx) with h | h
    · exact ⟨.inl (mem_endsOf h).1, ends_range h⟩
    · exact ⟨.inr (mem_endsOf h).1, ends_range h⟩
  have hout : ∀ (l : List S49) (t : Int), ¬ (0 ≤ t ∧ t < 4096) → inL l t = false := fun l t h => by
    cases hb : inL l t
    · rfl
    · exact absurd (inL_range hb) h
  have hk : ∀ t, keep (decide (0 + depS 0 t d > 0)) (decide (0 + depS 1 t d > 0)) = keep (inL l0 t) (inL l1 t) := fun t => by rw [Int.zero_add, Int.zero_add, hd0, hd1, cnt_pos, cnt_pos]
  obtain ⟨hA, hC⟩ := sweep_spec keep d 0 0 0 0 (-1) false hs (fun x hx => (hmem x hx).2.1) hmem (.inr (by simp [h00])) (by rw [hk 4096, hout l0 4096 (by omega), hout l1 4096 (by omega), h00]) (fun h => by cases h) (fun _ => ⟨by omega, .inl (by omega)⟩)
  refine canon_of hA fun t => ?_
  rw [hC t, hk t]
  constructor
  · rintro (⟨h, _⟩ | ⟨h1, h2⟩)
    · cases h
    · refine ⟨h1, ?_, ?_⟩
      · rcases Int.lt_or_le t 4096 with h3 | h3
        · exact h3
        · rw [hout l0 t (by omega), hout l1 t (by omega), h00] at h2; cases h2
      · show keep (inL l0 (t.toNat : Int)) (inL l1 (t.toNat : Int)) = true
        rw [Int.toNat_of_nonneg h1]; exact h2
  · rintro ⟨h1, h2, h3⟩
    have h3 : keep (inL l0 (t.toNat : Int)) (inL l1 (t.toNat : Int)) = true := h3
    rw [Int.toNat_of_nonneg h1] at h3
    exact .inr ⟨h1, h3⟩
end Go.Proofs.YtnjbdcnefienhaaDoor.P.X

namespace Go.Proofs.YtnjbdcnefienhaaDoor.P.X
open Go.Proofs.YtnjbdcnefienhaaDoor.P Go.RowKit Go.Shelf Go.Proofs.YtnjbdcnefienhaaDoorW.PrintWords Go.Proofs.YtnjbdcnefienhaaDoorW.PrintLast Go.Proofs.YtnjbdcnefienhaaDoorW.PrintMore
attribute [local go_sem] Oper.semAt_some
attribute [local go_sem] max2_int min2_int max_two min_two max_three min_three max_four min_four
def flat (l : List S49) : List Value := l.flatMap fun e => [.int .i64 e.f0, .int .i64 e.f1]
theorem flat_append (l m : List S49) : flat (l ++ m) = flat l ++ flat m := by simp [flat]
theorem infoExt : (Tryd.prog.info? 49).map (fun i => (i.zero, i.size, i.bytes)) = some (some (.agg #[.int .i64 0, .int .i64 0]), 2, 16) := by kernel_rfl
theorem cells_two_new (W : World) (a b : Value) (t : TypeId) : ∀ j u, ([a, b] : List Value)[j]? = some u → (W.alloc (.cells #[a, b] t)).cell? ((⟨W.heap.size, 0, none⟩ : Addr).add j) = some u := by
  intro j u hj
  rw [add_plain]
  have h := blk_cell (heap_alloc_new W (.cells #[a, b] t)) j
  rw [h]
  simpa using hj
theorem reps_flat (w : World) (base : Nat) (ok : Nat → Prop) (l : List S49) : Reps (k49.M w base ok) 2 l (flat l) := by
  suffices h : ∀ (m l : List S49), Reps (k49.M w base ok) 2 m (flat m) → Reps (k49.M w base ok) 2 (m ++ l) (flat (m ++ l)) by simpa using h [] l (Reps.none _ _)
  intro m l
  induction l generalizing m with
  | nil => intro h; simpa using h
  | cons a l ih =>
    intro h
    have := ih (m ++ [a]) (by rw [flat_append]; exact h.snoc (k49_mkM w base ok a) rfl)
    simpa using this
theorem KpX.alloc {n₀ B1 B2 B3 : Nat} {W : World} (h0 : n₀ ≤ W.heap.size) (h1 : B1 < W.heap.size) (h2 : B2 < W.heap.size) (h3 : B3 < W.heap.size) (o : Obj) : KpX n₀ B1 B2 B3 W (W.alloc o) :=
  ⟨(Below.refl _ W).alloc h0 o, Below.heap_alloc _ _ _ h1, Below.heap_alloc _ _ _ h2, Below.heap_alloc _ _ _ h3, fun _ _ _ _ h => (Below.heap_alloc _ _ _ (Array.getElem?_eq_some_iff.1 h).1).trans h⟩
set_option maxHeartbeats 8000000 in
set_option maxRecDepth 100000 in
theorem append_seq (xs : List S49) (hxl : xs.length ≤ 5000) (B1 B2 B3 : Nat) (w : World) (h1 : B1 < w.heap.size) (h2 : B2 < w.heap.size) (h3 : B3 < w.heap.size)
    (hgive : ∀ n, GivesAll Fence.wide n Tryd.prog 85 #[.pointer (some ⟨B1, 0, none⟩), .pointer (some ⟨B2, 0, none⟩), .pointer (some ⟨B3, 0, none⟩)] (fun x : S49 => #[.agg #[.int .i64 x.f0, .int .i64 x.f1]]) (KpX w.heap.size B1 B2 B3) (fun t => t = 133) xs w) :
    Calls Tryd.prog 84 #[.slice none 0 0, .func (.func 85) #[] #[.pointer (some ⟨B1, 0, none⟩), .pointer (some ⟨B2, 0, none⟩), .pointer (some ⟨B3, 0, none⟩)]] w fun e w' => ∃ v, e = .returned v ∧ w'.ownsRow w.heap.size 49 2 v xs.length (flat xs) ∧ Below w.heap.size w w' := by
  refine (callsIn_wide (n := 5)).1 ?_
  have HG := Aside0.mk hgive
  clear hgive
  refine callsIn_of_wp_marks Tryd.func84 rfl trivial ?_ rfl
  simp only [Tryd.ntmps84, List.size_toArray, List.length_cons, List.length_nil, Nat.reduceAdd, Nat.reduceSub, Array.replicate_succ, Array.replicate_zero, List.push_toArray, List.append_toArray, List.nil_append, List.cons_append]
  gi_wp2
  obtain ⟨V, hV⟩ : ∃ V, w.alloc (.cells #[.slice none 0 0] 56) = V := ⟨_, rfl⟩
  have hVb : Below w.heap.size w V := by rw [← hV]; exact below_alloc (Below.refl _ _) _
  have hVn : V.heap[w.heap.size]? = some (.cells #[.slice none 0 0] 56 (0, 0)) := by rw [← hV]; exact heap_alloc_new w _
  have hVz : V.heap.size = w.heap.size + 1 := by rw [← hV]; simp
  rw [hV]
  clear hV
  refine range_all rfl (by omega) (gf := 85) (lb := #[.pointer (some ⟨B1, 0, none⟩), .pointer (some ⟨B2, 0, none⟩), .pointer (some ⟨B3, 0, none⟩)]) rfl trivial (enters_of Tryd.func85 (by kernel_rfl) rfl)
    (HG.out _) KpX.trans (KpX.putObj hVb.size (by omega) (by omega) (by omega)) hVb (fun _ => rfl)
    (fun (pre : List S49) W => (∃ v, Boxed W w.heap.size 56 v ∧ W.ownsRow w.heap.size 49 2 v pre.length (flat pre) ∧ True) ∧ Below w.heap.size w W)
    (OwnFrom.and (Own.from (holdsRow_own w.heap.size w.heap.size 56 49 2 (fun (pre : List S49) => pre.length) (fun (pre : List S49) => flat pre) (fun _ _ => True)) _) (ownFrom_below (Nat.le_refl _) hVb.size))
    ?abides ⟨⟨.slice none 0 0, hVn, own_nil _ _ _ _, trivial⟩, hVb⟩
    (fun x => .cells #[.int .i64 x.f0, .int .i64 x.f1] 49) ?kalloc ?act ?assign ?body ?done
  case abides =>
    intro s W W' row hs hg hr
    obtain ⟨⟨v, hv, hrow, -⟩, hB⟩ := hs
    refine ⟨⟨v, hv.kept hg ?_, hrow.kept hg ?_, trivial⟩, ?_⟩
    · intro e
      obtain ⟨-, cs, t, hc, rfl⟩ := hr _ e.symm
      have : W.heap[w.heap.size]? = some (.cells #[v] 56 (0, 0)) := hv
      rw [this] at hc
      simp at hc
    · cases hv0 : v.ownBlock with
      | none => exact .inl rfl
      | some k =>
        right
        intro e
        obtain ⟨-, cs, t, hc, rfl⟩ := hr _ e.symm
        obtain ⟨cells, hcc⟩ := own_typed hrow k hv0
        rw [hcc] at hc
        simp at hc
    · exact hB.grown hg hB.size (fun k e => by have := (hr k e).1; omega)
  case kalloc =>
    intro W o hW
    exact KpX.alloc (by omega) (by omega) (by omega) (by omega) o
  case act => exact fun x b => { tmps := #[.slice none 0 0, .func (.func 85) #[] #[.pointer (some ⟨B1, 0, none⟩), .pointer (some ⟨B2, 0, none⟩), .pointer (some ⟨B3, 0, none⟩)], .pointer (some ⟨w.heap.size, 0, none⟩), undef, .slice none 0 0, .pointer (some ⟨b, 0, none⟩), .func (.func 85) #[] #[.pointer (some ⟨B1, 0, none⟩), .pointer (some ⟨B2, 0, none⟩), .pointer (some ⟨B3, 0, none⟩)], .agg #[.int .i64 x.f0, .int .i64 x.f1], undef, undef, undef, undef, undef], defers := [] }
  case assign =>
    intro l x W K hK
    gi_wp2
    exact hK
  case body =>
    rintro l pre x b W ⟨⟨v, hv, hrow, -⟩, hB⟩ hbx hpre
    have hd : 1 ≤ 5 - 1 - 1 := by omega
    obtain ⟨i0, hi, hz0, hz1, hz2⟩ := info_parts infoExt
    have hle : w.heap.size ≤ w.heap.size := Nat.le_refl _
    have HBX := Aside0.mk hv
    have hcv := hv.cell
    have hfv := hv.frozen
    obtain ⟨x0, x1, -, -⟩ := cells2 hbx
    have hlp : pre.length < 5000 := by have := hpre.length_le; simp at this; omega
    have HROW := Aside0.mk hrow
    have HB := Aside0.mk hB
    obtain ⟨A2, c2, hvv⟩ := own_slice HROW.out
    subst hvv
    clear hrow hv hB hpre hbx
    gi_wp2_with (gi_at_builtin; refine wpListIn_append_own _ rfl _ _ 56 rfl w.heap.size 49 i0 (.agg #[.int .i64 0, .int .i64 0]) 2 16 Tryd.underlying56 hi hz0 hz1 hz2 rfl (by decide) _ _ _ rfl (HROW.out.alloc _) ⟨W.heap.size, 0, none⟩ 1 1 [.int .i64 x.f0, .int .i64 x.f1] rfl rfl (cells_two_new _ _ _ _) (by simp [Value.oneCell']) (by unfold maxLen; omega) (by omega) (by have := HB.out.size; simp; omega) ?_; intro v' w1 hown' hgrow _; obtain ⟨g', cap', rfl⟩ := ownsRow_succ hown'; obtain ⟨hv1, hv2, hr2, hk2, hb2⟩ := HBX.out.appended (by decide) HROW.out HB.out.size hle hown' hgrow; have hc1 := hv1.cell; have hf1 := hv1.frozen; have HV2 := Aside0.mk hv2; have HR2 := Aside0.mk hr2; have HK2 := Aside0.mk hk2; have HB2' := Aside0.mk hb2; have HGR := Aside0.mk hgrow; clear hv1 hv2 hr2 hk2 hb2 hown' hgrow)
    refine ⟨HK2.out, ⟨HB2'.out, HB2'.out.block _ h1, HB2'.out.block _ h2, HB2'.out.block _ h3, fun k cs t ht hk => ?_⟩, ⟨_, HV2.out, ?_, trivial⟩, HB.out.trans HB2'.out⟩
    · have hlk := (Array.getElem?_eq_some_iff.1 hk).1
      have hne : k ≠ w.heap.size := by
        rintro rfl
        have : W.heap[w.heap.size]? = some (.cells _ 56 (0, 0)) := HBX.out
        rw [this] at hk
        rcases ht with rfl | rfl <;> simp at hk
      refine (Below.heap_setCell _ _ _ _ hne).trans ((HGR.out.block k (by simp; omega) ?_).trans ((Below.heap_alloc _ _ _ hlk).trans hk))
      intro e
      obtain ⟨cells, hcc⟩ := own_typed HROW.out k e.symm
      rw [hcc] at hk
      rcases ht with rfl | rfl <;> simp at hk
    · have := HR2.out
      rw [List.length_append, flat_append]
      exact this
  case done =>
    rintro D W hD ⟨⟨v, hv, hrow, -⟩, hB2⟩ hK
    have hcv := hv.cell
    have HROW := Aside0.mk hrow
    clear hrow hv
    gi_wp2
    refine ⟨by simp, .inl ⟨_, _, rfl, run_takeDeferred hK, ?_⟩⟩
    refine ⟨v, ?_, v, rfl, ownsRow_putObj HROW.out _ hK rfl, hB2.trans (belowK_b (w := w) (Nat.le_refl _) W D _ _ (by omega) hK rfl rfl)⟩
    simp [results, Tryd.f84, go_sem]
theorem collect_any (xs : List S49) (hxl : xs.length ≤ 5000) (B1 B2 B3 : Nat) (w : World) (h1 : B1 < w.heap.size) (h2 : B2 < w.heap.size) (h3 : B3 < w.heap.size)
    (hgive : ∀ n, GivesAll Fence.wide n Tryd.prog 85 #[.pointer (some ⟨B1, 0, none⟩), .pointer (some ⟨B2, 0, none⟩), .pointer (some ⟨B3, 0, none⟩)] (fun x : S49 => #[.agg #[.int .i64 x.f0, .int .i64 x.f1]]) (KpX w.heap.size B1 B2 B3) (fun t => t = 133) xs w) :
    Calls Tryd.prog 74 #[.func (.func 85) #[] #[.pointer (some ⟨B1, 0, none⟩), .pointer (some ⟨B2, 0, none⟩), .pointer (some ⟨B3, 0, none⟩)]] w fun e w' => ∃ v, e = .returned v ∧ w'.ownsRow w.heap.size 49 2 v xs.length (flat xs) ∧ Below w.heap.size w w' := by
  have hcon := append_seq xs hxl B1 B2 B3 w h1 h2 h3 hgive
  have HC := Aside0.mk hcon
  clear hcon hgive
  go_enter Tryd.func74, Tryd.ntmps74
  go_wp2_with fail
  refine HC.out.mono ?_
  rintro e w1 ⟨v, rfl, ho, hb⟩
  have HO := Aside0.mk ho
  have HB := Aside0.mk hb
  clear ho hb
  go_wp2
  go_ret
  exact ⟨v, rfl, HO.out, HB.out⟩
theorem sweep_any (A0 A1 : Option Addr) (c0 c1 n0 n1 fk : Nat) (w : World) :
    Calls Tryd.prog 75 #[.slice A0 n0 c0, .slice A1 n1 c1, .func (.func fk) #[] #[]] w fun e w' => e = .returned (.func (.func 85) #[] #[.pointer (some ⟨w.heap.size, 0, none⟩), .pointer (some ⟨w.heap.size + 1, 0, none⟩), .pointer (some ⟨w.heap.size + 1 + 1, 0, none⟩)]) ∧
      w' = ((w.alloc (.cells #[.slice A0 n0 c0] 56)).alloc (.cells #[.slice A1 n1 c1] 56)).alloc (.cells #[.func (.func fk) #[] #[]] 119) := by
  go_enter Tryd.func75, Tryd.ntmps75
  go_wp2
  go_ret
  exact ⟨rfl, rfl⟩
theorem op_core (fk : Nat) (keep : Bool → Bool → Bool) (h00 : keep false false = false) (ek : ∀ args w, (callFunc fk args).run Tryd.prog w = .ok (.enter fk args) w) (hkeep : ∀ (p q : Bool) (W : World), Calls Tryd.prog fk #[.bool p, .bool q] W fun e w' => e = .returned (.bool (keep p q)) ∧ w' = W)
    (A0 A1 : Option Addr) (c0 c1 : Nat) (l0 l1 r : List S49) (w : World) (hr0 : Kd.C k49 w A0 l0.length l0) (hc0 : l0.length ≤ c0) (hr1 : Kd.C k49 w A1 l1.length l1) (hc1 : l1.length ≤ c1) (h : opX keep l0 l1 = some r) :
    Calls Tryd.prog 74 #[.func (.func 85) #[] #[.pointer (some ⟨w.heap.size, 0, none⟩), .pointer (some ⟨w.heap.size + 1, 0, none⟩), .pointer (some ⟨w.heap.size + 1 + 1, 0, none⟩)]]
      (((w.alloc (.cells #[.slice A0 l0.length c0] 56)).alloc (.cells #[.slice A1 l1.length c1] 56)).alloc (.cells #[.func (.func fk) #[] #[]] 119)) fun e w' => ∃ v, e = .returned v ∧ Kd.R k49 49 w' w.heap.size (fun _ => True) v r ∧ Below w.heap.size w w' := by
  obtain ⟨W, hW, hB, hS, b0, b1, b2⟩ := new3 w (Obj.cells #[Value.slice A0 l0.length c0] 56) (Obj.cells #[Value.slice A1 l1.length c1] 56) (Obj.cells #[Value.func (.func fk) #[] #[]] 119)
  rw [hW]
  have hN : l0.length + l1.length ≤ 100000 ∧ r = canon fun j => keep (inL l0 j) (inL l1 j) := by
    unfold opX at h
    split at h
    · rename_i hn
      exact ⟨hn, (Option.some.inj h).symm⟩
    · cases h
  obtain ⟨hN, hr⟩ := hN
  have hlen : r.length ≤ 5000 := by rw [hr]; exact canon_length _
  have hsw : ∀ d, List.Perm d (endsOf 0 l0 ++ endsOf 1 l1) → d.Pairwise (fun x y => x.1 ≤ y.1) → sweepX keep 0 0 0 false d = r := fun d hp hs => by rw [hr]; exact sweep_canon keep h00 l0 l1 hN d hp hs
  clear hr h
  refine (collect_any r hlen w.heap.size (w.heap.size + 1) (w.heap.size + 1 + 1) W (by omega) (by omega) (by omega) (fun n =>
    sweep_gives n fk keep ek hkeep w.heap.size (w.heap.size + 1) (w.heap.size + 1 + 1) A0 A1 c0 c1 l0 l1 W ⟨Below.refl _ _, b0, b1, b2⟩ (Kd.C_below hr0 hB) hc0 (Kd.C_below hr1 hB) hc1 hN r hsw)).mono ?_
  rintro e w' ⟨v, rfl, ho, hb⟩
  exact ⟨v, rfl, ⟨fun _ _ => trivial, _, own_weaken ho hB.size, reps_flat _ _ _ _⟩, hB.trans (hb.mono hB.size)⟩
theorem union_keep (p q : Bool) (W : World) : Calls Tryd.prog 76 #[.bool p, .bool q] W fun e w' => e = .returned (.bool (p || q)) ∧ w' = W := by
  cases p <;> cases q
  all_goals
    go_enter Tryd.func76, Tryd.ntmps76
    go_wp2
    go_ret
    exact ⟨rfl, rfl⟩
end Go.Proofs.YtnjbdcnefienhaaDoor.P.X
namespace Go.Proofs.YtnjbdcnefienhaaDoor.P
open Go.RowKit Go.Shelf Go.Proofs.YtnjbdcnefienhaaDoorW.PrintWords Go.Proofs.YtnjbdcnefienhaaDoorW.PrintLast Go.Proofs.YtnjbdcnefienhaaDoorW.PrintMore X
theorem xUnion.calls (A0 : Option Addr) (c0 : Nat) (l0 : List (S49)) (A1 : Option Addr) (c1 : Nat) (l1 : List (S49)) (r : List (S49)) (w : World) (hr0 : Kd.C k49 w A0 l0.length l0) (hc0 : l0.length ≤ c0) (hr1 : Kd.C k49 w A1 l1.length l1) (hc1 : l1.length ≤ c1) (h : xUnion.f l0 l1 = some r) :
  Calls Tryd.prog 50 #[.slice A0 l0.length c0, .slice A1 l1.length c1] w fun e w' => ∃ v0_ : Value, e = .returned (v0_) ∧ Kd.R k49 49 w' w.heap.size (fun _ => True) v0_ r ∧ Below w.heap.size w w' := by
  have hcore := op_core 76 (fun x y => x || y) rfl (enters_of Tryd.func76 (by kernel_rfl) rfl) union_keep A0 A1 c0 c1 l0 l1 r w hr0 hc0 hr1 hc1 h
  have HC := Aside0.mk hcore
  clear hcore hr0 hc0 hr1 hc1 h
  go_enter Tryd.func50, Tryd.ntmps50
  go_wp2_with fail
  refine (sweep_any A0 A1 c0 c1 l0.length l1.length 76 w).mono ?_
  rintro e w1 ⟨rfl, rfl⟩
  go_wp2_with fail
  refine HC.out.mono ?_
  rintro e w2 ⟨v, rfl, hR, hb⟩
  have HR := Aside0.mk hR
  have HB := Aside0.mk hb
  clear hR hb
  go_wp2
  go_ret
  exact ⟨v, rfl, HR.out, HB.out⟩
end Go.Proofs.YtnjbdcnefienhaaDoor.P
