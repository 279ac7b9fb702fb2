/-
  Parts of the proof of the law ExtentComplements (part 3): what the functions it reaches come to, and the plain law. Conditions: those that each theorem names.
-/
import Derived.KernelRfl
import Derived.Test.YteeedheklnelkaaCExtentComplements2
namespace Go.Proofs.Yteeedheklnelkaa.P
open Go.RowKit Go.Proofs.YteeedheklnelkaaW.PrintWords Go.Proofs.YteeedheklnelkaaW.PrintLast Go.Proofs.YteeedheklnelkaaW.PrintMore
attribute [local go_sem] max2_int min2_int max_two min_two max_three min_three max_four min_four   -- for this text's walks alone
set_option linter.unusedVariables false
set_option linter.unusedSimpArgs false
mutual
def l01awake.j0 : Nat → List (S40) → Bool → Option (Bool)
  | 0, _, _ => none
  | k + 1, x1, x7 => if x7 = true then ((xCheck.f k x1 11).bind fun t264 => (if t264 = 0 then ((xCheck.f k x1 10).bind fun t265 => (if t265 = 2 then ((l01e.f 0 2).bind fun bt266 => ((l01e.f 2 1).bind fun bt268 => ((xCheck.f k (([(⟨bt266.1, bt266.2⟩ : S40), (⟨bt268.1, bt268.2⟩ : S40)] : List (S40))) 5).bind fun t273 => (l01awake.j1 k x1 (t273 == 3))))) else (l01awake.j1 k x1 false))) else (l01awake.j1 k x1 false))) else (l01awake.j1 k x1 false)
def l01awake.j1 : Nat → List (S40) → Bool → Option (Bool)
  | 0, _, _ => none
  | k + 1, x1, x7 => if x7 = true then ((l01e.f 0 2).bind fun bt274 => ((l01e.f 2 1).bind fun bt279 => ((xUnion.f (([(⟨bt274.1, bt274.2⟩ : S40)] : List (S40))) (([(⟨bt279.1, bt279.2⟩ : S40)] : List (S40)))).bind fun t284 => ((l01e.f 0 3).bind fun bt287 => ((r01Same.f k t284 (([(⟨bt287.1, bt287.2⟩ : S40)] : List (S40)))).bind fun t292 => (l01awake.j2 k x1 t292)))))) else (l01awake.j2 k x1 false)
def l01awake.j2 : Nat → List (S40) → Bool → Option (Bool)
  | 0, _, _ => none
  | k + 1, x1, x7 => if x7 = true then ((l01e.f 0 10).bind fun bt293 => ((l01e.f 3 2).bind fun bt298 => ((xSubtract.f (([(⟨bt293.1, bt293.2⟩ : S40)] : List (S40))) (([(⟨bt298.1, bt298.2⟩ : S40)] : List (S40)))).bind fun t303 => ((l01e.f 0 3).bind fun bt306 => ((l01e.f 5 5).bind fun bt308 => ((r01Same.f k t303 (([(⟨bt306.1, bt306.2⟩ : S40), (⟨bt308.1, bt308.2⟩ : S40)] : List (S40)))).bind fun t313 => (l01awake.j3 k x1 t313))))))) else (l01awake.j3 k x1 false)
def l01awake.j3 : Nat → List (S40) → Bool → Option (Bool)
  | 0, _, _ => none
  | k + 1, x1, x7 => if x7 = true then ((l01e.f 3 2).bind fun bt314 => ((xComplement.f (([(⟨bt314.1, bt314.2⟩ : S40)] : List (S40))) 8).bind fun t319 => ((l01e.f 0 3).bind fun bt322 => ((l01e.f 5 3).bind fun bt324 => ((r01Same.f k t319 (([(⟨bt322.1, bt322.2⟩ : S40), (⟨bt324.1, bt324.2⟩ : S40)] : List (S40)))).bind fun t329 => (l01awake.j4 k x1 t329)))))) else (l01awake.j4 k x1 false)
def l01awake.j4 : Nat → List (S40) → Bool → Option (Bool)
  | 0, _, _ => none
  | k + 1, x1, x7 => if x7 = true then ((l01e.f (-3) 5).bind fun bt330 => ((xCount.f k (([(⟨bt330.1, bt330.2⟩ : S40)] : List (S40)))).bind fun t335 => (if t335 = 2 then ((xContains.f x1 10).bind fun t336 => (if t336 = true then ((xContains.f x1 11).bind fun t337 => (some (!t337))) else (some false))) else (some false)))) else (some false)
end
def l01awake.f (k : Nat)  : Option (Bool) := (l01e.f 5 3).bind fun bt211 => ((l01e.f 0 2).bind fun bt213 => ((l01e.f 7 4).bind fun bt215 => ((xNormalize.f k (([(⟨bt211.1, bt211.2⟩ : S40), (⟨bt213.1, bt213.2⟩ : S40), (⟨bt215.1, bt215.2⟩ : S40)] : List (S40)))).bind fun bt220 => ((l01e.f 0 5).bind fun bt224 => ((l01e.f 10 2).bind fun bt226 => ((xSplit.f k (([(⟨bt224.1, bt224.2⟩ : S40), (⟨bt226.1, bt226.2⟩ : S40)] : List (S40))) 2).bind fun bt231 => ((l01e.f (-3) 5).bind fun bt235 => ((xNormalize.f k (([(⟨bt235.1, bt235.2⟩ : S40)] : List (S40)))).bind fun bt240 => ((l01e.f 0 2).bind fun bt244 => ((l01e.f 5 6).bind fun bt246 => ((r01Same.f k bt220.1 (([(⟨bt244.1, bt244.2⟩ : S40), (⟨bt246.1, bt246.2⟩ : S40)] : List (S40)))).bind fun t251 => (if t251 = true then (if bt220.2 = 0 then ((l01e.f 0 2).bind fun bt252 => ((l01e.f 2 2).bind fun bt254 => ((l01e.f 4 1).bind fun bt256 => ((l01e.f 10 2).bind fun bt258 => ((r01Same.f k bt231.1 (([(⟨bt252.1, bt252.2⟩ : S40), (⟨bt254.1, bt254.2⟩ : S40), (⟨bt256.1, bt256.2⟩ : S40), (⟨bt258.1, bt258.2⟩ : S40)] : List (S40)))).bind fun t263 => (if t263 = true then (if bt231.2 = 0 then (l01awake.j0 k bt220.1 (bt240.2 == 2)) else (l01awake.j0 k bt220.1 false)) else (l01awake.j0 k bt220.1 false))))))) else (l01awake.j0 k bt220.1 false)) else (l01awake.j0 k bt220.1 false)))))))))))))
theorem l01awake.mono_l : ∀ k, (∀ y0 y1, LeO (l01awake.j0 k y0 y1) (l01awake.j0 (k + 1) y0 y1)) ∧ (∀ y0 y1, LeO (l01awake.j1 k y0 y1) (l01awake.j1 (k + 1) y0 y1)) ∧ (∀ y0 y1, LeO (l01awake.j2 k y0 y1) (l01awake.j2 (k + 1) y0 y1)) ∧ (∀ y0 y1, LeO (l01awake.j3 k y0 y1) (l01awake.j3 (k + 1) y0 y1)) ∧ (∀ y0 y1, LeO (l01awake.j4 k y0 y1) (l01awake.j4 (k + 1) y0 y1))
  | 0 => ⟨fun _ _ r h => by simp [l01awake.j0] at h, fun _ _ r h => by simp [l01awake.j1] at h, fun _ _ r h => by simp [l01awake.j2] at h, fun _ _ r h => by simp [l01awake.j3] at h, fun _ _ r h => by simp [l01awake.j4] at h⟩
  | k + 1 => by
    obtain ⟨ih0, ih1, ih2, ih3, ih4⟩ := l01awake.mono_l k
    refine ⟨?_, ?_, ?_, ?_, ?_⟩
    · intro y0 y1
      unfold l01awake.j0
      repeat' first
      | (with_reducible exact ih0 _ _)
      | (with_reducible exact ih1 _ _)
      | (with_reducible exact ih2 _ _)
      | (with_reducible exact ih3 _ _)
      | (with_reducible exact ih4 _ _)
      | (with_reducible exact r01Same.mono _ _ _)
      | (with_reducible exact xCheck.mono _ _ _)
      | (with_reducible exact xCount.mono _ _)
      | (with_reducible exact xNormalize.mono _ _)
      | (with_reducible exact xSplit.mono _ _ _)
      | (with_reducible exact LeO.refl _)
      | (with_reducible exact LeO.none _)
      | (with_reducible refine LeO.ite ?_ ?_)
      | (with_reducible refine LeO.bind ?_ (fun _ => ?_))
      | exact ih0 _ _
      | exact ih1 _ _
      | exact ih2 _ _
      | exact ih3 _ _
      | exact ih4 _ _
      | exact r01Same.mono _ _ _
      | exact xCheck.mono _ _ _
      | exact xCount.mono _ _
      | exact xNormalize.mono _ _
      | exact xSplit.mono _ _ _
      | exact LeO.none _
      | refine LeO.ite ?_ ?_
      | refine LeO.bind ?_ (fun _ => ?_)
    · intro y0 y1
      unfold l01awake.j1
      repeat' first
      | (with_reducible exact ih0 _ _)
      | (with_reducible exact ih1 _ _)
      | (with_reducible exact ih2 _ _)
      | (with_reducible exact ih3 _ _)
      | (with_reducible exact ih4 _ _)
      | (with_reducible exact r01Same.mono _ _ _)
      | (with_reducible exact xCheck.mono _ _ _)
      | (with_reducible exact xCount.mono _ _)
      | (with_reducible exact xNormalize.mono _ _)
      | (with_reducible exact xSplit.mono _ _ _)
      | (with_reducible exact LeO.refl _)
      | (with_reducible exact LeO.none _)
      | (with_reducible refine LeO.ite ?_ ?_)
      | (with_reducible refine LeO.bind ?_ (fun _ => ?_))
      | exact ih0 _ _
      | exact ih1 _ _
      | exact ih2 _ _
      | exact ih3 _ _
      | exact ih4 _ _
      | exact r01Same.mono _ _ _
      | exact xCheck.mono _ _ _
      | exact xCount.mono _ _
      | exact xNormalize.mono _ _
      | exact xSplit.mono _ _ _
      | exact LeO.none _
      | refine LeO.ite ?_ ?_
      | refine LeO.bind ?_ (fun _ => ?_)
    · intro y0 y1
      unfold l01awake.j2
      repeat' first
      | (with_reducible exact ih0 _ _)
      | (with_reducible exact ih1 _ _)
      | (with_reducible exact ih2 _ _)
      | (with_reducible exact ih3 _ _)
      | (with_reducible exact ih4 _ _)
      | (with_reducible exact r01Same.mono _ _ _)
      | (with_reducible exact xCheck.mono _ _ _)
      | (with_reducible exact xCount.mono _ _)
      | (with_reducible exact xNormalize.mono _ _)
      | (with_reducible exact xSplit.mono _ _ _)
      | (with_reducible exact LeO.refl _)
      | (with_reducible exact LeO.none _)
      | (with_reducible refine LeO.ite ?_ ?_)
      | (with_reducible refine LeO.bind ?_ (fun _ => ?_))
      | exact ih0 _ _
      | exact ih1 _ _
      | exact ih2 _ _
      | exact ih3 _ _
      | exact ih4 _ _
      | exact r01Same.mono _ _ _
      | exact xCheck.mono _ _ _
      | exact xCount.mono _ _
      | exact xNormalize.mono _ _
      | exact xSplit.mono _ _ _
      | exact LeO.none _
      | refine LeO.ite ?_ ?_
      | refine LeO.bind ?_ (fun _ => ?_)
    · intro y0 y1
      unfold l01awake.j3
      repeat' first
      | (with_reducible exact ih0 _ _)
      | (with_reducible exact ih1 _ _)
      | (with_reducible exact ih2 _ _)
      | (with_reducible exact ih3 _ _)
      | (with_reducible exact ih4 _ _)
      | (with_reducible exact r01Same.mono _ _ _)
      | (with_reducible exact xCheck.mono _ _ _)
      | (with_reducible exact xCount.mono _ _)
      | (with_reducible exact xNormalize.mono _ _)
      | (with_reducible exact xSplit.mono _ _ _)
      | (with_reducible exact LeO.refl _)
      | (with_reducible exact LeO.none _)
      | (with_reducible refine LeO.ite ?_ ?_)
      | (with_reducible refine LeO.bind ?_ (fun _ => ?_))
      | exact ih0 _ _
      | exact ih1 _ _
      | exact ih2 _ _
      | exact ih3 _ _
      | exact ih4 _ _
      | exact r01Same.mono _ _ _
      | exact xCheck.mono _ _ _
      | exact xCount.mono _ _
      | exact xNormalize.mono _ _
      | exact xSplit.mono _ _ _
      | exact LeO.none _
      | refine LeO.ite ?_ ?_
      | refine LeO.bind ?_ (fun _ => ?_)
    · intro y0 y1
      unfold l01awake.j4
      repeat' first
      | (with_reducible exact ih0 _ _)
      | (with_reducible exact ih1 _ _)
      | (with_reducible exact ih2 _ _)
      | (with_reducible exact ih3 _ _)
      | (with_reducible exact ih4 _ _)
      | (with_reducible exact r01Same.mono _ _ _)
      | (with_reducible exact xCheck.mono _ _ _)
      | (with_reducible exact xCount.mono _ _)
      | (with_reducible exact xNormalize.mono _ _)
      | (with_reducible exact xSplit.mono _ _ _)
      | (with_reducible exact LeO.refl _)
      | (with_reducible exact LeO.none _)
      | (with_reducible refine LeO.ite ?_ ?_)
      | (with_reducible refine LeO.bind ?_ (fun _ => ?_))
      | exact ih0 _ _
      | exact ih1 _ _
      | exact ih2 _ _
      | exact ih3 _ _
      | exact ih4 _ _
      | exact r01Same.mono _ _ _
      | exact xCheck.mono _ _ _
      | exact xCount.mono _ _
      | exact xNormalize.mono _ _
      | exact xSplit.mono _ _ _
      | exact LeO.none _
      | refine LeO.ite ?_ ?_
      | refine LeO.bind ?_ (fun _ => ?_)
theorem l01awake.mono : ∀ k, LeO (l01awake.f k ) (l01awake.f (k + 1) ) := by
  intro  k
  obtain ⟨ih0, ih1, ih2, ih3, ih4⟩ := l01awake.mono_l k
  unfold l01awake.f
  repeat' first
      | (with_reducible exact ih0 _ _)
      | (with_reducible exact ih1 _ _)
      | (with_reducible exact ih2 _ _)
      | (with_reducible exact ih3 _ _)
      | (with_reducible exact ih4 _ _)
      | (with_reducible exact r01Same.mono _ _ _)
      | (with_reducible exact xCheck.mono _ _ _)
      | (with_reducible exact xCount.mono _ _)
      | (with_reducible exact xNormalize.mono _ _)
      | (with_reducible exact xSplit.mono _ _ _)
      | (with_reducible exact LeO.refl _)
      | (with_reducible exact LeO.none _)
      | (with_reducible refine LeO.ite ?_ ?_)
      | (with_reducible refine LeO.bind ?_ (fun _ => ?_))
      | exact ih0 _ _
      | exact ih1 _ _
      | exact ih2 _ _
      | exact ih3 _ _
      | exact ih4 _ _
      | exact r01Same.mono _ _ _
      | exact xCheck.mono _ _ _
      | exact xCount.mono _ _
      | exact xNormalize.mono _ _
      | exact xSplit.mono _ _ _
      | exact LeO.none _
      | refine LeO.ite ?_ ?_
      | refine LeO.bind ?_ (fun _ => ?_)
set_option maxHeartbeats 8000000 in
set_option maxRecDepth 100000 in
theorem l01awake.calls (k : Nat)  (r : Bool) (w : World) (h : l01awake.f k  = some r) :
    Calls Try.prog 13 #[] w fun e w' => e = .returned (.bool r) ∧ Below w.heap.size w w' := by
  have HB := Aside0.mk (Below.refl w.heap.size w)
  have H : ((l01e.f 5 3).bind fun bt211 => ((l01e.f 0 2).bind fun bt213 => ((l01e.f 7 4).bind fun bt215 => ((xNormalize.f k (([(⟨bt211.1, bt211.2⟩ : S40), (⟨bt213.1, bt213.2⟩ : S40), (⟨bt215.1, bt215.2⟩ : S40)] : List (S40)))).bind fun bt220 => ((l01e.f 0 5).bind fun bt224 => ((l01e.f 10 2).bind fun bt226 => ((xSplit.f k (([(⟨bt224.1, bt224.2⟩ : S40), (⟨bt226.1, bt226.2⟩ : S40)] : List (S40))) 2).bind fun bt231 => ((l01e.f (-3) 5).bind fun bt235 => ((xNormalize.f k (([(⟨bt235.1, bt235.2⟩ : S40)] : List (S40)))).bind fun bt240 => ((l01e.f 0 2).bind fun bt244 => ((l01e.f 5 6).bind fun bt246 => ((r01Same.f k bt220.1 (([(⟨bt244.1, bt244.2⟩ : S40), (⟨bt246.1, bt246.2⟩ : S40)] : List (S40)))).bind fun t251 => (if t251 = true then (if bt220.2 = 0 then ((l01e.f 0 2).bind fun bt252 => ((l01e.f 2 2).bind fun bt254 => ((l01e.f 4 1).bind fun bt256 => ((l01e.f 10 2).bind fun bt258 => ((r01Same.f k bt231.1 (([(⟨bt252.1, bt252.2⟩ : S40), (⟨bt254.1, bt254.2⟩ : S40), (⟨bt256.1, bt256.2⟩ : S40), (⟨bt258.1, bt258.2⟩ : S40)] : List (S40)))).bind fun t263 => (if t263 = true then (if bt231.2 = 0 then (l01awake.j0 k bt220.1 (bt240.2 == 2)) else (l01awake.j0 k bt220.1 false)) else (l01awake.j0 k bt220.1 false))))))) else (l01awake.j0 k bt220.1 false)) else (l01awake.j0 k bt220.1 false)))))))))))))) = some r := h
  clear h
  replace H := Option.bind_eq_some_iff.mp H
  obtain ⟨⟨t211, t212⟩, A10, H⟩ := H
  replace H : ((l01e.f 0 2).bind fun bt213 => ((l01e.f 7 4).bind fun bt215 => ((xNormalize.f k (([(⟨t211, t212⟩ : S40), (⟨bt213.1, bt213.2⟩ : S40), (⟨bt215.1, bt215.2⟩ : S40)] : List (S40)))).bind fun bt220 => ((l01e.f 0 5).bind fun bt224 => ((l01e.f 10 2).bind fun bt226 => ((xSplit.f k (([(⟨bt224.1, bt224.2⟩ : S40), (⟨bt226.1, bt226.2⟩ : S40)] : List (S40))) 2).bind fun bt231 => ((l01e.f (-3) 5).bind fun bt235 => ((xNormalize.f k (([(⟨bt235.1, bt235.2⟩ : S40)] : List (S40)))).bind fun bt240 => ((l01e.f 0 2).bind fun bt244 => ((l01e.f 5 6).bind fun bt246 => ((r01Same.f k bt220.1 (([(⟨bt244.1, bt244.2⟩ : S40), (⟨bt246.1, bt246.2⟩ : S40)] : List (S40)))).bind fun t251 => (if t251 = true then (if bt220.2 = 0 then ((l01e.f 0 2).bind fun bt252 => ((l01e.f 2 2).bind fun bt254 => ((l01e.f 4 1).bind fun bt256 => ((l01e.f 10 2).bind fun bt258 => ((r01Same.f k bt231.1 (([(⟨bt252.1, bt252.2⟩ : S40), (⟨bt254.1, bt254.2⟩ : S40), (⟨bt256.1, bt256.2⟩ : S40), (⟨bt258.1, bt258.2⟩ : S40)] : List (S40)))).bind fun t263 => (if t263 = true then (if bt231.2 = 0 then (l01awake.j0 k bt220.1 (bt240.2 == 2)) else (l01awake.j0 k bt220.1 false)) else (l01awake.j0 k bt220.1 false))))))) else (l01awake.j0 k bt220.1 false)) else (l01awake.j0 k bt220.1 false))))))))))))) = some r := H
  have A1 := Aside0.mk A10
  clear A10
  replace H := Option.bind_eq_some_iff.mp H
  obtain ⟨⟨t213, t214⟩, A20, H⟩ := H
  replace H : ((l01e.f 7 4).bind fun bt215 => ((xNormalize.f k (([(⟨t211, t212⟩ : S40), (⟨t213, t214⟩ : S40), (⟨bt215.1, bt215.2⟩ : S40)] : List (S40)))).bind fun bt220 => ((l01e.f 0 5).bind fun bt224 => ((l01e.f 10 2).bind fun bt226 => ((xSplit.f k (([(⟨bt224.1, bt224.2⟩ : S40), (⟨bt226.1, bt226.2⟩ : S40)] : List (S40))) 2).bind fun bt231 => ((l01e.f (-3) 5).bind fun bt235 => ((xNormalize.f k (([(⟨bt235.1, bt235.2⟩ : S40)] : List (S40)))).bind fun bt240 => ((l01e.f 0 2).bind fun bt244 => ((l01e.f 5 6).bind fun bt246 => ((r01Same.f k bt220.1 (([(⟨bt244.1, bt244.2⟩ : S40), (⟨bt246.1, bt246.2⟩ : S40)] : List (S40)))).bind fun t251 => (if t251 = true then (if bt220.2 = 0 then ((l01e.f 0 2).bind fun bt252 => ((l01e.f 2 2).bind fun bt254 => ((l01e.f 4 1).bind fun bt256 => ((l01e.f 10 2).bind fun bt258 => ((r01Same.f k bt231.1 (([(⟨bt252.1, bt252.2⟩ : S40), (⟨bt254.1, bt254.2⟩ : S40), (⟨bt256.1, bt256.2⟩ : S40), (⟨bt258.1, bt258.2⟩ : S40)] : List (S40)))).bind fun t263 => (if t263 = true then (if bt231.2 = 0 then (l01awake.j0 k bt220.1 (bt240.2 == 2)) else (l01awake.j0 k bt220.1 false)) else (l01awake.j0 k bt220.1 false))))))) else (l01awake.j0 k bt220.1 false)) else (l01awake.j0 k bt220.1 false)))))))))))) = some r := H
  have A2 := Aside0.mk A20
  clear A20
  replace H := Option.bind_eq_some_iff.mp H
  obtain ⟨⟨t215, t216⟩, A30, H⟩ := H
  replace H : ((xNormalize.f k (([(⟨t211, t212⟩ : S40), (⟨t213, t214⟩ : S40), (⟨t215, t216⟩ : S40)] : List (S40)))).bind fun bt220 => ((l01e.f 0 5).bind fun bt224 => ((l01e.f 10 2).bind fun bt226 => ((xSplit.f k (([(⟨bt224.1, bt224.2⟩ : S40), (⟨bt226.1, bt226.2⟩ : S40)] : List (S40))) 2).bind fun bt231 => ((l01e.f (-3) 5).bind fun bt235 => ((xNormalize.f k (([(⟨bt235.1, bt235.2⟩ : S40)] : List (S40)))).bind fun bt240 => ((l01e.f 0 2).bind fun bt244 => ((l01e.f 5 6).bind fun bt246 => ((r01Same.f k bt220.1 (([(⟨bt244.1, bt244.2⟩ : S40), (⟨bt246.1, bt246.2⟩ : S40)] : List (S40)))).bind fun t251 => (if t251 = true then (if bt220.2 = 0 then ((l01e.f 0 2).bind fun bt252 => ((l01e.f 2 2).bind fun bt254 => ((l01e.f 4 1).bind fun bt256 => ((l01e.f 10 2).bind fun bt258 => ((r01Same.f k bt231.1 (([(⟨bt252.1, bt252.2⟩ : S40), (⟨bt254.1, bt254.2⟩ : S40), (⟨bt256.1, bt256.2⟩ : S40), (⟨bt258.1, bt258.2⟩ : S40)] : List (S40)))).bind fun t263 => (if t263 = true then (if bt231.2 = 0 then (l01awake.j0 k bt220.1 (bt240.2 == 2)) else (l01awake.j0 k bt220.1 false)) else (l01awake.j0 k bt220.1 false))))))) else (l01awake.j0 k bt220.1 false)) else (l01awake.j0 k bt220.1 false))))))))))) = some r := H
  have A3 := Aside0.mk A30
  clear A30
  obtain ⟨y217, hy217⟩ : ∃ y_ : List (S40), y_ = (([(⟨t211, t212⟩ : S40), (⟨t213, t214⟩ : S40), (⟨t215, t216⟩ : S40)] : List (S40))) := ⟨_, rfl⟩
  replace H : ((xNormalize.f k y217).bind fun bt220 => ((l01e.f 0 5).bind fun bt224 => ((l01e.f 10 2).bind fun bt226 => ((xSplit.f k (([(⟨bt224.1, bt224.2⟩ : S40), (⟨bt226.1, bt226.2⟩ : S40)] : List (S40))) 2).bind fun bt231 => ((l01e.f (-3) 5).bind fun bt235 => ((xNormalize.f k (([(⟨bt235.1, bt235.2⟩ : S40)] : List (S40)))).bind fun bt240 => ((l01e.f 0 2).bind fun bt244 => ((l01e.f 5 6).bind fun bt246 => ((r01Same.f k bt220.1 (([(⟨bt244.1, bt244.2⟩ : S40), (⟨bt246.1, bt246.2⟩ : S40)] : List (S40)))).bind fun t251 => (if t251 = true then (if bt220.2 = 0 then ((l01e.f 0 2).bind fun bt252 => ((l01e.f 2 2).bind fun bt254 => ((l01e.f 4 1).bind fun bt256 => ((l01e.f 10 2).bind fun bt258 => ((r01Same.f k bt231.1 (([(⟨bt252.1, bt252.2⟩ : S40), (⟨bt254.1, bt254.2⟩ : S40), (⟨bt256.1, bt256.2⟩ : S40), (⟨bt258.1, bt258.2⟩ : S40)] : List (S40)))).bind fun t263 => (if t263 = true then (if bt231.2 = 0 then (l01awake.j0 k bt220.1 (bt240.2 == 2)) else (l01awake.j0 k bt220.1 false)) else (l01awake.j0 k bt220.1 false))))))) else (l01awake.j0 k bt220.1 false)) else (l01awake.j0 k bt220.1 false))))))))))) = some r := by first | (rw [hy217]; with_reducible exact H) | (have H2_ := (Option.bind_some _ _).symm.trans H; rw [hy217]; with_reducible exact H2_) | (have H2_ := (Option.bind_some _ _).symm.trans H; with_reducible exact H2_) | with_reducible exact H | (rw [hy217]; exact H) | exact H
  have Ny217 := Aside0.mk hy217
  clear hy217
  replace H := Option.bind_eq_some_iff.mp H
  obtain ⟨⟨t220, t221⟩, A40, H⟩ := H
  replace H : ((l01e.f 0 5).bind fun bt224 => ((l01e.f 10 2).bind fun bt226 => ((xSplit.f k (([(⟨bt224.1, bt224.2⟩ : S40), (⟨bt226.1, bt226.2⟩ : S40)] : List (S40))) 2).bind fun bt231 => ((l01e.f (-3) 5).bind fun bt235 => ((xNormalize.f k (([(⟨bt235.1, bt235.2⟩ : S40)] : List (S40)))).bind fun bt240 => ((l01e.f 0 2).bind fun bt244 => ((l01e.f 5 6).bind fun bt246 => ((r01Same.f k t220 (([(⟨bt244.1, bt244.2⟩ : S40), (⟨bt246.1, bt246.2⟩ : S40)] : List (S40)))).bind fun t251 => (if t251 = true then (if t221 = 0 then ((l01e.f 0 2).bind fun bt252 => ((l01e.f 2 2).bind fun bt254 => ((l01e.f 4 1).bind fun bt256 => ((l01e.f 10 2).bind fun bt258 => ((r01Same.f k bt231.1 (([(⟨bt252.1, bt252.2⟩ : S40), (⟨bt254.1, bt254.2⟩ : S40), (⟨bt256.1, bt256.2⟩ : S40), (⟨bt258.1, bt258.2⟩ : S40)] : List (S40)))).bind fun t263 => (if t263 = true then (if bt231.2 = 0 then (l01awake.j0 k t220 (bt240.2 == 2)) else (l01awake.j0 k t220 false)) else (l01awake.j0 k t220 false))))))) else (l01awake.j0 k t220 false)) else (l01awake.j0 k t220 false)))))))))) = some r := H
  have A4 := Aside0.mk A40
  clear A40
  replace H := Option.bind_eq_some_iff.mp H
  obtain ⟨⟨t224, t225⟩, A50, H⟩ := H
  replace H : ((l01e.f 10 2).bind fun bt226 => ((xSplit.f k (([(⟨t224, t225⟩ : S40), (⟨bt226.1, bt226.2⟩ : S40)] : List (S40))) 2).bind fun bt231 => ((l01e.f (-3) 5).bind fun bt235 => ((xNormalize.f k (([(⟨bt235.1, bt235.2⟩ : S40)] : List (S40)))).bind fun bt240 => ((l01e.f 0 2).bind fun bt244 => ((l01e.f 5 6).bind fun bt246 => ((r01Same.f k t220 (([(⟨bt244.1, bt244.2⟩ : S40), (⟨bt246.1, bt246.2⟩ : S40)] : List (S40)))).bind fun t251 => (if t251 = true then (if t221 = 0 then ((l01e.f 0 2).bind fun bt252 => ((l01e.f 2 2).bind fun bt254 => ((l01e.f 4 1).bind fun bt256 => ((l01e.f 10 2).bind fun bt258 => ((r01Same.f k bt231.1 (([(⟨bt252.1, bt252.2⟩ : S40), (⟨bt254.1, bt254.2⟩ : S40), (⟨bt256.1, bt256.2⟩ : S40), (⟨bt258.1, bt258.2⟩ : S40)] : List (S40)))).bind fun t263 => (if t263 = true then (if bt231.2 = 0 then (l01awake.j0 k t220 (bt240.2 == 2)) else (l01awake.j0 k t220 false)) else (l01awake.j0 k t220 false))))))) else (l01awake.j0 k t220 false)) else (l01awake.j0 k t220 false))))))))) = some r := H
  have A5 := Aside0.mk A50
  clear A50
  replace H := Option.bind_eq_some_iff.mp H
  obtain ⟨⟨t226, t227⟩, A60, H⟩ := H
  replace H : ((xSplit.f k (([(⟨t224, t225⟩ : S40), (⟨t226, t227⟩ : S40)] : List (S40))) 2).bind fun bt231 => ((l01e.f (-3) 5).bind fun bt235 => ((xNormalize.f k (([(⟨bt235.1, bt235.2⟩ : S40)] : List (S40)))).bind fun bt240 => ((l01e.f 0 2).bind fun bt244 => ((l01e.f 5 6).bind fun bt246 => ((r01Same.f k t220 (([(⟨bt244.1, bt244.2⟩ : S40), (⟨bt246.1, bt246.2⟩ : S40)] : List (S40)))).bind fun t251 => (if t251 = true then (if t221 = 0 then ((l01e.f 0 2).bind fun bt252 => ((l01e.f 2 2).bind fun bt254 => ((l01e.f 4 1).bind fun bt256 => ((l01e.f 10 2).bind fun bt258 => ((r01Same.f k bt231.1 (([(⟨bt252.1, bt252.2⟩ : S40), (⟨bt254.1, bt254.2⟩ : S40), (⟨bt256.1, bt256.2⟩ : S40), (⟨bt258.1, bt258.2⟩ : S40)] : List (S40)))).bind fun t263 => (if t263 = true then (if bt231.2 = 0 then (l01awake.j0 k t220 (bt240.2 == 2)) else (l01awake.j0 k t220 false)) else (l01awake.j0 k t220 false))))))) else (l01awake.j0 k t220 false)) else (l01awake.j0 k t220 false)))))))) = some r := H
  have A6 := Aside0.mk A60
  clear A60
  obtain ⟨y228, hy228⟩ : ∃ y_ : List (S40), y_ = (([(⟨t224, t225⟩ : S40), (⟨t226, t227⟩ : S40)] : List (S40))) := ⟨_, rfl⟩
  replace H : ((xSplit.f k y228 2).bind fun bt231 => ((l01e.f (-3) 5).bind fun bt235 => ((xNormalize.f k (([(⟨bt235.1, bt235.2⟩ : S40)] : List (S40)))).bind fun bt240 => ((l01e.f 0 2).bind fun bt244 => ((l01e.f 5 6).bind fun bt246 => ((r01Same.f k t220 (([(⟨bt244.1, bt244.2⟩ : S40), (⟨bt246.1, bt246.2⟩ : S40)] : List (S40)))).bind fun t251 => (if t251 = true then (if t221 = 0 then ((l01e.f 0 2).bind fun bt252 => ((l01e.f 2 2).bind fun bt254 => ((l01e.f 4 1).bind fun bt256 => ((l01e.f 10 2).bind fun bt258 => ((r01Same.f k bt231.1 (([(⟨bt252.1, bt252.2⟩ : S40), (⟨bt254.1, bt254.2⟩ : S40), (⟨bt256.1, bt256.2⟩ : S40), (⟨bt258.1, bt258.2⟩ : S40)] : List (S40)))).bind fun t263 => (if t263 = true then (if bt231.2 = 0 then (l01awake.j0 k t220 (bt240.2 == 2)) else (l01awake.j0 k t220 false)) else (l01awake.j0 k t220 false))))))) else (l01awake.j0 k t220 false)) else (l01awake.j0 k t220 false)))))))) = some r := by first | (rw [hy228]; with_reducible exact H) | (have H2_ := (Option.bind_some _ _).symm.trans H; rw [hy228]; with_reducible exact H2_) | (have H2_ := (Option.bind_some _ _).symm.trans H; with_reducible exact H2_) | with_reducible exact H | (rw [hy228]; exact H) | exact H
  have Ny228 := Aside0.mk hy228
  clear hy228
  replace H := Option.bind_eq_some_iff.mp H
  obtain ⟨⟨t231, t232⟩, A70, H⟩ := H
  replace H : ((l01e.f (-3) 5).bind fun bt235 => ((xNormalize.f k (([(⟨bt235.1, bt235.2⟩ : S40)] : List (S40)))).bind fun bt240 => ((l01e.f 0 2).bind fun bt244 => ((l01e.f 5 6).bind fun bt246 => ((r01Same.f k t220 (([(⟨bt244.1, bt244.2⟩ : S40), (⟨bt246.1, bt246.2⟩ : S40)] : List (S40)))).bind fun t251 => (if t251 = true then (if t221 = 0 then ((l01e.f 0 2).bind fun bt252 => ((l01e.f 2 2).bind fun bt254 => ((l01e.f 4 1).bind fun bt256 => ((l01e.f 10 2).bind fun bt258 => ((r01Same.f k t231 (([(⟨bt252.1, bt252.2⟩ : S40), (⟨bt254.1, bt254.2⟩ : S40), (⟨bt256.1, bt256.2⟩ : S40), (⟨bt258.1, bt258.2⟩ : S40)] : List (S40)))).bind fun t263 => (if t263 = true then (if t232 = 0 then (l01awake.j0 k t220 (bt240.2 == 2)) else (l01awake.j0 k t220 false)) else (l01awake.j0 k t220 false))))))) else (l01awake.j0 k t220 false)) else (l01awake.j0 k t220 false))))))) = some r := H
  have A7 := Aside0.mk A70
  clear A70
  replace H := Option.bind_eq_some_iff.mp H
  obtain ⟨⟨t235, t236⟩, A80, H⟩ := H
  replace H : ((xNormalize.f k (([(⟨t235, t236⟩ : S40)] : List (S40)))).bind fun bt240 => ((l01e.f 0 2).bind fun bt244 => ((l01e.f 5 6).bind fun bt246 => ((r01Same.f k t220 (([(⟨bt244.1, bt244.2⟩ : S40), (⟨bt246.1, bt246.2⟩ : S40)] : List (S40)))).bind fun t251 => (if t251 = true then (if t221 = 0 then ((l01e.f 0 2).bind fun bt252 => ((l01e.f 2 2).bind fun bt254 => ((l01e.f 4 1).bind fun bt256 => ((l01e.f 10 2).bind fun bt258 => ((r01Same.f k t231 (([(⟨bt252.1, bt252.2⟩ : S40), (⟨bt254.1, bt254.2⟩ : S40), (⟨bt256.1, bt256.2⟩ : S40), (⟨bt258.1, bt258.2⟩ : S40)] : List (S40)))).bind fun t263 => (if t263 = true then (if t232 = 0 then (l01awake.j0 k t220 (bt240.2 == 2)) else (l01awake.j0 k t220 false)) else (l01awake.j0 k t220 false))))))) else (l01awake.j0 k t220 false)) else (l01awake.j0 k t220 false)))))) = some r := H
  have A8 := Aside0.mk A80
  clear A80
  obtain ⟨y237, hy237⟩ : ∃ y_ : List (S40), y_ = (([(⟨t235, t236⟩ : S40)] : List (S40))) := ⟨_, rfl⟩
  replace H : ((xNormalize.f k y237).bind fun bt240 => ((l01e.f 0 2).bind fun bt244 => ((l01e.f 5 6).bind fun bt246 => ((r01Same.f k t220 (([(⟨bt244.1, bt244.2⟩ : S40), (⟨bt246.1, bt246.2⟩ : S40)] : List (S40)))).bind fun t251 => (if t251 = true then (if t221 = 0 then ((l01e.f 0 2).bind fun bt252 => ((l01e.f 2 2).bind fun bt254 => ((l01e.f 4 1).bind fun bt256 => ((l01e.f 10 2).bind fun bt258 => ((r01Same.f k t231 (([(⟨bt252.1, bt252.2⟩ : S40), (⟨bt254.1, bt254.2⟩ : S40), (⟨bt256.1, bt256.2⟩ : S40), (⟨bt258.1, bt258.2⟩ : S40)] : List (S40)))).bind fun t263 => (if t263 = true then (if t232 = 0 then (l01awake.j0 k t220 (bt240.2 == 2)) else (l01awake.j0 k t220 false)) else (l01awake.j0 k t220 false))))))) else (l01awake.j0 k t220 false)) else (l01awake.j0 k t220 false)))))) = some r := by first | (rw [hy237]; with_reducible exact H) | (have H2_ := (Option.bind_some _ _).symm.trans H; rw [hy237]; with_reducible exact H2_) | (have H2_ := (Option.bind_some _ _).symm.trans H; with_reducible exact H2_) | with_reducible exact H | (rw [hy237]; exact H) | exact H
  have Ny237 := Aside0.mk hy237
  clear hy237
  replace H := Option.bind_eq_some_iff.mp H
  obtain ⟨⟨t240, t241⟩, A90, H⟩ := H
  replace H : ((l01e.f 0 2).bind fun bt244 => ((l01e.f 5 6).bind fun bt246 => ((r01Same.f k t220 (([(⟨bt244.1, bt244.2⟩ : S40), (⟨bt246.1, bt246.2⟩ : S40)] : List (S40)))).bind fun t251 => (if t251 = true then (if t221 = 0 then ((l01e.f 0 2).bind fun bt252 => ((l01e.f 2 2).bind fun bt254 => ((l01e.f 4 1).bind fun bt256 => ((l01e.f 10 2).bind fun bt258 => ((r01Same.f k t231 (([(⟨bt252.1, bt252.2⟩ : S40), (⟨bt254.1, bt254.2⟩ : S40), (⟨bt256.1, bt256.2⟩ : S40), (⟨bt258.1, bt258.2⟩ : S40)] : List (S40)))).bind fun t263 => (if t263 = true then (if t232 = 0 then (l01awake.j0 k t220 (t241 == 2)) else (l01awake.j0 k t220 false)) else (l01awake.j0 k t220 false))))))) else (l01awake.j0 k t220 false)) else (l01awake.j0 k t220 false))))) = some r := H
  have A9 := Aside0.mk A90
  clear A90
  have HC10 := Aside0.mk H
  clear H
  go_enter Try.func13, Try.ntmps13
  go_upto_region 4 with (first | ((with_reducible refine gate_callee (f := 33) rfl ?_); refine goesL_ (some 9) rfl rfl Try.func33 (by kernel_rfl) rfl #[.int .i64 5, .int .i64 3] rfl (by (try simp only [List.map_toArray, List.map_cons, List.map_nil]); first | done | rfl | (simp only [List.length_drop, List.length_take]; rfl)) ?_; (with_reducible refine (l01e.calls 5 3 t211 t212 _ A1.out).mono ?_); rintro e w11 ⟨rfl, hb⟩; refine ⟨_, rfl, ?_⟩; have n0_ := Aside0.mk (below_step (by repeat (first | (with_reducible first | exact HB.out | apply below_alloc | apply pw_below_drewN | apply below_drew1) | exact HB.out)) hb); clear HB; have HB := n0_; clear n0_; (try clear hb); (try clear hb2); (try clear hk); (try clear hi)) | ((with_reducible refine gate_callee (f := 33) rfl ?_); refine goesL_ (some 10) rfl rfl Try.func33 (by kernel_rfl) rfl #[.int .i64 0, .int .i64 2] rfl (by (try simp only [List.map_toArray, List.map_cons, List.map_nil]); first | done | rfl | (simp only [List.length_drop, List.length_take]; rfl)) ?_; (with_reducible refine (l01e.calls 0 2 t213 t214 _ A2.out).mono ?_); rintro e w12 ⟨rfl, hb⟩; refine ⟨_, rfl, ?_⟩; have n0_ := Aside0.mk (below_step (by repeat (first | (with_reducible first | exact HB.out | apply below_alloc | apply pw_below_drewN | apply below_drew1) | exact HB.out)) hb); clear HB; have HB := n0_; clear n0_; (try clear hb); (try clear hb2); (try clear hk); (try clear hi)) | ((with_reducible refine gate_callee (f := 33) rfl ?_); refine goesL_ (some 11) rfl rfl Try.func33 (by kernel_rfl) rfl #[.int .i64 7, .int .i64 4] rfl (by (try simp only [List.map_toArray, List.map_cons, List.map_nil]); first | done | rfl | (simp only [List.length_drop, List.length_take]; rfl)) ?_; (with_reducible refine (l01e.calls 7 4 t215 t216 _ A3.out).mono ?_); rintro e w13 ⟨rfl, hb⟩; refine ⟨_, rfl, ?_⟩; have n0_ := Aside0.mk (below_step (by repeat (first | (with_reducible first | exact HB.out | apply below_alloc | apply pw_below_drewN | apply below_drew1) | exact HB.out)) hb); clear HB; have HB := n0_; clear n0_; (try clear hb); (try clear hb2); (try clear hk); (try clear hi)) | ((with_reducible refine gate_dst (N := 12) rfl ?_); (try (refine gate_guard (by rfl) ?_; dsimp only)); refine Kd.R_lit k40 _ 40 ?hg (N := 12) ?hd (xs := ([(⟨t211, t212⟩ : S40), (⟨t213, t214⟩ : S40), (⟨t215, t216⟩ : S40)] : List (S40))) (inner := [.int .i64 t211, .int .i64 t212, .int .i64 t213, .int .i64 t214, .int .i64 t215, .int .i64 t216]) (ok := fun _ => True) (okp := fun _ => True) ?hr ?hp (fun _ hk => hk) trivial (Below.refl _ _) (Nat.le_refl _) (by simp) ?_; (case hd => rfl); (case hg => rfl); (case hr => first | (go_simp; done) | (go_simp; rfl)); (case hp => exact (Reps.c2 (show Kd.M k40 _ _ _ (⟨t211, t212⟩ : S40) [.int .i64 t211, .int .i64 t212] from (k40_mkM _ _ _ (⟨t211, t212⟩ : S40) )) (Reps.c2 (show Kd.M k40 _ _ _ (⟨t213, t214⟩ : S40) [.int .i64 t213, .int .i64 t214] from (k40_mkM _ _ _ (⟨t213, t214⟩ : S40) )) (Reps.c2 (show Kd.M k40 _ _ _ (⟨t215, t216⟩ : S40) [.int .i64 t215, .int .i64 t216] from (k40_mkM _ _ _ (⟨t215, t216⟩ : S40) )) (Reps.none _ _))))); intro v218 w14 ho15 hb hg_ hnew_; clear hg_ hnew_; (first | rw [← Ny217.out] at ho15 | (simp only [Int.reduceToNat] at ho15; rw [← Ny217.out] at ho15)); have n0_ := Aside0.mk (Kd.R_lower ho15 (below_size (by repeat (first | (with_reducible first | exact HB.out | apply below_alloc | apply pw_below_drewN | apply below_drew1) | exact HB.out)))); have n1_ := Aside0.mk (below_step (by repeat (first | (with_reducible first | exact HB.out | apply below_alloc | apply pw_below_drewN | apply below_drew1) | exact HB.out)) hb); clear HB; have HO219 := n0_; have HB := n1_; clear n0_ n1_; clear hb ho15; obtain ⟨Ao16, co16, eo16⟩ := Kd.R_slice HO219.out; subst eo16) | ((with_reducible refine gate_callee (f := 16) rfl ?_); refine goesL_ (some 13) rfl rfl Try.func16 (by kernel_rfl) rfl #[.slice Ao16 y217.length co16] rfl (by (try simp only [List.map_toArray, List.map_cons, List.map_nil]); first | done | rfl | (simp only [List.length_drop, List.length_take]; rfl)) ?_; (with_reducible refine (xNormalize.calls k _ _ y217 t220 t221 _ ?side1 ?side2 A4.out).mono ?_); (case side1 => repeat (first | exact (Kd.R_reads' HO219.out).2.2 | (with_reducible refine Kd.C_alloc ?_ _) | (with_reducible refine Kd.C_drewN ?_ _) | (with_reducible refine Kd.C_drew ?_))); (case side2 => exact (Kd.R_reads' HO219.out).2.1); rintro e w17 ⟨v222, rfl, ho0, hb⟩; refine ⟨_, rfl, ?_⟩; have n0_ := Aside0.mk (Kd.R_elder' (by (with_reducible repeat (first | apply Kd.R_alloc | apply Kd.R_drewN | apply Kd.R_drew)); exact HO219.out) (Kd.R_base ho0) hb); have n1_ := Aside0.mk (Kd.R_lower (Kd.R_new' ho0 (Kd.R_lt (by (with_reducible repeat (first | apply Kd.R_alloc | apply Kd.R_drewN | apply Kd.R_drew)); exact HO219.out))) (below_size (by repeat (first | (with_reducible first | exact HB.out | apply below_alloc | apply pw_below_drewN | apply below_drew1) | exact HB.out)))); have n2_ := Aside0.mk (below_step (by repeat (first | (with_reducible first | exact HB.out | apply below_alloc | apply pw_below_drewN | apply below_drew1) | exact HB.out)) hb); clear HO219; clear HB; have HO219 := n0_; have HO223 := n1_; have HB := n2_; clear n0_ n1_ n2_; (try clear hb); (try clear hb2); (try clear hk); (try clear hi); (try clear ho0)) | ((with_reducible refine gate_callee (f := 33) rfl ?_); refine goesL_ (some 17) rfl rfl Try.func33 (by kernel_rfl) rfl #[.int .i64 0, .int .i64 5] rfl (by (try simp only [List.map_toArray, List.map_cons, List.map_nil]); first | done | rfl | (simp only [List.length_drop, List.length_take]; rfl)) ?_; (with_reducible refine (l01e.calls 0 5 t224 t225 _ A5.out).mono ?_); rintro e w18 ⟨rfl, hb⟩; refine ⟨_, rfl, ?_⟩; have n0_ := Aside0.mk (Kd.R_below (by (with_reducible repeat (first | apply Kd.R_alloc | apply Kd.R_drewN | apply Kd.R_drew)); exact HO219.out) hb); have n1_ := Aside0.mk (Kd.R_below (by (with_reducible repeat (first | apply Kd.R_alloc | apply Kd.R_drewN | apply Kd.R_drew)); exact HO223.out) hb); have n2_ := Aside0.mk (below_step (by repeat (first | (with_reducible first | exact HB.out | apply below_alloc | apply pw_below_drewN | apply below_drew1) | exact HB.out)) hb); clear HO219; clear HO223; clear HB; have HO219 := n0_; have HO223 := n1_; have HB := n2_; clear n0_ n1_ n2_; (try clear hb); (try clear hb2); (try clear hk); (try clear hi)) | ((with_reducible refine gate_callee (f := 33) rfl ?_); refine goesL_ (some 18) rfl rfl Try.func33 (by kernel_rfl) rfl #[.int .i64 10, .int .i64 2] rfl (by (try simp only [List.map_toArray, List.map_cons, List.map_nil]); first | done | rfl | (simp only [List.length_drop, List.length_take]; rfl)) ?_; (with_reducible refine (l01e.calls 10 2 t226 t227 _ A6.out).mono ?_); rintro e w19 ⟨rfl, hb⟩; refine ⟨_, rfl, ?_⟩; have n0_ := Aside0.mk (Kd.R_below (by (with_reducible repeat (first | apply Kd.R_alloc | apply Kd.R_drewN | apply Kd.R_drew)); exact HO219.out) hb); have n1_ := Aside0.mk (Kd.R_below (by (with_reducible repeat (first | apply Kd.R_alloc | apply Kd.R_drewN | apply Kd.R_drew)); exact HO223.out) hb); have n2_ := Aside0.mk (below_step (by repeat (first | (with_reducible first | exact HB.out | apply below_alloc | apply pw_below_drewN | apply below_drew1) | exact HB.out)) hb); clear HO219; clear HO223; clear HB; have HO219 := n0_; have HO223 := n1_; have HB := n2_; clear n0_ n1_ n2_; (try clear hb); (try clear hb2); (try clear hk); (try clear hi)) | ((with_reducible refine gate_dst (N := 19) rfl ?_); (try (refine gate_guard (by rfl) ?_; dsimp only)); refine Kd.R_lit k40 _ 40 ?hg (N := 19) ?hd (xs := ([(⟨t224, t225⟩ : S40), (⟨t226, t227⟩ : S40)] : List (S40))) (inner := [.int .i64 t224, .int .i64 t225, .int .i64 t226, .int .i64 t227]) (ok := fun _ => True) (okp := fun _ => True) ?hr ?hp (fun _ hk => hk) trivial (Below.refl _ _) (Nat.le_refl _) (by simp) ?_; (case hd => rfl); (case hg => rfl); (case hr => first | (go_simp; done) | (go_simp; rfl)); (case hp => exact (Reps.c2 (show Kd.M k40 _ _ _ (⟨t224, t225⟩ : S40) [.int .i64 t224, .int .i64 t225] from (k40_mkM _ _ _ (⟨t224, t225⟩ : S40) )) (Reps.c2 (show Kd.M k40 _ _ _ (⟨t226, t227⟩ : S40) [.int .i64 t226, .int .i64 t227] from (k40_mkM _ _ _ (⟨t226, t227⟩ : S40) )) (Reps.none _ _)))); intro v229 w20 ho21 hb hg_ hnew_; clear hg_ hnew_; (first | rw [← Ny228.out] at ho21 | (simp only [Int.reduceToNat] at ho21; rw [← Ny228.out] at ho21)); have n0_ := Aside0.mk (Kd.R_elder' (by (with_reducible repeat (first | apply Kd.R_alloc | apply Kd.R_drewN | apply Kd.R_drew)); exact HO219.out) (Kd.R_base ho21) hb); have n1_ := Aside0.mk (Kd.R_elder' (by (with_reducible repeat (first | apply Kd.R_alloc | apply Kd.R_drewN | apply Kd.R_drew)); exact HO223.out) (Kd.R_base ho21) hb); have n2_ := Aside0.mk (Kd.R_lower (Kd.R_new' (Kd.R_new' ho21 (Kd.R_lt (by (with_reducible repeat (first | apply Kd.R_alloc | apply Kd.R_drewN | apply Kd.R_drew)); exact HO219.out))) (Kd.R_lt (by (with_reducible repeat (first | apply Kd.R_alloc | apply Kd.R_drewN | apply Kd.R_drew)); exact HO223.out))) (below_size (by repeat (first | (with_reducible first | exact HB.out | apply below_alloc | apply pw_below_drewN | apply below_drew1) | exact HB.out)))); have n3_ := Aside0.mk (below_step (by repeat (first | (with_reducible first | exact HB.out | apply below_alloc | apply pw_below_drewN | apply below_drew1) | exact HB.out)) hb); clear HO219; clear HO223; clear HB; have HO219 := n0_; have HO223 := n1_; have HO230 := n2_; have HB := n3_; clear n0_ n1_ n2_ n3_; clear hb ho21; obtain ⟨Ao22, co22, eo22⟩ := Kd.R_slice HO230.out; subst eo22) | ((with_reducible refine gate_callee (f := 23) rfl ?_); refine goesL_ (some 20) rfl rfl Try.func23 (by kernel_rfl) rfl #[.slice Ao22 y228.length co22, .int .i64 2] rfl (by (try simp only [List.map_toArray, List.map_cons, List.map_nil]); first | done | rfl | (simp only [List.length_drop, List.length_take]; rfl)) ?_; (with_reducible refine (xSplit.calls k _ _ y228 2 t231 t232 _ ?side1 ?side2 A7.out).mono ?_); (case side1 => repeat (first | exact (Kd.R_reads' HO230.out).2.2 | (with_reducible refine Kd.C_alloc ?_ _) | (with_reducible refine Kd.C_drewN ?_ _) | (with_reducible refine Kd.C_drew ?_))); (case side2 => exact (Kd.R_reads' HO230.out).2.1); rintro e w23 ⟨v233, rfl, ho0, hb⟩; refine ⟨_, rfl, ?_⟩; have n0_ := Aside0.mk (Kd.R_elder' (by (with_reducible repeat (first | apply Kd.R_alloc | apply Kd.R_drewN | apply Kd.R_drew)); exact HO219.out) (Kd.R_base ho0) hb); have n1_ := Aside0.mk (Kd.R_elder' (by (with_reducible repeat (first | apply Kd.R_alloc | apply Kd.R_drewN | apply Kd.R_drew)); exact HO223.out) (Kd.R_base ho0) hb); have n2_ := Aside0.mk (Kd.R_elder' (by (with_reducible repeat (first | apply Kd.R_alloc | apply Kd.R_drewN | apply Kd.R_drew)); exact HO230.out) (Kd.R_base ho0) hb); have n3_ := Aside0.mk (Kd.R_lower (Kd.R_new' (Kd.R_new' (Kd.R_new' ho0 (Kd.R_lt (by (with_reducible repeat (first | apply Kd.R_alloc | apply Kd.R_drewN | apply Kd.R_drew)); exact HO219.out))) (Kd.R_lt (by (with_reducible repeat (first | apply Kd.R_alloc | apply Kd.R_drewN | apply Kd.R_drew)); exact HO223.out))) (Kd.R_lt (by (with_reducible repeat (first | apply Kd.R_alloc | apply Kd.R_drewN | apply Kd.R_drew)); exact HO230.out))) (below_size (by repeat (first | (with_reducible first | exact HB.out | apply below_alloc | apply pw_below_drewN | apply below_drew1) | exact HB.out)))); have n4_ := Aside0.mk (below_step (by repeat (first | (with_reducible first | exact HB.out | apply below_alloc | apply pw_below_drewN | apply below_drew1) | exact HB.out)) hb); clear HO219; clear HO223; clear HO230; clear HB; have HO219 := n0_; have HO223 := n1_; have HO230 := n2_; have HO234 := n3_; have HB := n4_; clear n0_ n1_ n2_ n3_ n4_; (try clear hb); (try clear hb2); (try clear hk); (try clear hi); (try clear ho0)) | ((with_reducible refine gate_callee (f := 33) rfl ?_); refine goesL_ (some 24) rfl rfl Try.func33 (by kernel_rfl) rfl #[.int .i64 (-3), .int .i64 5] rfl (by (try simp only [List.map_toArray, List.map_cons, List.map_nil]); first | done | rfl | (simp only [List.length_drop, List.length_take]; rfl)) ?_; (with_reducible refine (l01e.calls (-3) 5 t235 t236 _ A8.out).mono ?_); rintro e w24 ⟨rfl, hb⟩; refine ⟨_, rfl, ?_⟩; have n0_ := Aside0.mk (Kd.R_below (by (with_reducible repeat (first | apply Kd.R_alloc | apply Kd.R_drewN | apply Kd.R_drew)); exact HO219.out) hb); have n1_ := Aside0.mk (Kd.R_below (by (with_reducible repeat (first | apply Kd.R_alloc | apply Kd.R_drewN | apply Kd.R_drew)); exact HO223.out) hb); have n2_ := Aside0.mk (Kd.R_below (by (with_reducible repeat (first | apply Kd.R_alloc | apply Kd.R_drewN | apply Kd.R_drew)); exact HO230.out) hb); have n3_ := Aside0.mk (Kd.R_below (by (with_reducible repeat (first | apply Kd.R_alloc | apply Kd.R_drewN | apply Kd.R_drew)); exact HO234.out) hb); have n4_ := Aside0.mk (below_step (by repeat (first | (with_reducible first | exact HB.out | apply below_alloc | apply pw_below_drewN | apply below_drew1) | exact HB.out)) hb); clear HO219; clear HO223; clear HO230; clear HO234; clear HB; have HO219 := n0_; have HO223 := n1_; have HO230 := n2_; have HO234 := n3_; have HB := n4_; clear n0_ n1_ n2_ n3_ n4_; (try clear hb); (try clear hb2); (try clear hk); (try clear hi)) | ((with_reducible refine gate_dst (N := 25) rfl ?_); (try (refine gate_guard (by rfl) ?_; dsimp only)); refine Kd.R_lit k40 _ 40 ?hg (N := 25) ?hd (xs := ([(⟨t235, t236⟩ : S40)] : List (S40))) (inner := [.int .i64 t235, .int .i64 t236]) (ok := fun _ => True) (okp := fun _ => True) ?hr ?hp (fun _ hk => hk) trivial (Below.refl _ _) (Nat.le_refl _) (by simp) ?_; (case hd => rfl); (case hg => rfl); (case hr => first | (go_simp; done) | (go_simp; rfl)); (case hp => exact (Reps.c2 (show Kd.M k40 _ _ _ (⟨t235, t236⟩ : S40) [.int .i64 t235, .int .i64 t236] from (k40_mkM _ _ _ (⟨t235, t236⟩ : S40) )) (Reps.none _ _))); intro v238 w25 ho26 hb hg_ hnew_; clear hg_ hnew_; (first | rw [← Ny237.out] at ho26 | (simp only [Int.reduceToNat] at ho26; rw [← Ny237.out] at ho26)); have n0_ := Aside0.mk (Kd.R_elder' (by (with_reducible repeat (first | apply Kd.R_alloc | apply Kd.R_drewN | apply Kd.R_drew)); exact HO219.out) (Kd.R_base ho26) hb); have n1_ := Aside0.mk (Kd.R_elder' (by (with_reducible repeat (first | apply Kd.R_alloc | apply Kd.R_drewN | apply Kd.R_drew)); exact HO223.out) (Kd.R_base ho26) hb); have n2_ := Aside0.mk (Kd.R_elder' (by (with_reducible repeat (first | apply Kd.R_alloc | apply Kd.R_drewN | apply Kd.R_drew)); exact HO230.out) (Kd.R_base ho26) hb); have n3_ := Aside0.mk (Kd.R_elder' (by (with_reducible repeat (first | apply Kd.R_alloc | apply Kd.R_drewN | apply Kd.R_drew)); exact HO234.out) (Kd.R_base ho26) hb); have n4_ := Aside0.mk (Kd.R_lower (Kd.R_new' (Kd.R_new' (Kd.R_new' (Kd.R_new' ho26 (Kd.R_lt (by (with_reducible repeat (first | apply Kd.R_alloc | apply Kd.R_drewN | apply Kd.R_drew)); exact HO219.out))) (Kd.R_lt (by (with_reducible repeat (first | apply Kd.R_alloc | apply Kd.R_drewN | apply Kd.R_drew)); exact HO223.out))) (Kd.R_lt (by (with_reducible repeat (first | apply Kd.R_alloc | apply Kd.R_drewN | apply Kd.R_drew)); exact HO230.out))) (Kd.R_lt (by (with_reducible repeat (first | apply Kd.R_alloc | apply Kd.R_drewN | apply Kd.R_drew)); exact HO234.out))) (below_size (by repeat (first | (with_reducible first | exact HB.out | apply below_alloc | apply pw_below_drewN | apply below_drew1) | exact HB.out)))); have n5_ := Aside0.mk (below_step (by repeat (first | (with_reducible first | exact HB.out | apply below_alloc | apply pw_below_drewN | apply below_drew1) | exact HB.out)) hb); clear HO219; clear HO223; clear HO230; clear HO234; clear HB; have HO219 := n0_; have HO223 := n1_; have HO230 := n2_; have HO234 := n3_; have HO239 := n4_; have HB := n5_; clear n0_ n1_ n2_ n3_ n4_ n5_; clear hb ho26; obtain ⟨Ao27, co27, eo27⟩ := Kd.R_slice HO239.out; subst eo27) | ((with_reducible refine gate_callee (f := 16) rfl ?_); refine goesL_ (some 26) rfl rfl Try.func16 (by kernel_rfl) rfl #[.slice Ao27 y237.length co27] rfl (by (try simp only [List.map_toArray, List.map_cons, List.map_nil]); first | done | rfl | (simp only [List.length_drop, List.length_take]; rfl)) ?_; (with_reducible refine (xNormalize.calls k _ _ y237 t240 t241 _ ?side1 ?side2 A9.out).mono ?_); (case side1 => repeat (first | exact (Kd.R_reads' HO239.out).2.2 | (with_reducible refine Kd.C_alloc ?_ _) | (with_reducible refine Kd.C_drewN ?_ _) | (with_reducible refine Kd.C_drew ?_))); (case side2 => exact (Kd.R_reads' HO239.out).2.1); rintro e w28 ⟨v242, rfl, ho0, hb⟩; refine ⟨_, rfl, ?_⟩; have n0_ := Aside0.mk (Kd.R_elder' (by (with_reducible repeat (first | apply Kd.R_alloc | apply Kd.R_drewN | apply Kd.R_drew)); exact HO219.out) (Kd.R_base ho0) hb); have n1_ := Aside0.mk (Kd.R_elder' (by (with_reducible repeat (first | apply Kd.R_alloc | apply Kd.R_drewN | apply Kd.R_drew)); exact HO223.out) (Kd.R_base ho0) hb); have n2_ := Aside0.mk (Kd.R_elder' (by (with_reducible repeat (first | apply Kd.R_alloc | apply Kd.R_drewN | apply Kd.R_drew)); exact HO230.out) (Kd.R_base ho0) hb); have n3_ := Aside0.mk (Kd.R_elder' (by (with_reducible repeat (first | apply Kd.R_alloc | apply Kd.R_drewN | apply Kd.R_drew)); exact HO234.out) (Kd.R_base ho0) hb); have n4_ := Aside0.mk (Kd.R_elder' (by (with_reducible repeat (first | apply Kd.R_alloc | apply Kd.R_drewN | apply Kd.R_drew)); exact HO239.out) (Kd.R_base ho0) hb); have n5_ := Aside0.mk (Kd.R_lower (Kd.R_new' (Kd.R_new' (Kd.R_new' (Kd.R_new' (Kd.R_new' ho0 (Kd.R_lt (by (with_reducible repeat (first | apply Kd.R_alloc | apply Kd.R_drewN | apply Kd.R_drew)); exact HO219.out))) (Kd.R_lt (by (with_reducible repeat (first | apply Kd.R_alloc | apply Kd.R_drewN | apply Kd.R_drew)); exact HO223.out))) (Kd.R_lt (by (with_reducible repeat (first | apply Kd.R_alloc | apply Kd.R_drewN | apply Kd.R_drew)); exact HO230.out))) (Kd.R_lt (by (with_reducible repeat (first | apply Kd.R_alloc | apply Kd.R_drewN | apply Kd.R_drew)); exact HO234.out))) (Kd.R_lt (by (with_reducible repeat (first | apply Kd.R_alloc | apply Kd.R_drewN | apply Kd.R_drew)); exact HO239.out))) (below_size (by repeat (first | (with_reducible first | exact HB.out | apply below_alloc | apply pw_below_drewN | apply below_drew1) | exact HB.out)))); have n6_ := Aside0.mk (below_step (by repeat (first | (with_reducible first | exact HB.out | apply below_alloc | apply pw_below_drewN | apply below_drew1) | exact HB.out)) hb); clear HO219; clear HO223; clear HO230; clear HO234; clear HO239; clear HB; have HO219 := n0_; have HO223 := n1_; have HO230 := n2_; have HO234 := n3_; have HO239 := n4_; have HO243 := n5_; have HB := n6_; clear n0_ n1_ n2_ n3_ n4_ n5_ n6_; (try clear hb); (try clear hb2); (try clear hk); (try clear hi); (try clear ho0)))
  (try simp only [Act.put, List.setIfInBounds_toArray, List.set_cons_zero, List.set_cons_succ])
  go_cut [7] (fun v7 wc => ∃ (kq : Nat) (x7_9 : Bool), v7 = .bool x7_9 ∧ Aside0 (l01awake.j0 kq t220 x7_9 = some r) ∧ Aside0 (kq ≤ k) ∧ Aside0 (Kd.R k40 40 wc w.heap.size (fun _ => True) v222 t220) ∧ Aside0 (Below w.heap.size w wc))
  case first =>
    have H := HC10.out
    clear HC10
    replace H := Option.bind_eq_some_iff.mp H
    obtain ⟨⟨t244, t245⟩, A290, H⟩ := H
    replace H : ((l01e.f 5 6).bind fun bt246 => ((r01Same.f k t220 (([(⟨t244, t245⟩ : S40), (⟨bt246.1, bt246.2⟩ : S40)] : List (S40)))).bind fun t251 => (if t251 = true then (if t221 = 0 then ((l01e.f 0 2).bind fun bt252 => ((l01e.f 2 2).bind fun bt254 => ((l01e.f 4 1).bind fun bt256 => ((l01e.f 10 2).bind fun bt258 => ((r01Same.f k t231 (([(⟨bt252.1, bt252.2⟩ : S40), (⟨bt254.1, bt254.2⟩ : S40), (⟨bt256.1, bt256.2⟩ : S40), (⟨bt258.1, bt258.2⟩ : S40)] : List (S40)))).bind fun t263 => (if t263 = true then (if t232 = 0 then (l01awake.j0 k t220 (t241 == 2)) else (l01awake.j0 k t220 false)) else (l01awake.j0 k t220 false))))))) else (l01awake.j0 k t220 false)) else (l01awake.j0 k t220 false)))) = some r := H
    have A29 := Aside0.mk A290
    clear A290
    replace H := Option.bind_eq_some_iff.mp H
    obtain ⟨⟨t246, t247⟩, A300, H⟩ := H
    replace H : ((r01Same.f k t220 (([(⟨t244, t245⟩ : S40), (⟨t246, t247⟩ : S40)] : List (S40)))).bind fun t251 => (if t251 = true then (if t221 = 0 then ((l01e.f 0 2).bind fun bt252 => ((l01e.f 2 2).bind fun bt254 => ((l01e.f 4 1).bind fun bt256 => ((l01e.f 10 2).bind fun bt258 => ((r01Same.f k t231 (([(⟨bt252.1, bt252.2⟩ : S40), (⟨bt254.1, bt254.2⟩ : S40), (⟨bt256.1, bt256.2⟩ : S40), (⟨bt258.1, bt258.2⟩ : S40)] : List (S40)))).bind fun t263 => (if t263 = true then (if t232 = 0 then (l01awake.j0 k t220 (t241 == 2)) else (l01awake.j0 k t220 false)) else (l01awake.j0 k t220 false))))))) else (l01awake.j0 k t220 false)) else (l01awake.j0 k t220 false))) = some r := H
    have A30 := Aside0.mk A300
    clear A300
    obtain ⟨y248, hy248⟩ : ∃ y_ : List (S40), y_ = (([(⟨t244, t245⟩ : S40), (⟨t246, t247⟩ : S40)] : List (S40))) := ⟨_, rfl⟩
    replace H : ((r01Same.f k t220 y248).bind fun t251 => (if t251 = true then (if t221 = 0 then ((l01e.f 0 2).bind fun bt252 => ((l01e.f 2 2).bind fun bt254 => ((l01e.f 4 1).bind fun bt256 => ((l01e.f 10 2).bind fun bt258 => ((r01Same.f k t231 (([(⟨bt252.1, bt252.2⟩ : S40), (⟨bt254.1, bt254.2⟩ : S40), (⟨bt256.1, bt256.2⟩ : S40), (⟨bt258.1, bt258.2⟩ : S40)] : List (S40)))).bind fun t263 => (if t263 = true then (if t232 = 0 then (l01awake.j0 k t220 (t241 == 2)) else (l01awake.j0 k t220 false)) else (l01awake.j0 k t220 false))))))) else (l01awake.j0 k t220 false)) else (l01awake.j0 k t220 false))) = some r := by first | (rw [hy248]; with_reducible exact H) | (have H2_ := (Option.bind_some _ _).symm.trans H; rw [hy248]; with_reducible exact H2_) | (have H2_ := (Option.bind_some _ _).symm.trans H; with_reducible exact H2_) | with_reducible exact H | (rw [hy248]; exact H) | exact H
    have Ny248 := Aside0.mk hy248
    clear hy248
    replace H := Option.bind_eq_some_iff.mp H
    obtain ⟨t251, A310, H⟩ := H
    replace H : (if t251 = true then (if t221 = 0 then ((l01e.f 0 2).bind fun bt252 => ((l01e.f 2 2).bind fun bt254 => ((l01e.f 4 1).bind fun bt256 => ((l01e.f 10 2).bind fun bt258 => ((r01Same.f k t231 (([(⟨bt252.1, bt252.2⟩ : S40), (⟨bt254.1, bt254.2⟩ : S40), (⟨bt256.1, bt256.2⟩ : S40), (⟨bt258.1, bt258.2⟩ : S40)] : List (S40)))).bind fun t263 => (if t263 = true then (if t232 = 0 then (l01awake.j0 k t220 (t241 == 2)) else (l01awake.j0 k t220 false)) else (l01awake.j0 k t220 false))))))) else (l01awake.j0 k t220 false)) else (l01awake.j0 k t220 false)) = some r := H
    have A31 := Aside0.mk A310
    clear A310
    by_cases c32 : t251 = true
    · subst c32
      have H1 : (if t221 = 0 then ((l01e.f 0 2).bind fun bt252 => ((l01e.f 2 2).bind fun bt254 => ((l01e.f 4 1).bind fun bt256 => ((l01e.f 10 2).bind fun bt258 => ((r01Same.f k t231 (([(⟨bt252.1, bt252.2⟩ : S40), (⟨bt254.1, bt254.2⟩ : S40), (⟨bt256.1, bt256.2⟩ : S40), (⟨bt258.1, bt258.2⟩ : S40)] : List (S40)))).bind fun t263 => (if t263 = true then (if t232 = 0 then (l01awake.j0 k t220 (t241 == 2)) else (l01awake.j0 k t220 false)) else (l01awake.j0 k t220 false))))))) else (l01awake.j0 k t220 false)) = some r := by rw [if_pos rfl] at H; exact H
      clear H
      have H := H1
      clear H1
      by_cases c33 : t221 = 0
      · rw [if_pos c33] at H
        have c33b0 : (t221 == 0) = true := beq_iff_eq.mpr c33
        have c33b1 : (t221 != 0) = false := bne_eq_false_iff_eq.mpr c33
        clear c33
        (first | rw [c33b0] | (simp only [i64_w, i32_w]; rw [c33b0]) | skip)
        replace H := Option.bind_eq_some_iff.mp H
        obtain ⟨⟨t252, t253⟩, A340, H⟩ := H
        replace H : ((l01e.f 2 2).bind fun bt254 => ((l01e.f 4 1).bind fun bt256 => ((l01e.f 10 2).bind fun bt258 => ((r01Same.f k t231 (([(⟨t252, t253⟩ : S40), (⟨bt254.1, bt254.2⟩ : S40), (⟨bt256.1, bt256.2⟩ : S40), (⟨bt258.1, bt258.2⟩ : S40)] : List (S40)))).bind fun t263 => (if t263 = true then (if t232 = 0 then (l01awake.j0 k t220 (t241 == 2)) else (l01awake.j0 k t220 false)) else (l01awake.j0 k t220 false)))))) = some r := H
        have A34 := Aside0.mk A340
        clear A340
        replace H := Option.bind_eq_some_iff.mp H
        obtain ⟨⟨t254, t255⟩, A350, H⟩ := H
        replace H : ((l01e.f 4 1).bind fun bt256 => ((l01e.f 10 2).bind fun bt258 => ((r01Same.f k t231 (([(⟨t252, t253⟩ : S40), (⟨t254, t255⟩ : S40), (⟨bt256.1, bt256.2⟩ : S40), (⟨bt258.1, bt258.2⟩ : S40)] : List (S40)))).bind fun t263 => (if t263 = true then (if t232 = 0 then (l01awake.j0 k t220 (t241 == 2)) else (l01awake.j0 k t220 false)) else (l01awake.j0 k t220 false))))) = some r := H
        have A35 := Aside0.mk A350
        clear A350
        replace H := Option.bind_eq_some_iff.mp H
        obtain ⟨⟨t256, t257⟩, A360, H⟩ := H
        replace H : ((l01e.f 10 2).bind fun bt258 => ((r01Same.f k t231 (([(⟨t252, t253⟩ : S40), (⟨t254, t255⟩ : S40), (⟨t256, t257⟩ : S40), (⟨bt258.1, bt258.2⟩ : S40)] : List (S40)))).bind fun t263 => (if t263 = true then (if t232 = 0 then (l01awake.j0 k t220 (t241 == 2)) else (l01awake.j0 k t220 false)) else (l01awake.j0 k t220 false)))) = some r := H
        have A36 := Aside0.mk A360
        clear A360
        replace H := Option.bind_eq_some_iff.mp H
        obtain ⟨⟨t258, t259⟩, A370, H⟩ := H
        replace H : ((r01Same.f k t231 (([(⟨t252, t253⟩ : S40), (⟨t254, t255⟩ : S40), (⟨t256, t257⟩ : S40), (⟨t258, t259⟩ : S40)] : List (S40)))).bind fun t263 => (if t263 = true then (if t232 = 0 then (l01awake.j0 k t220 (t241 == 2)) else (l01awake.j0 k t220 false)) else (l01awake.j0 k t220 false))) = some r := H
        have A37 := Aside0.mk A370
        clear A370
        obtain ⟨y260, hy260⟩ : ∃ y_ : List (S40), y_ = (([(⟨t252, t253⟩ : S40), (⟨t254, t255⟩ : S40), (⟨t256, t257⟩ : S40), (⟨t258, t259⟩ : S40)] : List (S40))) := ⟨_, rfl⟩
        replace H : ((r01Same.f k t231 y260).bind fun t263 => (if t263 = true then (if t232 = 0 then (l01awake.j0 k t220 (t241 == 2)) else (l01awake.j0 k t220 false)) else (l01awake.j0 k t220 false))) = some r := by first | (rw [hy260]; with_reducible exact H) | (have H2_ := (Option.bind_some _ _).symm.trans H; rw [hy260]; with_reducible exact H2_) | (have H2_ := (Option.bind_some _ _).symm.trans H; with_reducible exact H2_) | with_reducible exact H | (rw [hy260]; exact H) | exact H
        have Ny260 := Aside0.mk hy260
        clear hy260
        replace H := Option.bind_eq_some_iff.mp H
        obtain ⟨t263, A380, H⟩ := H
        replace H : (if t263 = true then (if t232 = 0 then (l01awake.j0 k t220 (t241 == 2)) else (l01awake.j0 k t220 false)) else (l01awake.j0 k t220 false)) = some r := H
        have A38 := Aside0.mk A380
        clear A380
        by_cases c39 : t263 = true
        · subst c39
          have H1 : (if t232 = 0 then (l01awake.j0 k t220 (t241 == 2)) else (l01awake.j0 k t220 false)) = some r := by rw [if_pos rfl] at H; exact H
          clear H
          have H := H1
          clear H1
          by_cases c40 : t232 = 0
          · rw [if_pos c40] at H
            have c40b0 : (t232 == 0) = true := beq_iff_eq.mpr c40
            have c40b1 : (t232 != 0) = false := bne_eq_false_iff_eq.mpr c40
            clear c40
            have H' := Aside0.mk H
            clear H
            go_wp2_with (first | ((with_reducible refine gate_callee (f := 33) rfl ?_); refine goesL_ (some 30) rfl rfl Try.func33 (by kernel_rfl) rfl #[.int .i64 0, .int .i64 2] rfl (by (try simp only [List.map_toArray, List.map_cons, List.map_nil]); first | done | rfl | (simp only [List.length_drop, List.length_take]; rfl)) ?_; (with_reducible refine (l01e.calls 0 2 t244 t245 _ A29.out).mono ?_); rintro e w41 ⟨rfl, hb⟩; refine ⟨_, rfl, ?_⟩; have n0_ := Aside0.mk (Kd.R_below (by (with_reducible repeat (first | apply Kd.R_alloc | apply Kd.R_drewN | apply Kd.R_drew)); exact HO219.out) hb); have n1_ := Aside0.mk (Kd.R_below (by (with_reducible repeat (first | apply Kd.R_alloc | apply Kd.R_drewN | apply Kd.R_drew)); exact HO223.out) hb); have n2_ := Aside0.mk (Kd.R_below (by (with_reducible repeat (first | apply Kd.R_alloc | apply Kd.R_drewN | apply Kd.R_drew)); exact HO230.out) hb); have n3_ := Aside0.mk (Kd.R_below (by (with_reducible repeat (first | apply Kd.R_alloc | apply Kd.R_drewN | apply Kd.R_drew)); exact HO234.out) hb); have n4_ := Aside0.mk (Kd.R_below (by (with_reducible repeat (first | apply Kd.R_alloc | apply Kd.R_drewN | apply Kd.R_drew)); exact HO239.out) hb); have n5_ := Aside0.mk (Kd.R_below (by (with_reducible repeat (first | apply Kd.R_alloc | apply Kd.R_drewN | apply Kd.R_drew)); exact HO243.out) hb); have n6_ := Aside0.mk (below_step (by repeat (first | (with_reducible first | exact HB.out | apply below_alloc | apply pw_below_drewN | apply below_drew1) | exact HB.out)) hb); clear HO219; clear HO223; clear HO230; clear HO234; clear HO239; clear HO243; clear HB; have HO219 := n0_; have HO223 := n1_; have HO230 := n2_; have HO234 := n3_; have HO239 := n4_; have HO243 := n5_; have HB := n6_; clear n0_ n1_ n2_ n3_ n4_ n5_ n6_; (try clear hb); (try clear hb2); (try clear hk); (try clear hi)) | ((with_reducible refine gate_callee (f := 33) rfl ?_); refine goesL_ (some 31) rfl rfl Try.func33 (by kernel_rfl) rfl #[.int .i64 5, .int .i64 6] rfl (by (try simp only [List.map_toArray, List.map_cons, List.map_nil]); first | done | rfl | (simp only [List.length_drop, List.length_take]; rfl)) ?_; (with_reducible refine (l01e.calls 5 6 t246 t247 _ A30.out).mono ?_); rintro e w42 ⟨rfl, hb⟩; refine ⟨_, rfl, ?_⟩; have n0_ := Aside0.mk (Kd.R_below (by (with_reducible repeat (first | apply Kd.R_alloc | apply Kd.R_drewN | apply Kd.R_drew)); exact HO219.out) hb); have n1_ := Aside0.mk (Kd.R_below (by (with_reducible repeat (first | apply Kd.R_alloc | apply Kd.R_drewN | apply Kd.R_drew)); exact HO223.out) hb); have n2_ := Aside0.mk (Kd.R_below (by (with_reducible repeat (first | apply Kd.R_alloc | apply Kd.R_drewN | apply Kd.R_drew)); exact HO230.out) hb); have n3_ := Aside0.mk (Kd.R_below (by (with_reducible repeat (first | apply Kd.R_alloc | apply Kd.R_drewN | apply Kd.R_drew)); exact HO234.out) hb); have n4_ := Aside0.mk (Kd.R_below (by (with_reducible repeat (first | apply Kd.R_alloc | apply Kd.R_drewN | apply Kd.R_drew)); exact HO239.out) hb); have n5_ := Aside0.mk (Kd.R_below (by (with_reducible repeat (first | apply Kd.R_alloc | apply Kd.R_drewN | apply Kd.R_drew)); exact HO243.out) hb); have n6_ := Aside0.mk (below_step (by repeat (first | (with_reducible first | exact HB.out | apply below_alloc | apply pw_below_drewN | apply below_drew1) | exact HB.out)) hb); clear HO219; clear HO223; clear HO230; clear HO234; clear HO239; clear HO243; clear HB; have HO219 := n0_; have HO223 := n1_; have HO230 := n2_; have HO234 := n3_; have HO239 := n4_; have HO243 := n5_; have HB := n6_; clear n0_ n1_ n2_ n3_ n4_ n5_ n6_; (try clear hb); (try clear hb2); (try clear hk); (try clear hi)) | ((with_reducible refine gate_dst (N := 32) rfl ?_); (try (refine gate_guard (by rfl) ?_; dsimp only)); refine Kd.R_lit k40 _ 40 ?hg (N := 32) ?hd (xs := ([(⟨t244, t245⟩ : S40), (⟨t246, t247⟩ : S40)] : List (S40))) (inner := [.int .i64 t244, .int .i64 t245, .int .i64 t246, .int .i64 t247]) (ok := fun _ => True) (okp := fun _ => True) ?hr ?hp (fun _ hk => hk) trivial (Below.refl _ _) (Nat.le_refl _) (by simp) ?_; (case hd => rfl); (case hg => rfl); (case hr => first | (go_simp; done) | (go_simp; rfl)); (case hp => exact (Reps.c2 (show Kd.M k40 _ _ _ (⟨t244, t245⟩ : S40) [.int .i64 t244, .int .i64 t245] from (k40_mkM _ _ _ (⟨t244, t245⟩ : S40) )) (Reps.c2 (show Kd.M k40 _ _ _ (⟨t246, t247⟩ : S40) [.int .i64 t246, .int .i64 t247] from (k40_mkM _ _ _ (⟨t246, t247⟩ : S40) )) (Reps.none _ _)))); intro v249 w43 ho44 hb hg_ hnew_; clear hg_ hnew_; (first | rw [← Ny248.out] at ho44 | (simp only [Int.reduceToNat] at ho44; rw [← Ny248.out] at ho44)); have n0_ := Aside0.mk (Kd.R_elder' (by (with_reducible repeat (first | apply Kd.R_alloc | apply Kd.R_drewN | apply Kd.R_drew)); exact HO219.out) (Kd.R_base ho44) hb); have n1_ := Aside0.mk (Kd.R_elder' (by (with_reducible repeat (first | apply Kd.R_alloc | apply Kd.R_drewN | apply Kd.R_drew)); exact HO223.out) (Kd.R_base ho44) hb); have n2_ := Aside0.mk (Kd.R_elder' (by (with_reducible repeat (first | apply Kd.R_alloc | apply Kd.R_drewN | apply Kd.R_drew)); exact HO230.out) (Kd.R_base ho44) hb); have n3_ := Aside0.mk (Kd.R_elder' (by (with_reducible repeat (first | apply Kd.R_alloc | apply Kd.R_drewN | apply Kd.R_drew)); exact HO234.out) (Kd.R_base ho44) hb); have n4_ := Aside0.mk (Kd.R_elder' (by (with_reducible repeat (first | apply Kd.R_alloc | apply Kd.R_drewN | apply Kd.R_drew)); exact HO239.out) (Kd.R_base ho44) hb); have n5_ := Aside0.mk (Kd.R_elder' (by (with_reducible repeat (first | apply Kd.R_alloc | apply Kd.R_drewN | apply Kd.R_drew)); exact HO243.out) (Kd.R_base ho44) hb); have n6_ := Aside0.mk (Kd.R_lower (Kd.R_new' (Kd.R_new' (Kd.R_new' (Kd.R_new' (Kd.R_new' (Kd.R_new' ho44 (Kd.R_lt (by (with_reducible repeat (first | apply Kd.R_alloc | apply Kd.R_drewN | apply Kd.R_drew)); exact HO219.out))) (Kd.R_lt (by (with_reducible repeat (first | apply Kd.R_alloc | apply Kd.R_drewN | apply Kd.R_drew)); exact HO223.out))) (Kd.R_lt (by (with_reducible repeat (first | apply Kd.R_alloc | apply Kd.R_drewN | apply Kd.R_drew)); exact HO230.out))) (Kd.R_lt (by (with_reducible repeat (first | apply Kd.R_alloc | apply Kd.R_drewN | apply Kd.R_drew)); exact HO234.out))) (Kd.R_lt (by (with_reducible repeat (first | apply Kd.R_alloc | apply Kd.R_drewN | apply Kd.R_drew)); exact HO239.out))) (Kd.R_lt (by (with_reducible repeat (first | apply Kd.R_alloc | apply Kd.R_drewN | apply Kd.R_drew)); exact HO243.out))) (below_size (by repeat (first | (with_reducible first | exact HB.out | apply below_alloc | apply pw_below_drewN | apply below_drew1) | exact HB.out)))); have n7_ := Aside0.mk (below_step (by repeat (first | (with_reducible first | exact HB.out | apply below_alloc | apply pw_below_drewN | apply below_drew1) | exact HB.out)) hb); clear HO219; clear HO223; clear HO230; clear HO234; clear HO239; clear HO243; clear HB; have HO219 := n0_; have HO223 := n1_; have HO230 := n2_; have HO234 := n3_; have HO239 := n4_; have HO243 := n5_; have HO250 := n6_; have HB := n7_; clear n0_ n1_ n2_ n3_ n4_ n5_ n6_ n7_; clear hb ho44; obtain ⟨Ao45, co45, eo45⟩ := Kd.R_slice HO223.out; subst eo45; obtain ⟨Ao46, co46, eo46⟩ := Kd.R_slice HO250.out; subst eo46) | ((with_reducible refine gate_callee (f := 18) rfl ?_); refine goesL_ (some 33) rfl rfl Try.func18 (by kernel_rfl) rfl #[.slice Ao45 t220.length co45, .slice Ao46 y248.length co46] rfl (by (try simp only [List.map_toArray, List.map_cons, List.map_nil]); first | done | rfl | (simp only [List.length_drop, List.length_take]; rfl)) ?_; (with_reducible refine (r01Same.calls k _ _ t220 _ _ y248 true _ ?side1 ?side2 ?side3 ?side4 A31.out).mono ?_); (case side1 => repeat (first | exact (Kd.R_reads' HO223.out).2.2 | (with_reducible refine Kd.C_alloc ?_ _) | (with_reducible refine Kd.C_drewN ?_ _) | (with_reducible refine Kd.C_drew ?_))); (case side2 => exact (Kd.R_reads' HO223.out).2.1); (case side3 => repeat (first | exact (Kd.R_reads' HO250.out).2.2 | (with_reducible refine Kd.C_alloc ?_ _) | (with_reducible refine Kd.C_drewN ?_ _) | (with_reducible refine Kd.C_drew ?_))); (case side4 => exact (Kd.R_reads' HO250.out).2.1); rintro e w' ⟨rfl, ⟨nd, rfl⟩⟩; refine ⟨_, rfl, ?_⟩) | (go_at_call 33; (with_reducible refine (l01e.calls 0 2 t252 t253 _ A34.out).mono ?_); rintro e w47 ⟨rfl, hb⟩; have n0_ := Aside0.mk (Kd.R_below (by (with_reducible repeat (first | apply Kd.R_alloc | apply Kd.R_drewN | apply Kd.R_drew)); exact HO219.out) hb); have n1_ := Aside0.mk (Kd.R_below (by (with_reducible repeat (first | apply Kd.R_alloc | apply Kd.R_drewN | apply Kd.R_drew)); exact HO223.out) hb); have n2_ := Aside0.mk (Kd.R_below (by (with_reducible repeat (first | apply Kd.R_alloc | apply Kd.R_drewN | apply Kd.R_drew)); exact HO230.out) hb); have n3_ := Aside0.mk (Kd.R_below (by (with_reducible repeat (first | apply Kd.R_alloc | apply Kd.R_drewN | apply Kd.R_drew)); exact HO234.out) hb); have n4_ := Aside0.mk (Kd.R_below (by (with_reducible repeat (first | apply Kd.R_alloc | apply Kd.R_drewN | apply Kd.R_drew)); exact HO239.out) hb); have n5_ := Aside0.mk (Kd.R_below (by (with_reducible repeat (first | apply Kd.R_alloc | apply Kd.R_drewN | apply Kd.R_drew)); exact HO243.out) hb); have n6_ := Aside0.mk (Kd.R_below (by (with_reducible repeat (first | apply Kd.R_alloc | apply Kd.R_drewN | apply Kd.R_drew)); exact HO250.out) hb); have n7_ := Aside0.mk (below_step (by repeat (first | (with_reducible first | exact HB.out | apply below_alloc | apply pw_below_drewN | apply below_drew1) | exact HB.out)) hb); clear HO219; clear HO223; clear HO230; clear HO234; clear HO239; clear HO243; clear HO250; clear HB; have HO219 := n0_; have HO223 := n1_; have HO230 := n2_; have HO234 := n3_; have HO239 := n4_; have HO243 := n5_; have HO250 := n6_; have HB := n7_; clear n0_ n1_ n2_ n3_ n4_ n5_ n6_ n7_; (try clear hb); (try clear hb2); (try clear hk); (try clear hi)) | (go_at_call 33; (with_reducible refine (l01e.calls 2 2 t254 t255 _ A35.out).mono ?_); rintro e w48 ⟨rfl, hb⟩; have n0_ := Aside0.mk (Kd.R_below (by (with_reducible repeat (first | apply Kd.R_alloc | apply Kd.R_drewN | apply Kd.R_drew)); exact HO219.out) hb); have n1_ := Aside0.mk (Kd.R_below (by (with_reducible repeat (first | apply Kd.R_alloc | apply Kd.R_drewN | apply Kd.R_drew)); exact HO223.out) hb); have n2_ := Aside0.mk (Kd.R_below (by (with_reducible repeat (first | apply Kd.R_alloc | apply Kd.R_drewN | apply Kd.R_drew)); exact HO230.out) hb); have n3_ := Aside0.mk (Kd.R_below (by (with_reducible repeat (first | apply Kd.R_alloc | apply Kd.R_drewN | apply Kd.R_drew)); exact HO234.out) hb); have n4_ := Aside0.mk (Kd.R_below (by (with_reducible repeat (first | apply Kd.R_alloc | apply Kd.R_drewN | apply Kd.R_drew)); exact HO239.out) hb); have n5_ := Aside0.mk (Kd.R_below (by (with_reducible repeat (first | apply Kd.R_alloc | apply Kd.R_drewN | apply Kd.R_drew)); exact HO243.out) hb); have n6_ := Aside0.mk (Kd.R_below (by (with_reducible repeat (first | apply Kd.R_alloc | apply Kd.R_drewN | apply Kd.R_drew)); exact HO250.out) hb); have n7_ := Aside0.mk (below_step (by repeat (first | (with_reducible first | exact HB.out | apply below_alloc | apply pw_below_drewN | apply below_drew1) | exact HB.out)) hb); clear HO219; clear HO223; clear HO230; clear HO234; clear HO239; clear HO243; clear HO250; clear HB; have HO219 := n0_; have HO223 := n1_; have HO230 := n2_; have HO234 := n3_; have HO239 := n4_; have HO243 := n5_; have HO250 := n6_; have HB := n7_; clear n0_ n1_ n2_ n3_ n4_ n5_ n6_ n7_; (try clear hb); (try clear hb2); (try clear hk); (try clear hi)) | (go_at_call 33; (with_reducible refine (l01e.calls 4 1 t256 t257 _ A36.out).mono ?_); rintro e w49 ⟨rfl, hb⟩; have n0_ := Aside0.mk (Kd.R_below (by (with_reducible repeat (first | apply Kd.R_alloc | apply Kd.R_drewN | apply Kd.R_drew)); exact HO219.out) hb); have n1_ := Aside0.mk (Kd.R_below (by (with_reducible repeat (first | apply Kd.R_alloc | apply Kd.R_drewN | apply Kd.R_drew)); exact HO223.out) hb); have n2_ := Aside0.mk (Kd.R_below (by (with_reducible repeat (first | apply Kd.R_alloc | apply Kd.R_drewN | apply Kd.R_drew)); exact HO230.out) hb); have n3_ := Aside0.mk (Kd.R_below (by (with_reducible repeat (first | apply Kd.R_alloc | apply Kd.R_drewN | apply Kd.R_drew)); exact HO234.out) hb); have n4_ := Aside0.mk (Kd.R_below (by (with_reducible repeat (first | apply Kd.R_alloc | apply Kd.R_drewN | apply Kd.R_drew)); exact HO239.out) hb); have n5_ := Aside0.mk (Kd.R_below (by (with_reducible repeat (first | apply Kd.R_alloc | apply Kd.R_drewN | apply Kd.R_drew)); exact HO243.out) hb); have n6_ := Aside0.mk (Kd.R_below (by (with_reducible repeat (first | apply Kd.R_alloc | apply Kd.R_drewN | apply Kd.R_drew)); exact HO250.out) hb); have n7_ := Aside0.mk (below_step (by repeat (first | (with_reducible first | exact HB.out | apply below_alloc | apply pw_below_drewN | apply below_drew1) | exact HB.out)) hb); clear HO219; clear HO223; clear HO230; clear HO234; clear HO239; clear HO243; clear HO250; clear HB; have HO219 := n0_; have HO223 := n1_; have HO230 := n2_; have HO234 := n3_; have HO239 := n4_; have HO243 := n5_; have HO250 := n6_; have HB := n7_; clear n0_ n1_ n2_ n3_ n4_ n5_ n6_ n7_; (try clear hb); (try clear hb2); (try clear hk); (try clear hi)) | (go_at_call 33; (with_reducible refine (l01e.calls 10 2 t258 t259 _ A37.out).mono ?_); rintro e w50 ⟨rfl, hb⟩; have n0_ := Aside0.mk (Kd.R_below (by (with_reducible repeat (first | apply Kd.R_alloc | apply Kd.R_drewN | apply Kd.R_drew)); exact HO219.out) hb); have n1_ := Aside0.mk (Kd.R_below (by (with_reducible repeat (first | apply Kd.R_alloc | apply Kd.R_drewN | apply Kd.R_drew)); exact HO223.out) hb); have n2_ := Aside0.mk (Kd.R_below (by (with_reducible repeat (first | apply Kd.R_alloc | apply Kd.R_drewN | apply Kd.R_drew)); exact HO230.out) hb); have n3_ := Aside0.mk (Kd.R_below (by (with_reducible repeat (first | apply Kd.R_alloc | apply Kd.R_drewN | apply Kd.R_drew)); exact HO234.out) hb); have n4_ := Aside0.mk (Kd.R_below (by (with_reducible repeat (first | apply Kd.R_alloc | apply Kd.R_drewN | apply Kd.R_drew)); exact HO239.out) hb); have n5_ := Aside0.mk (Kd.R_below (by (with_reducible repeat (first | apply Kd.R_alloc | apply Kd.R_drewN | apply Kd.R_drew)); exact HO243.out) hb); have n6_ := Aside0.mk (Kd.R_below (by (with_reducible repeat (first | apply Kd.R_alloc | apply Kd.R_drewN | apply Kd.R_drew)); exact HO250.out) hb); have n7_ := Aside0.mk (below_step (by repeat (first | (with_reducible first | exact HB.out | apply below_alloc | apply pw_below_drewN | apply below_drew1) | exact HB.out)) hb); clear HO219; clear HO223; clear HO230; clear HO234; clear HO239; clear HO243; clear HO250; clear HB; have HO219 := n0_; have HO223 := n1_; have HO230 := n2_; have HO234 := n3_; have HO239 := n4_; have HO243 := n5_; have HO250 := n6_; have HB := n7_; clear n0_ n1_ n2_ n3_ n4_ n5_ n6_ n7_; (try clear hb); (try clear hb2); (try clear hk); (try clear hi)) | ((with_reducible refine gate_dst (N := 44) rfl ?_); (try (refine gate_guard (by rfl) ?_; dsimp only)); refine Kd.R_lit k40 _ 40 ?hg (N := 44) ?hd (xs := ([(⟨t252, t253⟩ : S40), (⟨t254, t255⟩ : S40), (⟨t256, t257⟩ : S40), (⟨t258, t259⟩ : S40)] : List (S40))) (inner := [.int .i64 t252, .int .i64 t253, .int .i64 t254, .int .i64 t255, .int .i64 t256, .int .i64 t257, .int .i64 t258, .int .i64 t259]) (ok := fun _ => True) (okp := fun _ => True) ?hr ?hp (fun _ hk => hk) trivial (Below.refl _ _) (Nat.le_refl _) (by simp) ?_; (case hd => rfl); (case hg => rfl); (case hr => first | (go_simp; done) | (go_simp; rfl)); (case hp => exact (Reps.c2 (show Kd.M k40 _ _ _ (⟨t252, t253⟩ : S40) [.int .i64 t252, .int .i64 t253] from (k40_mkM _ _ _ (⟨t252, t253⟩ : S40) )) (Reps.c2 (show Kd.M k40 _ _ _ (⟨t254, t255⟩ : S40) [.int .i64 t254, .int .i64 t255] from (k40_mkM _ _ _ (⟨t254, t255⟩ : S40) )) (Reps.c2 (show Kd.M k40 _ _ _ (⟨t256, t257⟩ : S40) [.int .i64 t256, .int .i64 t257] from (k40_mkM _ _ _ (⟨t256, t257⟩ : S40) )) (Reps.c2 (show Kd.M k40 _ _ _ (⟨t258, t259⟩ : S40) [.int .i64 t258, .int .i64 t259] from (k40_mkM _ _ _ (⟨t258, t259⟩ : S40) )) (Reps.none _ _)))))); intro v261 w51 ho52 hb hg_ hnew_; clear hg_ hnew_; (first | rw [← Ny260.out] at ho52 | (simp only [Int.reduceToNat] at ho52; rw [← Ny260.out] at ho52)); have n0_ := Aside0.mk (Kd.R_elder' (by (with_reducible repeat (first | apply Kd.R_alloc | apply Kd.R_drewN | apply Kd.R_drew)); exact HO219.out) (Kd.R_base ho52) hb); have n1_ := Aside0.mk (Kd.R_elder' (by (with_reducible repeat (first | apply Kd.R_alloc | apply Kd.R_drewN | apply Kd.R_drew)); exact HO223.out) (Kd.R_base ho52) hb); have n2_ := Aside0.mk (Kd.R_elder' (by (with_reducible repeat (first | apply Kd.R_alloc | apply Kd.R_drewN | apply Kd.R_drew)); exact HO230.out) (Kd.R_base ho52) hb); have n3_ := Aside0.mk (Kd.R_elder' (by (with_reducible repeat (first | apply Kd.R_alloc | apply Kd.R_drewN | apply Kd.R_drew)); exact HO234.out) (Kd.R_base ho52) hb); have n4_ := Aside0.mk (Kd.R_elder' (by (with_reducible repeat (first | apply Kd.R_alloc | apply Kd.R_drewN | apply Kd.R_drew)); exact HO239.out) (Kd.R_base ho52) hb); have n5_ := Aside0.mk (Kd.R_elder' (by (with_reducible repeat (first | apply Kd.R_alloc | apply Kd.R_drewN | apply Kd.R_drew)); exact HO243.out) (Kd.R_base ho52) hb); have n6_ := Aside0.mk (Kd.R_elder' (by (with_reducible repeat (first | apply Kd.R_alloc | apply Kd.R_drewN | apply Kd.R_drew)); exact HO250.out) (Kd.R_base ho52) hb); have n7_ := Aside0.mk (Kd.R_lower (Kd.R_new' (Kd.R_new' (Kd.R_new' (Kd.R_new' (Kd.R_new' (Kd.R_new' (Kd.R_new' ho52 (Kd.R_lt (by (with_reducible repeat (first | apply Kd.R_alloc | apply Kd.R_drewN | apply Kd.R_drew)); exact HO219.out))) (Kd.R_lt (by (with_reducible repeat (first | apply Kd.R_alloc | apply Kd.R_drewN | apply Kd.R_drew)); exact HO223.out))) (Kd.R_lt (by (with_reducible repeat (first | apply Kd.R_alloc | apply Kd.R_drewN | apply Kd.R_drew)); exact HO230.out))) (Kd.R_lt (by (with_reducible repeat (first | apply Kd.R_alloc | apply Kd.R_drewN | apply Kd.R_drew)); exact HO234.out))) (Kd.R_lt (by (with_reducible repeat (first | apply Kd.R_alloc | apply Kd.R_drewN | apply Kd.R_drew)); exact HO239.out))) (Kd.R_lt (by (with_reducible repeat (first | apply Kd.R_alloc | apply Kd.R_drewN | apply Kd.R_drew)); exact HO243.out))) (Kd.R_lt (by (with_reducible repeat (first | apply Kd.R_alloc | apply Kd.R_drewN | apply Kd.R_drew)); exact HO250.out))) (below_size (by repeat (first | (with_reducible first | exact HB.out | apply below_alloc | apply pw_below_drewN | apply below_drew1) | exact HB.out)))); have n8_ := Aside0.mk (below_step (by repeat (first | (with_reducible first | exact HB.out | apply below_alloc | apply pw_below_drewN | apply below_drew1) | exact HB.out)) hb); clear HO219; clear HO223; clear HO230; clear HO234; clear HO239; clear HO243; clear HO250; clear HB; have HO219 := n0_; have HO223 := n1_; have HO230 := n2_; have HO234 := n3_; have HO239 := n4_; have HO243 := n5_; have HO250 := n6_; have HO262 := n7_; have HB := n8_; clear n0_ n1_ n2_ n3_ n4_ n5_ n6_ n7_ n8_; clear hb ho52; obtain ⟨Ao53, co53, eo53⟩ := Kd.R_slice HO234.out; subst eo53; obtain ⟨Ao54, co54, eo54⟩ := Kd.R_slice HO262.out; subst eo54) | (go_at_call 18; (with_reducible refine (r01Same.calls k _ _ t231 _ _ y260 true _ ?side1 ?side2 ?side3 ?side4 A38.out).mono ?_); (case side1 => repeat (first | exact (Kd.R_reads' HO234.out).2.2 | (with_reducible refine Kd.C_alloc ?_ _) | (with_reducible refine Kd.C_drewN ?_ _) | (with_reducible refine Kd.C_drew ?_))); (case side2 => exact (Kd.R_reads' HO234.out).2.1); (case side3 => repeat (first | exact (Kd.R_reads' HO262.out).2.2 | (with_reducible refine Kd.C_alloc ?_ _) | (with_reducible refine Kd.C_drewN ?_ _) | (with_reducible refine Kd.C_drew ?_))); (case side4 => exact (Kd.R_reads' HO262.out).2.1); rintro e w' ⟨rfl, ⟨nd, rfl⟩⟩))
            go_meet
            case rel => exact ⟨_, ((t241 == 2)), (by first | rfl | (simp; done) | (simp [*]; done)), H', ⟨by first | omega | exact Nat.le_refl _⟩, ⟨by (with_reducible repeat (first | apply Kd.R_alloc | apply Kd.R_drewN | apply Kd.R_drew)); exact Kd.R_mono HO223.out (fun _ hk => trivial)⟩, ⟨by repeat (first | (with_reducible first | exact HB.out | apply below_alloc | apply pw_below_drewN | apply below_drew1) | exact HB.out)⟩⟩
          · rw [if_neg c40] at H
            have c40b0 : (t232 == 0) = false := beq_eq_false_iff_ne.mpr c40
            have c40b1 : (t232 != 0) = true := bne_iff_ne.mpr c40
            have H' := Aside0.mk H
            clear H
            go_wp2_with (first | ((with_reducible refine gate_callee (f := 33) rfl ?_); refine goesL_ (some 30) rfl rfl Try.func33 (by kernel_rfl) rfl #[.int .i64 0, .int .i64 2] rfl (by (try simp only [List.map_toArray, List.map_cons, List.map_nil]); first | done | rfl | (simp only [List.length_drop, List.length_take]; rfl)) ?_; (with_reducible refine (l01e.calls 0 2 t244 t245 _ A29.out).mono ?_); rintro e w55 ⟨rfl, hb⟩; refine ⟨_, rfl, ?_⟩; have n0_ := Aside0.mk (Kd.R_below (by (with_reducible repeat (first | apply Kd.R_alloc | apply Kd.R_drewN | apply Kd.R_drew)); exact HO219.out) hb); have n1_ := Aside0.mk (Kd.R_below (by (with_reducible repeat (first | apply Kd.R_alloc | apply Kd.R_drewN | apply Kd.R_drew)); exact HO223.out) hb); have n2_ := Aside0.mk (Kd.R_below (by (with_reducible repeat (first | apply Kd.R_alloc | apply Kd.R_drewN | apply Kd.R_drew)); exact HO230.out) hb); have n3_ := Aside0.mk (Kd.R_below (by (with_reducible repeat (first | apply Kd.R_alloc | apply Kd.R_drewN | apply Kd.R_drew)); exact HO234.out) hb); have n4_ := Aside0.mk (Kd.R_below (by (with_reducible repeat (first | apply Kd.R_alloc | apply Kd.R_drewN | apply Kd.R_drew)); exact HO239.out) hb); have n5_ := Aside0.mk (Kd.R_below (by (with_reducible repeat (first | apply Kd.R_alloc | apply Kd.R_drewN | apply Kd.R_drew)); exact HO243.out) hb); have n6_ := Aside0.mk (below_step (by repeat (first | (with_reducible first | exact HB.out | apply below_alloc | apply pw_below_drewN | apply below_drew1) | exact HB.out)) hb); clear HO219; clear HO223; clear HO230; clear HO234; clear HO239; clear HO243; clear HB; have HO219 := n0_; have HO223 := n1_; have HO230 := n2_; have HO234 := n3_; have HO239 := n4_; have HO243 := n5_; have HB := n6_; clear n0_ n1_ n2_ n3_ n4_ n5_ n6_; (try clear hb); (try clear hb2); (try clear hk); (try clear hi)) | ((with_reducible refine gate_callee (f := 33) rfl ?_); refine goesL_ (some 31) rfl rfl Try.func33 (by kernel_rfl) rfl #[.int .i64 5, .int .i64 6] rfl (by (try simp only [List.map_toArray, List.map_cons, List.map_nil]); first | done | rfl | (simp only [List.length_drop, List.length_take]; rfl)) ?_; (with_reducible refine (l01e.calls 5 6 t246 t247 _ A30.out).mono ?_); rintro e w56 ⟨rfl, hb⟩; refine ⟨_, rfl, ?_⟩; have n0_ := Aside0.mk (Kd.R_below (by (with_reducible repeat (first | apply Kd.R_alloc | apply Kd.R_drewN | apply Kd.R_drew)); exact HO219.out) hb); have n1_ := Aside0.mk (Kd.R_below (by (with_reducible repeat (first | apply Kd.R_alloc | apply Kd.R_drewN | apply Kd.R_drew)); exact HO223.out) hb); have n2_ := Aside0.mk (Kd.R_below (by (with_reducible repeat (first | apply Kd.R_alloc | apply Kd.R_drewN | apply Kd.R_drew)); exact HO230.out) hb); have n3_ := Aside0.mk (Kd.R_below (by (with_reducible repeat (first | apply Kd.R_alloc | apply Kd.R_drewN | apply Kd.R_drew)); exact HO234.out) hb); have n4_ := Aside0.mk (Kd.R_below (by (with_reducible repeat (first | apply Kd.R_alloc | apply Kd.R_drewN | apply Kd.R_drew)); exact HO239.out) hb); have n5_ := Aside0.mk (Kd.R_below (by (with_reducible repeat (first | apply Kd.R_alloc | apply Kd.R_drewN | apply Kd.R_drew)); exact HO243.out) hb); have n6_ := Aside0.mk (below_step (by repeat (first | (with_reducible first | exact HB.out | apply below_alloc | apply pw_below_drewN | apply below_drew1) | exact HB.out)) hb); clear HO219; clear HO223; clear HO230; clear HO234; clear HO239; clear HO243; clear HB; have HO219 := n0_; have HO223 := n1_; have HO230 := n2_; have HO234 := n3_; have HO239 := n4_; have HO243 := n5_; have HB := n6_; clear n0_ n1_ n2_ n3_ n4_ n5_ n6_; (try clear hb); (try clear hb2); (try clear hk); (try clear hi)) | ((with_reducible refine gate_dst (N := 32) rfl ?_); (try (refine gate_guard (by rfl) ?_; dsimp only)); refine Kd.R_lit k40 _ 40 ?hg (N := 32) ?hd (xs := ([(⟨t244, t245⟩ : S40), (⟨t246, t247⟩ : S40)] : List (S40))) (inner := [.int .i64 t244, .int .i64 t245, .int .i64 t246, .int .i64 t247]) (ok := fun _ => True) (okp := fun _ => True) ?hr ?hp (fun _ hk => hk) trivial (Below.refl _ _) (Nat.le_refl _) (by simp) ?_; (case hd => rfl); (case hg => rfl); (case hr => first | (go_simp; done) | (go_simp; rfl)); (case hp => exact (Reps.c2 (show Kd.M k40 _ _ _ (⟨t244, t245⟩ : S40) [.int .i64 t244, .int .i64 t245] from (k40_mkM _ _ _ (⟨t244, t245⟩ : S40) )) (Reps.c2 (show Kd.M k40 _ _ _ (⟨t246, t247⟩ : S40) [.int .i64 t246, .int .i64 t247] from (k40_mkM _ _ _ (⟨t246, t247⟩ : S40) )) (Reps.none _ _)))); intro v249 w57 ho58 hb hg_ hnew_; clear hg_ hnew_; (first | rw [← Ny248.out] at ho58 | (simp only [Int.reduceToNat] at ho58; rw [← Ny248.out] at ho58)); have n0_ := Aside0.mk (Kd.R_elder' (by (with_reducible repeat (first | apply Kd.R_alloc | apply Kd.R_drewN | apply Kd.R_drew)); exact HO219.out) (Kd.R_base ho58) hb); have n1_ := Aside0.mk (Kd.R_elder' (by (with_reducible repeat (first | apply Kd.R_alloc | apply Kd.R_drewN | apply Kd.R_drew)); exact HO223.out) (Kd.R_base ho58) hb); have n2_ := Aside0.mk (Kd.R_elder' (by (with_reducible repeat (first | apply Kd.R_alloc | apply Kd.R_drewN | apply Kd.R_drew)); exact HO230.out) (Kd.R_base ho58) hb); have n3_ := Aside0.mk (Kd.R_elder' (by (with_reducible repeat (first | apply Kd.R_alloc | apply Kd.R_drewN | apply Kd.R_drew)); exact HO234.out) (Kd.R_base ho58) hb); have n4_ := Aside0.mk (Kd.R_elder' (by (with_reducible repeat (first | apply Kd.R_alloc | apply Kd.R_drewN | apply Kd.R_drew)); exact HO239.out) (Kd.R_base ho58) hb); have n5_ := Aside0.mk (Kd.R_elder' (by (with_reducible repeat (first | apply Kd.R_alloc | apply Kd.R_drewN | apply Kd.R_drew)); exact HO243.out) (Kd.R_base ho58) hb); have n6_ := Aside0.mk (Kd.R_lower (Kd.R_new' (Kd.R_new' (Kd.R_new' (Kd.R_new' (Kd.R_new' (Kd.R_new' ho58 (Kd.R_lt (by (with_reducible repeat (first | apply Kd.R_alloc | apply Kd.R_drewN | apply Kd.R_drew)); exact HO219.out))) (Kd.R_lt (by (with_reducible repeat (first | apply Kd.R_alloc | apply Kd.R_drewN | apply Kd.R_drew)); exact HO223.out))) (Kd.R_lt (by (with_reducible repeat (first | apply Kd.R_alloc | apply Kd.R_drewN | apply Kd.R_drew)); exact HO230.out))) (Kd.R_lt (by (with_reducible repeat (first | apply Kd.R_alloc | apply Kd.R_drewN | apply Kd.R_drew)); exact HO234.out))) (Kd.R_lt (by (with_reducible repeat (first | apply Kd.R_alloc | apply Kd.R_drewN | apply Kd.R_drew)); exact HO239.out))) (Kd.R_lt (by (with_reducible repeat (first | apply Kd.R_alloc | apply Kd.R_drewN | apply Kd.R_drew)); exact HO243.out))) (below_size (by repeat (first | (with_reducible first | exact HB.out | apply below_alloc | apply pw_below_drewN | apply below_drew1) | exact HB.out)))); have n7_ := Aside0.mk (below_step (by repeat (first | (with_reducible first | exact HB.out | apply below_alloc | apply pw_below_drewN | apply below_drew1) | exact HB.out)) hb); clear HO219; clear HO223; clear HO230; clear HO234; clear HO239; clear HO243; clear HB; have HO219 := n0_; have HO223 := n1_; have HO230 := n2_; have HO234 := n3_; have HO239 := n4_; have HO243 := n5_; have HO250 := n6_; have HB := n7_; clear n0_ n1_ n2_ n3_ n4_ n5_ n6_ n7_; clear hb ho58; obtain ⟨Ao59, co59, eo59⟩ := Kd.R_slice HO223.out; subst eo59; obtain ⟨Ao60, co60, eo60⟩ := Kd.R_slice HO250.out; subst eo60) | ((with_reducible refine gate_callee (f := 18) rfl ?_); refine goesL_ (some 33) rfl rfl Try.func18 (by kernel_rfl) rfl #[.slice Ao59 t220.length co59, .slice Ao60 y248.length co60] rfl (by (try simp only [List.map_toArray, List.map_cons, List.map_nil]); first | done | rfl | (simp only [List.length_drop, List.length_take]; rfl)) ?_; (with_reducible refine (r01Same.calls k _ _ t220 _ _ y248 true _ ?side1 ?side2 ?side3 ?side4 A31.out).mono ?_); (case side1 => repeat (first | exact (Kd.R_reads' HO223.out).2.2 | (with_reducible refine Kd.C_alloc ?_ _) | (with_reducible refine Kd.C_drewN ?_ _) | (with_reducible refine Kd.C_drew ?_))); (case side2 => exact (Kd.R_reads' HO223.out).2.1); (case side3 => repeat (first | exact (Kd.R_reads' HO250.out).2.2 | (with_reducible refine Kd.C_alloc ?_ _) | (with_reducible refine Kd.C_drewN ?_ _) | (with_reducible refine Kd.C_drew ?_))); (case side4 => exact (Kd.R_reads' HO250.out).2.1); rintro e w' ⟨rfl, ⟨nd, rfl⟩⟩; refine ⟨_, rfl, ?_⟩) | (go_at_call 33; (with_reducible refine (l01e.calls 0 2 t252 t253 _ A34.out).mono ?_); rintro e w61 ⟨rfl, hb⟩; have n0_ := Aside0.mk (Kd.R_below (by (with_reducible repeat (first | apply Kd.R_alloc | apply Kd.R_drewN | apply Kd.R_drew)); exact HO219.out) hb); have n1_ := Aside0.mk (Kd.R_below (by (with_reducible repeat (first | apply Kd.R_alloc | apply Kd.R_drewN | apply Kd.R_drew)); exact HO223.out) hb); have n2_ := Aside0.mk (Kd.R_below (by (with_reducible repeat (first | apply Kd.R_alloc | apply Kd.R_drewN | apply Kd.R_drew)); exact HO230.out) hb); have n3_ := Aside0.mk (Kd.R_below (by (with_reducible repeat (first | apply Kd.R_alloc | apply Kd.R_drewN | apply Kd.R_drew)); exact HO234.out) hb); have n4_ := Aside0.mk (Kd.R_below (by (with_reducible repeat (first | apply Kd.R_alloc | apply Kd.R_drewN | apply Kd.R_drew)); exact HO239.out) hb); have n5_ := Aside0.mk (Kd.R_below (by (with_reducible repeat (first | apply Kd.R_alloc | apply Kd.R_drewN | apply Kd.R_drew)); exact HO243.out) hb); have n6_ := Aside0.mk (Kd.R_below (by (with_reducible repeat (first | apply Kd.R_alloc | apply Kd.R_drewN | apply Kd.R_drew)); exact HO250.out) hb); have n7_ := Aside0.mk (below_step (by repeat (first | (with_reducible first | exact HB.out | apply below_alloc | apply pw_below_drewN | apply below_drew1) | exact HB.out)) hb); clear HO219; clear HO223; clear HO230; clear HO234; clear HO239; clear HO243; clear HO250; clear HB; have HO219 := n0_; have HO223 := n1_; have HO230 := n2_; have HO234 := n3_; have HO239 := n4_; have HO243 := n5_; have HO250 := n6_; have HB := n7_; clear n0_ n1_ n2_ n3_ n4_ n5_ n6_ n7_; (try clear hb); (try clear hb2); (try clear hk); (try clear hi)) | (go_at_call 33; (with_reducible refine (l01e.calls 2 2 t254 t255 _ A35.out).mono ?_); rintro e w62 ⟨rfl, hb⟩; have n0_ := Aside0.mk (Kd.R_below (by (with_reducible repeat (first | apply Kd.R_alloc | apply Kd.R_drewN | apply Kd.R_drew)); exact HO219.out) hb); have n1_ := Aside0.mk (Kd.R_below (by (with_reducible repeat (first | apply Kd.R_alloc | apply Kd.R_drewN | apply Kd.R_drew)); exact HO223.out) hb); have n2_ := Aside0.mk (Kd.R_below (by (with_reducible repeat (first | apply Kd.R_alloc | apply Kd.R_drewN | apply Kd.R_drew)); exact HO230.out) hb); have n3_ := Aside0.mk (Kd.R_below (by (with_reducible repeat (first | apply Kd.R_alloc | apply Kd.R_drewN | apply Kd.R_drew)); exact HO234.out) hb); have n4_ := Aside0.mk (Kd.R_below (by (with_reducible repeat (first | apply Kd.R_alloc | apply Kd.R_drewN | apply Kd.R_drew)); exact HO239.out) hb); have n5_ := Aside0.mk (Kd.R_below (by (with_reducible repeat (first | apply Kd.R_alloc | apply Kd.R_drewN | apply Kd.R_drew)); exact HO243.out) hb); have n6_ := Aside0.mk (Kd.R_below (by (with_reducible repeat (first | apply Kd.R_alloc | apply Kd.R_drewN | apply Kd.R_drew)); exact HO250.out) hb); have n7_ := Aside0.mk (below_step (by repeat (first | (with_reducible first | exact HB.out | apply below_alloc | apply pw_below_drewN | apply below_drew1) | exact HB.out)) hb); clear HO219; clear HO223; clear HO230; clear HO234; clear HO239; clear HO243; clear HO250; clear HB; have HO219 := n0_; have HO223 := n1_; have HO230 := n2_; have HO234 := n3_; have HO239 := n4_; have HO243 := n5_; have HO250 := n6_; have HB := n7_; clear n0_ n1_ n2_ n3_ n4_ n5_ n6_ n7_; (try clear hb); (try clear hb2); (try clear hk); (try clear hi)) | (go_at_call 33; (with_reducible refine (l01e.calls 4 1 t256 t257 _ A36.out).mono ?_); rintro e w63 ⟨rfl, hb⟩; have n0_ := Aside0.mk (Kd.R_below (by (with_reducible repeat (first | apply Kd.R_alloc | apply Kd.R_drewN | apply Kd.R_drew)); exact HO219.out) hb); have n1_ := Aside0.mk (Kd.R_below (by (with_reducible repeat (first | apply Kd.R_alloc | apply Kd.R_drewN | apply Kd.R_drew)); exact HO223.out) hb); have n2_ := Aside0.mk (Kd.R_below (by (with_reducible repeat (first | apply Kd.R_alloc | apply Kd.R_drewN | apply Kd.R_drew)); exact HO230.out) hb); have n3_ := Aside0.mk (Kd.R_below (by (with_reducible repeat (first | apply Kd.R_alloc | apply Kd.R_drewN | apply Kd.R_drew)); exact HO234.out) hb); have n4_ := Aside0.mk (Kd.R_below (by (with_reducible repeat (first | apply Kd.R_alloc | apply Kd.R_drewN | apply Kd.R_drew)); exact HO239.out) hb); have n5_ := Aside0.mk (Kd.R_below (by (with_reducible repeat (first | apply Kd.R_alloc | apply Kd.R_drewN | apply Kd.R_drew)); exact HO243.out) hb); have n6_ := Aside0.mk (Kd.R_below (by (with_reducible repeat (first | apply Kd.R_alloc | apply Kd.R_drewN | apply Kd.R_drew)); exact HO250.out) hb); have n7_ := Aside0.mk (below_step (by repeat (first | (with_reducible first | exact HB.out | apply below_alloc | apply pw_below_drewN | apply below_drew1) | exact HB.out)) hb); clear HO219; clear HO223; clear HO230; clear HO234; clear HO239; clear HO243; clear HO250; clear HB; have HO219 := n0_; have HO223 := n1_; have HO230 := n2_; have HO234 := n3_; have HO239 := n4_; have HO243 := n5_; have HO250 := n6_; have HB := n7_; clear n0_ n1_ n2_ n3_ n4_ n5_ n6_ n7_; (try clear hb); (try clear hb2); (try clear hk); (try clear hi)) | (go_at_call 33; (with_reducible refine (l01e.calls 10 2 t258 t259 _ A37.out).mono ?_); rintro e w64 ⟨rfl, hb⟩; have n0_ := Aside0.mk (Kd.R_below (by (with_reducible repeat (first | apply Kd.R_alloc | apply Kd.R_drewN | apply Kd.R_drew)); exact HO219.out) hb); have n1_ := Aside0.mk (Kd.R_below (by (with_reducible repeat (first | apply Kd.R_alloc | apply Kd.R_drewN | apply Kd.R_drew)); exact HO223.out) hb); have n2_ := Aside0.mk (Kd.R_below (by (with_reducible repeat (first | apply Kd.R_alloc | apply Kd.R_drewN | apply Kd.R_drew)); exact HO230.out) hb); have n3_ := Aside0.mk (Kd.R_below (by (with_reducible repeat (first | apply Kd.R_alloc | apply Kd.R_drewN | apply Kd.R_drew)); exact HO234.out) hb); have n4_ := Aside0.mk (Kd.R_below (by (with_reducible repeat (first | apply Kd.R_alloc | apply Kd.R_drewN | apply Kd.R_drew)); exact HO239.out) hb); have n5_ := Aside0.mk (Kd.R_below (by (with_reducible repeat (first | apply Kd.R_alloc | apply Kd.R_drewN | apply Kd.R_drew)); exact HO243.out) hb); have n6_ := Aside0.mk (Kd.R_below (by (with_reducible repeat (first | apply Kd.R_alloc | apply Kd.R_drewN | apply Kd.R_drew)); exact HO250.out) hb); have n7_ := Aside0.mk (below_step (by repeat (first | (with_reducible first | exact HB.out | apply below_alloc | apply pw_below_drewN | apply below_drew1) | exact HB.out)) hb); clear HO219; clear HO223; clear HO230; clear HO234; clear HO239; clear HO243; clear HO250; clear HB; have HO219 := n0_; have HO223 := n1_; have HO230 := n2_; have HO234 := n3_; have HO239 := n4_; have HO243 := n5_; have HO250 := n6_; have HB := n7_; clear n0_ n1_ n2_ n3_ n4_ n5_ n6_ n7_; (try clear hb); (try clear hb2); (try clear hk); (try clear hi)) | ((with_reducible refine gate_dst (N := 44) rfl ?_); (try (refine gate_guard (by rfl) ?_; dsimp only)); refine Kd.R_lit k40 _ 40 ?hg (N := 44) ?hd (xs := ([(⟨t252, t253⟩ : S40), (⟨t254, t255⟩ : S40), (⟨t256, t257⟩ : S40), (⟨t258, t259⟩ : S40)] : List (S40))) (inner := [.int .i64 t252, .int .i64 t253, .int .i64 t254, .int .i64 t255, .int .i64 t256, .int .i64 t257, .int .i64 t258, .int .i64 t259]) (ok := fun _ => True) (okp := fun _ => True) ?hr ?hp (fun _ hk => hk) trivial (Below.refl _ _) (Nat.le_refl _) (by simp) ?_; (case hd => rfl); (case hg => rfl); (case hr => first | (go_simp; done) | (go_simp; rfl)); (case hp => exact (Reps.c2 (show Kd.M k40 _ _ _ (⟨t252, t253⟩ : S40) [.int .i64 t252, .int .i64 t253] from (k40_mkM _ _ _ (⟨t252, t253⟩ : S40) )) (Reps.c2 (show Kd.M k40 _ _ _ (⟨t254, t255⟩ : S40) [.int .i64 t254, .int .i64 t255] from (k40_mkM _ _ _ (⟨t254, t255⟩ : S40) )) (Reps.c2 (show Kd.M k40 _ _ _ (⟨t256, t257⟩ : S40) [.int .i64 t256, .int .i64 t257] from (k40_mkM _ _ _ (⟨t256, t257⟩ : S40) )) (Reps.c2 (show Kd.M k40 _ _ _ (⟨t258, t259⟩ : S40) [.int .i64 t258, .int .i64 t259] from (k40_mkM _ _ _ (⟨t258, t259⟩ : S40) )) (Reps.none _ _)))))); intro v261 w65 ho66 hb hg_ hnew_; clear hg_ hnew_; (first | rw [← Ny260.out] at ho66 | (simp only [Int.reduceToNat] at ho66; rw [← Ny260.out] at ho66)); have n0_ := Aside0.mk (Kd.R_elder' (by (with_reducible repeat (first | apply Kd.R_alloc | apply Kd.R_drewN | apply Kd.R_drew)); exact HO219.out) (Kd.R_base ho66) hb); have n1_ := Aside0.mk (Kd.R_elder' (by (with_reducible repeat (first | apply Kd.R_alloc | apply Kd.R_drewN | apply Kd.R_drew)); exact HO223.out) (Kd.R_base ho66) hb); have n2_ := Aside0.mk (Kd.R_elder' (by (with_reducible repeat (first | apply Kd.R_alloc | apply Kd.R_drewN | apply Kd.R_drew)); exact HO230.out) (Kd.R_base ho66) hb); have n3_ := Aside0.mk (Kd.R_elder' (by (with_reducible repeat (first | apply Kd.R_alloc | apply Kd.R_drewN | apply Kd.R_drew)); exact HO234.out) (Kd.R_base ho66) hb); have n4_ := Aside0.mk (Kd.R_elder' (by (with_reducible repeat (first | apply Kd.R_alloc | apply Kd.R_drewN | apply Kd.R_drew)); exact HO239.out) (Kd.R_base ho66) hb); have n5_ := Aside0.mk (Kd.R_elder' (by (with_reducible repeat (first | apply Kd.R_alloc | apply Kd.R_drewN | apply Kd.R_drew)); exact HO243.out) (Kd.R_base ho66) hb); have n6_ := Aside0.mk (Kd.R_elder' (by (with_reducible repeat (first | apply Kd.R_alloc | apply Kd.R_drewN | apply Kd.R_drew)); exact HO250.out) (Kd.R_base ho66) hb); have n7_ := Aside0.mk (Kd.R_lower (Kd.R_new' (Kd.R_new' (Kd.R_new' (Kd.R_new' (Kd.R_new' (Kd.R_new' (Kd.R_new' ho66 (Kd.R_lt (by (with_reducible repeat (first | apply Kd.R_alloc | apply Kd.R_drewN | apply Kd.R_drew)); exact HO219.out))) (Kd.R_lt (by (with_reducible repeat (first | apply Kd.R_alloc | apply Kd.R_drewN | apply Kd.R_drew)); exact HO223.out))) (Kd.R_lt (by (with_reducible repeat (first | apply Kd.R_alloc | apply Kd.R_drewN | apply Kd.R_drew)); exact HO230.out))) (Kd.R_lt (by (with_reducible repeat (first | apply Kd.R_alloc | apply Kd.R_drewN | apply Kd.R_drew)); exact HO234.out))) (Kd.R_lt (by (with_reducible repeat (first | apply Kd.R_alloc | apply Kd.R_drewN | apply Kd.R_drew)); exact HO239.out))) (Kd.R_lt (by (with_reducible repeat (first | apply Kd.R_alloc | apply Kd.R_drewN | apply Kd.R_drew)); exact HO243.out))) (Kd.R_lt (by (with_reducible repeat (first | apply Kd.R_alloc | apply Kd.R_drewN | apply Kd.R_drew)); exact HO250.out))) (below_size (by repeat (first | (with_reducible first | exact HB.out | apply below_alloc | apply pw_below_drewN | apply below_drew1) | exact HB.out)))); have n8_ := Aside0.mk (below_step (by repeat (first | (with_reducible first | exact HB.out | apply below_alloc | apply pw_below_drewN | apply below_drew1) | exact HB.out)) hb); clear HO219; clear HO223; clear HO230; clear HO234; clear HO239; clear HO243; clear HO250; clear HB; have HO219 := n0_; have HO223 := n1_; have HO230 := n2_; have HO234 := n3_; have HO239 := n4_; have HO243 := n5_; have HO250 := n6_; have HO262 := n7_; have HB := n8_; clear n0_ n1_ n2_ n3_ n4_ n5_ n6_ n7_ n8_; clear hb ho66; obtain ⟨Ao67, co67, eo67⟩ := Kd.R_slice HO234.out; subst eo67; obtain ⟨Ao68, co68, eo68⟩ := Kd.R_slice HO262.out; subst eo68) | (go_at_call 18; (with_reducible refine (r01Same.calls k _ _ t231 _ _ y260 true _ ?side1 ?side2 ?side3 ?side4 A38.out).mono ?_); (case side1 => repeat (first | exact (Kd.R_reads' HO234.out).2.2 | (with_reducible refine Kd.C_alloc ?_ _) | (with_reducible refine Kd.C_drewN ?_ _) | (with_reducible refine Kd.C_drew ?_))); (case side2 => exact (Kd.R_reads' HO234.out).2.1); (case side3 => repeat (first | exact (Kd.R_reads' HO262.out).2.2 | (with_reducible refine Kd.C_alloc ?_ _) | (with_reducible refine Kd.C_drewN ?_ _) | (with_reducible refine Kd.C_drew ?_))); (case side4 => exact (Kd.R_reads' HO262.out).2.1); rintro e w' ⟨rfl, ⟨nd, rfl⟩⟩))
            go_meet
            case rel => exact ⟨_, (false), (by first | rfl | (simp; done) | (simp [*]; done)), H', ⟨by first | omega | exact Nat.le_refl _⟩, ⟨by (with_reducible repeat (first | apply Kd.R_alloc | apply Kd.R_drewN | apply Kd.R_drew)); exact Kd.R_mono HO223.out (fun _ hk => trivial)⟩, ⟨by repeat (first | (with_reducible first | exact HB.out | apply below_alloc | apply pw_below_drewN | apply below_drew1) | exact HB.out)⟩⟩
        · replace c39 := Bool.eq_false_iff.mpr c39
          subst c39
          have H1 : (l01awake.j0 k t220 false) = some r := by rw [if_neg (show ¬ (false = true) by decide)] at H; exact H
          clear H
          have H := H1
          clear H1
          have H' := Aside0.mk H
          clear H
          go_wp2_with (first | ((with_reducible refine gate_callee (f := 33) rfl ?_); refine goesL_ (some 30) rfl rfl Try.func33 (by kernel_rfl) rfl #[.int .i64 0, .int .i64 2] rfl (by (try simp only [List.map_toArray, List.map_cons, List.map_nil]); first | done | rfl | (simp only [List.length_drop, List.length_take]; rfl)) ?_; (with_reducible refine (l01e.calls 0 2 t244 t245 _ A29.out).mono ?_); rintro e w69 ⟨rfl, hb⟩; refine ⟨_, rfl, ?_⟩; have n0_ := Aside0.mk (Kd.R_below (by (with_reducible repeat (first | apply Kd.R_alloc | apply Kd.R_drewN | apply Kd.R_drew)); exact HO219.out) hb); have n1_ := Aside0.mk (Kd.R_below (by (with_reducible repeat (first | apply Kd.R_alloc | apply Kd.R_drewN | apply Kd.R_drew)); exact HO223.out) hb); have n2_ := Aside0.mk (Kd.R_below (by (with_reducible repeat (first | apply Kd.R_alloc | apply Kd.R_drewN | apply Kd.R_drew)); exact HO230.out) hb); have n3_ := Aside0.mk (Kd.R_below (by (with_reducible repeat (first | apply Kd.R_alloc | apply Kd.R_drewN | apply Kd.R_drew)); exact HO234.out) hb); have n4_ := Aside0.mk (Kd.R_below (by (with_reducible repeat (first | apply Kd.R_alloc | apply Kd.R_drewN | apply Kd.R_drew)); exact HO239.out) hb); have n5_ := Aside0.mk (Kd.R_below (by (with_reducible repeat (first | apply Kd.R_alloc | apply Kd.R_drewN | apply Kd.R_drew)); exact HO243.out) hb); have n6_ := Aside0.mk (below_step (by repeat (first | (with_reducible first | exact HB.out | apply below_alloc | apply pw_below_drewN | apply below_drew1) | exact HB.out)) hb); clear HO219; clear HO223; clear HO230; clear HO234; clear HO239; clear HO243; clear HB; have HO219 := n0_; have HO223 := n1_; have HO230 := n2_; have HO234 := n3_; have HO239 := n4_; have HO243 := n5_; have HB := n6_; clear n0_ n1_ n2_ n3_ n4_ n5_ n6_; (try clear hb); (try clear hb2); (try clear hk); (try clear hi)) | ((with_reducible refine gate_callee (f := 33) rfl ?_); refine goesL_ (some 31) rfl rfl Try.func33 (by kernel_rfl) rfl #[.int .i64 5, .int .i64 6] rfl (by (try simp only [List.map_toArray, List.map_cons, List.map_nil]); first | done | rfl | (simp only [List.length_drop, List.length_take]; rfl)) ?_; (with_reducible refine (l01e.calls 5 6 t246 t247 _ A30.out).mono ?_); rintro e w70 ⟨rfl, hb⟩; refine ⟨_, rfl, ?_⟩; have n0_ := Aside0.mk (Kd.R_below (by (with_reducible repeat (first | apply Kd.R_alloc | apply Kd.R_drewN | apply Kd.R_drew)); exact HO219.out) hb); have n1_ := Aside0.mk (Kd.R_below (by (with_reducible repeat (first | apply Kd.R_alloc | apply Kd.R_drewN | apply Kd.R_drew)); exact HO223.out) hb); have n2_ := Aside0.mk (Kd.R_below (by (with_reducible repeat (first | apply Kd.R_alloc | apply Kd.R_drewN | apply Kd.R_drew)); exact HO230.out) hb); have n3_ := Aside0.mk (Kd.R_below (by (with_reducible repeat (first | apply Kd.R_alloc | apply Kd.R_drewN | apply Kd.R_drew)); exact HO234.out) hb); have n4_ := Aside0.mk (Kd.R_below (by (with_reducible repeat (first | apply Kd.R_alloc | apply Kd.R_drewN | apply Kd.R_drew)); exact HO239.out) hb); have n5_ := Aside0.mk (Kd.R_below (by (with_reducible repeat (first | apply Kd.R_alloc | apply Kd.R_drewN | apply Kd.R_drew)); exact HO243.out) hb); have n6_ := Aside0.mk (below_step (by repeat (first | (with_reducible first | exact HB.out | apply below_alloc | apply pw_below_drewN | apply below_drew1) | exact HB.out)) hb); clear HO219; clear HO223; clear HO230; clear HO234; clear HO239; clear HO243; clear HB; have HO219 := n0_; have HO223 := n1_; have HO230 := n2_; have HO234 := n3_; have HO239 := n4_; have HO243 := n5_; have HB := n6_; clear n0_ n1_ n2_ n3_ n4_ n5_ n6_; (try clear hb); (try clear hb2); (try clear hk); (try clear hi)) | ((with_reducible refine gate_dst (N := 32) rfl ?_); (try (refine gate_guard (by rfl) ?_; dsimp only)); refine Kd.R_lit k40 _ 40 ?hg (N := 32) ?hd (xs := ([(⟨t244, t245⟩ : S40), (⟨t246, t247⟩ : S40)] : List (S40))) (inner := [.int .i64 t244, .int .i64 t245, .int .i64 t246, .int .i64 t247]) (ok := fun _ => True) (okp := fun _ => True) ?hr ?hp (fun _ hk => hk) trivial (Below.refl _ _) (Nat.le_refl _) (by simp) ?_; (case hd => rfl); (case hg => rfl); (case hr => first | (go_simp; done) | (go_simp; rfl)); (case hp => exact (Reps.c2 (show Kd.M k40 _ _ _ (⟨t244, t245⟩ : S40) [.int .i64 t244, .int .i64 t245] from (k40_mkM _ _ _ (⟨t244, t245⟩ : S40) )) (Reps.c2 (show Kd.M k40 _ _ _ (⟨t246, t247⟩ : S40) [.int .i64 t246, .int .i64 t247] from (k40_mkM _ _ _ (⟨t246, t247⟩ : S40) )) (Reps.none _ _)))); intro v249 w71 ho72 hb hg_ hnew_; clear hg_ hnew_; (first | rw [← Ny248.out] at ho72 | (simp only [Int.reduceToNat] at ho72; rw [← Ny248.out] at ho72)); have n0_ := Aside0.mk (Kd.R_elder' (by (with_reducible repeat (first | apply Kd.R_alloc | apply Kd.R_drewN | apply Kd.R_drew)); exact HO219.out) (Kd.R_base ho72) hb); have n1_ := Aside0.mk (Kd.R_elder' (by (with_reducible repeat (first | apply Kd.R_alloc | apply Kd.R_drewN | apply Kd.R_drew)); exact HO223.out) (Kd.R_base ho72) hb); have n2_ := Aside0.mk (Kd.R_elder' (by (with_reducible repeat (first | apply Kd.R_alloc | apply Kd.R_drewN | apply Kd.R_drew)); exact HO230.out) (Kd.R_base ho72) hb); have n3_ := Aside0.mk (Kd.R_elder' (by (with_reducible repeat (first | apply Kd.R_alloc | apply Kd.R_drewN | apply Kd.R_drew)); exact HO234.out) (Kd.R_base ho72) hb); have n4_ := Aside0.mk (Kd.R_elder' (by (with_reducible repeat (first | apply Kd.R_alloc | apply Kd.R_drewN | apply Kd.R_drew)); exact HO239.out) (Kd.R_base ho72) hb); have n5_ := Aside0.mk (Kd.R_elder' (by (with_reducible repeat (first | apply Kd.R_alloc | apply Kd.R_drewN | apply Kd.R_drew)); exact HO243.out) (Kd.R_base ho72) hb); have n6_ := Aside0.mk (Kd.R_lower (Kd.R_new' (Kd.R_new' (Kd.R_new' (Kd.R_new' (Kd.R_new' (Kd.R_new' ho72 (Kd.R_lt (by (with_reducible repeat (first | apply Kd.R_alloc | apply Kd.R_drewN | apply Kd.R_drew)); exact HO219.out))) (Kd.R_lt (by (with_reducible repeat (first | apply Kd.R_alloc | apply Kd.R_drewN | apply Kd.R_drew)); exact HO223.out))) (Kd.R_lt (by (with_reducible repeat (first | apply Kd.R_alloc | apply Kd.R_drewN | apply Kd.R_drew)); exact HO230.out))) (Kd.R_lt (by (with_reducible repeat (first | apply Kd.R_alloc | apply Kd.R_drewN | apply Kd.R_drew)); exact HO234.out))) (Kd.R_lt (by (with_reducible repeat (first | apply Kd.R_alloc | apply Kd.R_drewN | apply Kd.R_drew)); exact HO239.out))) (Kd.R_lt (by (with_reducible repeat (first | apply Kd.R_alloc | apply Kd.R_drewN | apply Kd.R_drew)); exact HO243.out))) (below_size (by repeat (first | (with_reducible first | exact HB.out | apply below_alloc | apply pw_below_drewN | apply below_drew1) | exact HB.out)))); have n7_ := Aside0.mk (below_step (by repeat (first | (with_reducible first | exact HB.out | apply below_alloc | apply pw_below_drewN | apply below_drew1) | exact HB.out)) hb); clear HO219; clear HO223; clear HO230; clear HO234; clear HO239; clear HO243; clear HB; have HO219 := n0_; have HO223 := n1_; have HO230 := n2_; have HO234 := n3_; have HO239 := n4_; have HO243 := n5_; have HO250 := n6_; have HB := n7_; clear n0_ n1_ n2_ n3_ n4_ n5_ n6_ n7_; clear hb ho72; obtain ⟨Ao73, co73, eo73⟩ := Kd.R_slice HO223.out; subst eo73; obtain ⟨Ao74, co74, eo74⟩ := Kd.R_slice HO250.out; subst eo74) | ((with_reducible refine gate_callee (f := 18) rfl ?_); refine goesL_ (some 33) rfl rfl Try.func18 (by kernel_rfl) rfl #[.slice Ao73 t220.length co73, .slice Ao74 y248.length co74] rfl (by (try simp only [List.map_toArray, List.map_cons, List.map_nil]); first | done | rfl | (simp only [List.length_drop, List.length_take]; rfl)) ?_; (with_reducible refine (r01Same.calls k _ _ t220 _ _ y248 true _ ?side1 ?side2 ?side3 ?side4 A31.out).mono ?_); (case side1 => repeat (first | exact (Kd.R_reads' HO223.out).2.2 | (with_reducible refine Kd.C_alloc ?_ _) | (with_reducible refine Kd.C_drewN ?_ _) | (with_reducible refine Kd.C_drew ?_))); (case side2 => exact (Kd.R_reads' HO223.out).2.1); (case side3 => repeat (first | exact (Kd.R_reads' HO250.out).2.2 | (with_reducible refine Kd.C_alloc ?_ _) | (with_reducible refine Kd.C_drewN ?_ _) | (with_reducible refine Kd.C_drew ?_))); (case side4 => exact (Kd.R_reads' HO250.out).2.1); rintro e w' ⟨rfl, ⟨nd, rfl⟩⟩; refine ⟨_, rfl, ?_⟩) | (go_at_call 33; (with_reducible refine (l01e.calls 0 2 t252 t253 _ A34.out).mono ?_); rintro e w75 ⟨rfl, hb⟩; have n0_ := Aside0.mk (Kd.R_below (by (with_reducible repeat (first | apply Kd.R_alloc | apply Kd.R_drewN | apply Kd.R_drew)); exact HO219.out) hb); have n1_ := Aside0.mk (Kd.R_below (by (with_reducible repeat (first | apply Kd.R_alloc | apply Kd.R_drewN | apply Kd.R_drew)); exact HO223.out) hb); have n2_ := Aside0.mk (Kd.R_below (by (with_reducible repeat (first | apply Kd.R_alloc | apply Kd.R_drewN | apply Kd.R_drew)); exact HO230.out) hb); have n3_ := Aside0.mk (Kd.R_below (by (with_reducible repeat (first | apply Kd.R_alloc | apply Kd.R_drewN | apply Kd.R_drew)); exact HO234.out) hb); have n4_ := Aside0.mk (Kd.R_below (by (with_reducible repeat (first | apply Kd.R_alloc | apply Kd.R_drewN | apply Kd.R_drew)); exact HO239.out) hb); have n5_ := Aside0.mk (Kd.R_below (by (with_reducible repeat (first | apply Kd.R_alloc | apply Kd.R_drewN | apply Kd.R_drew)); exact HO243.out) hb); have n6_ := Aside0.mk (Kd.R_below (by (with_reducible repeat (first | apply Kd.R_alloc | apply Kd.R_drewN | apply Kd.R_drew)); exact HO250.out) hb); have n7_ := Aside0.mk (below_step (by repeat (first | (with_reducible first | exact HB.out | apply below_alloc | apply pw_below_drewN | apply below_drew1) | exact HB.out)) hb); clear HO219; clear HO223; clear HO230; clear HO234; clear HO239; clear HO243; clear HO250; clear HB; have HO219 := n0_; have HO223 := n1_; have HO230 := n2_; have HO234 := n3_; have HO239 := n4_; have HO243 := n5_; have HO250 := n6_; have HB := n7_; clear n0_ n1_ n2_ n3_ n4_ n5_ n6_ n7_; (try clear hb); (try clear hb2); (try clear hk); (try clear hi)) | (go_at_call 33; (with_reducible refine (l01e.calls 2 2 t254 t255 _ A35.out).mono ?_); rintro e w76 ⟨rfl, hb⟩; have n0_ := Aside0.mk (Kd.R_below (by (with_reducible repeat (first | apply Kd.R_alloc | apply Kd.R_drewN | apply Kd.R_drew)); exact HO219.out) hb); have n1_ := Aside0.mk (Kd.R_below (by (with_reducible repeat (first | apply Kd.R_alloc | apply Kd.R_drewN | apply Kd.R_drew)); exact HO223.out) hb); have n2_ := Aside0.mk (Kd.R_below (by (with_reducible repeat (first | apply Kd.R_alloc | apply Kd.R_drewN | apply Kd.R_drew)); exact HO230.out) hb); have n3_ := Aside0.mk (Kd.R_below (by (with_reducible repeat (first | apply Kd.R_alloc | apply Kd.R_drewN | apply Kd.R_drew)); exact HO234.out) hb); have n4_ := Aside0.mk (Kd.R_below (by (with_reducible repeat (first | apply Kd.R_alloc | apply Kd.R_drewN | apply Kd.R_drew)); exact HO239.out) hb); have n5_ := Aside0.mk (Kd.R_below (by (with_reducible repeat (first | apply Kd.R_alloc | apply Kd.R_drewN | apply Kd.R_drew)); exact HO243.out) hb); have n6_ := Aside0.mk (Kd.R_below (by (with_reducible repeat (first | apply Kd.R_alloc | apply Kd.R_drewN | apply Kd.R_drew)); exact HO250.out) hb); have n7_ := Aside0.mk (below_step (by repeat (first | (with_reducible first | exact HB.out | apply below_alloc | apply pw_below_drewN | apply below_drew1) | exact HB.out)) hb); clear HO219; clear HO223; clear HO230; clear HO234; clear HO239; clear HO243; clear HO250; clear HB; have HO219 := n0_; have HO223 := n1_; have HO230 := n2_; have HO234 := n3_; have HO239 := n4_; have HO243 := n5_; have HO250 := n6_; have HB := n7_; clear n0_ n1_ n2_ n3_ n4_ n5_ n6_ n7_; (try clear hb); (try clear hb2); (try clear hk); (try clear hi)) | (go_at_call 33; (with_reducible refine (l01e.calls 4 1 t256 t257 _ A36.out).mono ?_); rintro e w77 ⟨rfl, hb⟩; have n0_ := Aside0.mk (Kd.R_below (by (with_reducible repeat (first | apply Kd.R_alloc | apply Kd.R_drewN | apply Kd.R_drew)); exact HO219.out) hb); have n1_ := Aside0.mk (Kd.R_below (by (with_reducible repeat (first | apply Kd.R_alloc | apply Kd.R_drewN | apply Kd.R_drew)); exact HO223.out) hb); have n2_ := Aside0.mk (Kd.R_below (by (with_reducible repeat (first | apply Kd.R_alloc | apply Kd.R_drewN | apply Kd.R_drew)); exact HO230.out) hb); have n3_ := Aside0.mk (Kd.R_below (by (with_reducible repeat (first | apply Kd.R_alloc | apply Kd.R_drewN | apply Kd.R_drew)); exact HO234.out) hb); have n4_ := Aside0.mk (Kd.R_below (by (with_reducible repeat (first | apply Kd.R_alloc | apply Kd.R_drewN | apply Kd.R_drew)); exact HO239.out) hb); have n5_ := Aside0.mk (Kd.R_below (by (with_reducible repeat (first | apply Kd.R_alloc | apply Kd.R_drewN | apply Kd.R_drew)); exact HO243.out) hb); have n6_ := Aside0.mk (Kd.R_below (by (with_reducible repeat (first | apply Kd.R_alloc | apply Kd.R_drewN | apply Kd.R_drew)); exact HO250.out) hb); have n7_ := Aside0.mk (below_step (by repeat (first | (with_reducible first | exact HB.out | apply below_alloc | apply pw_below_drewN | apply below_drew1) | exact HB.out)) hb); clear HO219; clear HO223; clear HO230; clear HO234; clear HO239; clear HO243; clear HO250; clear HB; have HO219 := n0_; have HO223 := n1_; have HO230 := n2_; have HO234 := n3_; have HO239 := n4_; have HO243 := n5_; have HO250 := n6_; have HB := n7_; clear n0_ n1_ n2_ n3_ n4_ n5_ n6_ n7_; (try clear hb); (try clear hb2); (try clear hk); (try clear hi)) | (go_at_call 33; (with_reducible refine (l01e.calls 10 2 t258 t259 _ A37.out).mono ?_); rintro e w78 ⟨rfl, hb⟩; have n0_ := Aside0.mk (Kd.R_below (by (with_reducible repeat (first | apply Kd.R_alloc | apply Kd.R_drewN | apply Kd.R_drew)); exact HO219.out) hb); have n1_ := Aside0.mk (Kd.R_below (by (with_reducible repeat (first | apply Kd.R_alloc | apply Kd.R_drewN | apply Kd.R_drew)); exact HO223.out) hb); have n2_ := Aside0.mk (Kd.R_below (by (with_reducible repeat (first | apply Kd.R_alloc | apply Kd.R_drewN | apply Kd.R_drew)); exact HO230.out) hb); have n3_ := Aside0.mk (Kd.R_below (by (with_reducible repeat (first | apply Kd.R_alloc | apply Kd.R_drewN | apply Kd.R_drew)); exact HO234.out) hb); have n4_ := Aside0.mk (Kd.R_below (by (with_reducible repeat (first | apply Kd.R_alloc | apply Kd.R_drewN | apply Kd.R_drew)); exact HO239.out) hb); have n5_ := Aside0.mk (Kd.R_below (by (with_reducible repeat (first | apply Kd.R_alloc | apply Kd.R_drewN | apply Kd.R_drew)); exact HO243.out) hb); have n6_ := Aside0.mk (Kd.R_below (by (with_reducible repeat (first | apply Kd.R_alloc | apply Kd.R_drewN | apply Kd.R_drew)); exact HO250.out) hb); have n7_ := Aside0.mk (below_step (by repeat (first | (with_reducible first | exact HB.out | apply below_alloc | apply pw_below_drewN | apply below_drew1) | exact HB.out)) hb); clear HO219; clear HO223; clear HO230; clear HO234; clear HO239; clear HO243; clear HO250; clear HB; have HO219 := n0_; have HO223 := n1_; have HO230 := n2_; have HO234 := n3_; have HO239 := n4_; have HO243 := n5_; have HO250 := n6_; have HB := n7_; clear n0_ n1_ n2_ n3_ n4_ n5_ n6_ n7_; (try clear hb); (try clear hb2); (try clear hk); (try clear hi)) | ((with_reducible refine gate_dst (N := 44) rfl ?_); (try (refine gate_guard (by rfl) ?_; dsimp only)); refine Kd.R_lit k40 _ 40 ?hg (N := 44) ?hd (xs := ([(⟨t252, t253⟩ : S40), (⟨t254, t255⟩ : S40), (⟨t256, t257⟩ : S40), (⟨t258, t259⟩ : S40)] : List (S40))) (inner := [.int .i64 t252, .int .i64 t253, .int .i64 t254, .int .i64 t255, .int .i64 t256, .int .i64 t257, .int .i64 t258, .int .i64 t259]) (ok := fun _ => True) (okp := fun _ => True) ?hr ?hp (fun _ hk => hk) trivial (Below.refl _ _) (Nat.le_refl _) (by simp) ?_; (case hd => rfl); (case hg => rfl); (case hr => first | (go_simp; done) | (go_simp; rfl)); (case hp => exact (Reps.c2 (show Kd.M k40 _ _ _ (⟨t252, t253⟩ : S40) [.int .i64 t252, .int .i64 t253] from (k40_mkM _ _ _ (⟨t252, t253⟩ : S40) )) (Reps.c2 (show Kd.M k40 _ _ _ (⟨t254, t255⟩ : S40) [.int .i64 t254, .int .i64 t255] from (k40_mkM _ _ _ (⟨t254, t255⟩ : S40) )) (Reps.c2 (show Kd.M k40 _ _ _ (⟨t256, t257⟩ : S40) [.int .i64 t256, .int .i64 t257] from (k40_mkM _ _ _ (⟨t256, t257⟩ : S40) )) (Reps.c2 (show Kd.M k40 _ _ _ (⟨t258, t259⟩ : S40) [.int .i64 t258, .int .i64 t259] from (k40_mkM _ _ _ (⟨t258, t259⟩ : S40) )) (Reps.none _ _)))))); intro v261 w79 ho80 hb hg_ hnew_; clear hg_ hnew_; (first | rw [← Ny260.out] at ho80 | (simp only [Int.reduceToNat] at ho80; rw [← Ny260.out] at ho80)); have n0_ := Aside0.mk (Kd.R_elder' (by (with_reducible repeat (first | apply Kd.R_alloc | apply Kd.R_drewN | apply Kd.R_drew)); exact HO219.out) (Kd.R_base ho80) hb); have n1_ := Aside0.mk (Kd.R_elder' (by (with_reducible repeat (first | apply Kd.R_alloc | apply Kd.R_drewN | apply Kd.R_drew)); exact HO223.out) (Kd.R_base ho80) hb); have n2_ := Aside0.mk (Kd.R_elder' (by (with_reducible repeat (first | apply Kd.R_alloc | apply Kd.R_drewN | apply Kd.R_drew)); exact HO230.out) (Kd.R_base ho80) hb); have n3_ := Aside0.mk (Kd.R_elder' (by (with_reducible repeat (first | apply Kd.R_alloc | apply Kd.R_drewN | apply Kd.R_drew)); exact HO234.out) (Kd.R_base ho80) hb); have n4_ := Aside0.mk (Kd.R_elder' (by (with_reducible repeat (first | apply Kd.R_alloc | apply Kd.R_drewN | apply Kd.R_drew)); exact HO239.out) (Kd.R_base ho80) hb); have n5_ := Aside0.mk (Kd.R_elder' (by (with_reducible repeat (first | apply Kd.R_alloc | apply Kd.R_drewN | apply Kd.R_drew)); exact HO243.out) (Kd.R_base ho80) hb); have n6_ := Aside0.mk (Kd.R_elder' (by (with_reducible repeat (first | apply Kd.R_alloc | apply Kd.R_drewN | apply Kd.R_drew)); exact HO250.out) (Kd.R_base ho80) hb); have n7_ := Aside0.mk (Kd.R_lower (Kd.R_new' (Kd.R_new' (Kd.R_new' (Kd.R_new' (Kd.R_new' (Kd.R_new' (Kd.R_new' ho80 (Kd.R_lt (by (with_reducible repeat (first | apply Kd.R_alloc | apply Kd.R_drewN | apply Kd.R_drew)); exact HO219.out))) (Kd.R_lt (by (with_reducible repeat (first | apply Kd.R_alloc | apply Kd.R_drewN | apply Kd.R_drew)); exact HO223.out))) (Kd.R_lt (by (with_reducible repeat (first | apply Kd.R_alloc | apply Kd.R_drewN | apply Kd.R_drew)); exact HO230.out))) (Kd.R_lt (by (with_reducible repeat (first | apply Kd.R_alloc | apply Kd.R_drewN | apply Kd.R_drew)); exact HO234.out))) (Kd.R_lt (by (with_reducible repeat (first | apply Kd.R_alloc | apply Kd.R_drewN | apply Kd.R_drew)); exact HO239.out))) (Kd.R_lt (by (with_reducible repeat (first | apply Kd.R_alloc | apply Kd.R_drewN | apply Kd.R_drew)); exact HO243.out))) (Kd.R_lt (by (with_reducible repeat (first | apply Kd.R_alloc | apply Kd.R_drewN | apply Kd.R_drew)); exact HO250.out))) (below_size (by repeat (first | (with_reducible first | exact HB.out | apply below_alloc | apply pw_below_drewN | apply below_drew1) | exact HB.out)))); have n8_ := Aside0.mk (below_step (by repeat (first | (with_reducible first | exact HB.out | apply below_alloc | apply pw_below_drewN | apply below_drew1) | exact HB.out)) hb); clear HO219; clear HO223; clear HO230; clear HO234; clear HO239; clear HO243; clear HO250; clear HB; have HO219 := n0_; have HO223 := n1_; have HO230 := n2_; have HO234 := n3_; have HO239 := n4_; have HO243 := n5_; have HO250 := n6_; have HO262 := n7_; have HB := n8_; clear n0_ n1_ n2_ n3_ n4_ n5_ n6_ n7_ n8_; clear hb ho80; obtain ⟨Ao81, co81, eo81⟩ := Kd.R_slice HO234.out; subst eo81; obtain ⟨Ao82, co82, eo82⟩ := Kd.R_slice HO262.out; subst eo82) | (go_at_call 18; (with_reducible refine (r01Same.calls k _ _ t231 _ _ y260 false _ ?side1 ?side2 ?side3 ?side4 A38.out).mono ?_); (case side1 => repeat (first | exact (Kd.R_reads' HO234.out).2.2 | (with_reducible refine Kd.C_alloc ?_ _) | (with_reducible refine Kd.C_drewN ?_ _) | (with_reducible refine Kd.C_drew ?_))); (case side2 => exact (Kd.R_reads' HO234.out).2.1); (case side3 => repeat (first | exact (Kd.R_reads' HO262.out).2.2 | (with_reducible refine Kd.C_alloc ?_ _) | (with_reducible refine Kd.C_drewN ?_ _) | (with_reducible refine Kd.C_drew ?_))); (case side4 => exact (Kd.R_reads' HO262.out).2.1); rintro e w' ⟨rfl, ⟨nd, rfl⟩⟩))
          go_meet
          case rel => exact ⟨_, (false), (by first | rfl | (simp; done) | (simp [*]; done)), H', ⟨by first | omega | exact Nat.le_refl _⟩, ⟨by (with_reducible repeat (first | apply Kd.R_alloc | apply Kd.R_drewN | apply Kd.R_drew)); exact Kd.R_mono HO223.out (fun _ hk => trivial)⟩, ⟨by repeat (first | (with_reducible first | exact HB.out | apply below_alloc | apply pw_below_drewN | apply below_drew1) | exact HB.out)⟩⟩
      · rw [if_neg c33] at H
        have c33b0 : (t221 == 0) = false := beq_eq_false_iff_ne.mpr c33
        have c33b1 : (t221 != 0) = true := bne_iff_ne.mpr c33
        (first | rw [c33b0] | (simp only [i64_w, i32_w]; rw [c33b0]) | skip)
        have H' := Aside0.mk H
        clear H
        go_wp2_with (first | ((with_reducible refine gate_callee (f := 33) rfl ?_); refine goesL_ (some 30) rfl rfl Try.func33 (by kernel_rfl) rfl #[.int .i64 0, .int .i64 2] rfl (by (try simp only [List.map_toArray, List.map_cons, List.map_nil]); first | done | rfl | (simp only [List.length_drop, List.length_take]; rfl)) ?_; (with_reducible refine (l01e.calls 0 2 t244 t245 _ A29.out).mono ?_); rintro e w83 ⟨rfl, hb⟩; refine ⟨_, rfl, ?_⟩; have n0_ := Aside0.mk (Kd.R_below (by (with_reducible repeat (first | apply Kd.R_alloc | apply Kd.R_drewN | apply Kd.R_drew)); exact HO219.out) hb); have n1_ := Aside0.mk (Kd.R_below (by (with_reducible repeat (first | apply Kd.R_alloc | apply Kd.R_drewN | apply Kd.R_drew)); exact HO223.out) hb); have n2_ := Aside0.mk (Kd.R_below (by (with_reducible repeat (first | apply Kd.R_alloc | apply Kd.R_drewN | apply Kd.R_drew)); exact HO230.out) hb); have n3_ := Aside0.mk (Kd.R_below (by (with_reducible repeat (first | apply Kd.R_alloc | apply Kd.R_drewN | apply Kd.R_drew)); exact HO234.out) hb); have n4_ := Aside0.mk (Kd.R_below (by (with_reducible repeat (first | apply Kd.R_alloc | apply Kd.R_drewN | apply Kd.R_drew)); exact HO239.out) hb); have n5_ := Aside0.mk (Kd.R_below (by (with_reducible repeat (first | apply Kd.R_alloc | apply Kd.R_drewN | apply Kd.R_drew)); exact HO243.out) hb); have n6_ := Aside0.mk (below_step (by repeat (first | (with_reducible first | exact HB.out | apply below_alloc | apply pw_below_drewN | apply below_drew1) | exact HB.out)) hb); clear HO219; clear HO223; clear HO230; clear HO234; clear HO239; clear HO243; clear HB; have HO219 := n0_; have HO223 := n1_; have HO230 := n2_; have HO234 := n3_; have HO239 := n4_; have HO243 := n5_; have HB := n6_; clear n0_ n1_ n2_ n3_ n4_ n5_ n6_; (try clear hb); (try clear hb2); (try clear hk); (try clear hi)) | ((with_reducible refine gate_callee (f := 33) rfl ?_); refine goesL_ (some 31) rfl rfl Try.func33 (by kernel_rfl) rfl #[.int .i64 5, .int .i64 6] rfl (by (try simp only [List.map_toArray, List.map_cons, List.map_nil]); first | done | rfl | (simp only [List.length_drop, List.length_take]; rfl)) ?_; (with_reducible refine (l01e.calls 5 6 t246 t247 _ A30.out).mono ?_); rintro e w84 ⟨rfl, hb⟩; refine ⟨_, rfl, ?_⟩; have n0_ := Aside0.mk (Kd.R_below (by (with_reducible repeat (first | apply Kd.R_alloc | apply Kd.R_drewN | apply Kd.R_drew)); exact HO219.out) hb); have n1_ := Aside0.mk (Kd.R_below (by (with_reducible repeat (first | apply Kd.R_alloc | apply Kd.R_drewN | apply Kd.R_drew)); exact HO223.out) hb); have n2_ := Aside0.mk (Kd.R_below (by (with_reducible repeat (first | apply Kd.R_alloc | apply Kd.R_drewN | apply Kd.R_drew)); exact HO230.out) hb); have n3_ := Aside0.mk (Kd.R_below (by (with_reducible repeat (first | apply Kd.R_alloc | apply Kd.R_drewN | apply Kd.R_drew)); exact HO234.out) hb); have n4_ := Aside0.mk (Kd.R_below (by (with_reducible repeat (first | apply Kd.R_alloc | apply Kd.R_drewN | apply Kd.R_drew)); exact HO239.out) hb); have n5_ := Aside0.mk (Kd.R_below (by (with_reducible repeat (first | apply Kd.R_alloc | apply Kd.R_drewN | apply Kd.R_drew)); exact HO243.out) hb); have n6_ := Aside0.mk (below_step (by repeat (first | (with_reducible first | exact HB.out | apply below_alloc | apply pw_below_drewN | apply below_drew1) | exact HB.out)) hb); clear HO219; clear HO223; clear HO230; clear HO234; clear HO239; clear HO243; clear HB; have HO219 := n0_; have HO223 := n1_; have HO230 := n2_; have HO234 := n3_; have HO239 := n4_; have HO243 := n5_; have HB := n6_; clear n0_ n1_ n2_ n3_ n4_ n5_ n6_; (try clear hb); (try clear hb2); (try clear hk); (try clear hi)) | ((with_reducible refine gate_dst (N := 32) rfl ?_); (try (refine gate_guard (by rfl) ?_; dsimp only)); refine Kd.R_lit k40 _ 40 ?hg (N := 32) ?hd (xs := ([(⟨t244, t245⟩ : S40), (⟨t246, t247⟩ : S40)] : List (S40))) (inner := [.int .i64 t244, .int .i64 t245, .int .i64 t246, .int .i64 t247]) (ok := fun _ => True) (okp := fun _ => True) ?hr ?hp (fun _ hk => hk) trivial (Below.refl _ _) (Nat.le_refl _) (by simp) ?_; (case hd => rfl); (case hg => rfl); (case hr => first | (go_simp; done) | (go_simp; rfl)); (case hp => exact (Reps.c2 (show Kd.M k40 _ _ _ (⟨t244, t245⟩ : S40) [.int .i64 t244, .int .i64 t245] from (k40_mkM _ _ _ (⟨t244, t245⟩ : S40) )) (Reps.c2 (show Kd.M k40 _ _ _ (⟨t246, t247⟩ : S40) [.int .i64 t246, .int .i64 t247] from (k40_mkM _ _ _ (⟨t246, t247⟩ : S40) )) (Reps.none _ _)))); intro v249 w85 ho86 hb hg_ hnew_; clear hg_ hnew_; (first | rw [← Ny248.out] at ho86 | (simp only [Int.reduceToNat] at ho86; rw [← Ny248.out] at ho86)); have n0_ := Aside0.mk (Kd.R_elder' (by (with_reducible repeat (first | apply Kd.R_alloc | apply Kd.R_drewN | apply Kd.R_drew)); exact HO219.out) (Kd.R_base ho86) hb); have n1_ := Aside0.mk (Kd.R_elder' (by (with_reducible repeat (first | apply Kd.R_alloc | apply Kd.R_drewN | apply Kd.R_drew)); exact HO223.out) (Kd.R_base ho86) hb); have n2_ := Aside0.mk (Kd.R_elder' (by (with_reducible repeat (first | apply Kd.R_alloc | apply Kd.R_drewN | apply Kd.R_drew)); exact HO230.out) (Kd.R_base ho86) hb); have n3_ := Aside0.mk (Kd.R_elder' (by (with_reducible repeat (first | apply Kd.R_alloc | apply Kd.R_drewN | apply Kd.R_drew)); exact HO234.out) (Kd.R_base ho86) hb); have n4_ := Aside0.mk (Kd.R_elder' (by (with_reducible repeat (first | apply Kd.R_alloc | apply Kd.R_drewN | apply Kd.R_drew)); exact HO239.out) (Kd.R_base ho86) hb); have n5_ := Aside0.mk (Kd.R_elder' (by (with_reducible repeat (first | apply Kd.R_alloc | apply Kd.R_drewN | apply Kd.R_drew)); exact HO243.out) (Kd.R_base ho86) hb); have n6_ := Aside0.mk (Kd.R_lower (Kd.R_new' (Kd.R_new' (Kd.R_new' (Kd.R_new' (Kd.R_new' (Kd.R_new' ho86 (Kd.R_lt (by (with_reducible repeat (first | apply Kd.R_alloc | apply Kd.R_drewN | apply Kd.R_drew)); exact HO219.out))) (Kd.R_lt (by (with_reducible repeat (first | apply Kd.R_alloc | apply Kd.R_drewN | apply Kd.R_drew)); exact HO223.out))) (Kd.R_lt (by (with_reducible repeat (first | apply Kd.R_alloc | apply Kd.R_drewN | apply Kd.R_drew)); exact HO230.out))) (Kd.R_lt (by (with_reducible repeat (first | apply Kd.R_alloc | apply Kd.R_drewN | apply Kd.R_drew)); exact HO234.out))) (Kd.R_lt (by (with_reducible repeat (first | apply Kd.R_alloc | apply Kd.R_drewN | apply Kd.R_drew)); exact HO239.out))) (Kd.R_lt (by (with_reducible repeat (first | apply Kd.R_alloc | apply Kd.R_drewN | apply Kd.R_drew)); exact HO243.out))) (below_size (by repeat (first | (with_reducible first | exact HB.out | apply below_alloc | apply pw_below_drewN | apply below_drew1) | exact HB.out)))); have n7_ := Aside0.mk (below_step (by repeat (first | (with_reducible first | exact HB.out | apply below_alloc | apply pw_below_drewN | apply below_drew1) | exact HB.out)) hb); clear HO219; clear HO223; clear HO230; clear HO234; clear HO239; clear HO243; clear HB; have HO219 := n0_; have HO223 := n1_; have HO230 := n2_; have HO234 := n3_; have HO239 := n4_; have HO243 := n5_; have HO250 := n6_; have HB := n7_; clear n0_ n1_ n2_ n3_ n4_ n5_ n6_ n7_; clear hb ho86; obtain ⟨Ao87, co87, eo87⟩ := Kd.R_slice HO223.out; subst eo87; obtain ⟨Ao88, co88, eo88⟩ := Kd.R_slice HO250.out; subst eo88) | ((with_reducible refine gate_callee (f := 18) rfl ?_); refine goesL_ (some 33) rfl rfl Try.func18 (by kernel_rfl) rfl #[.slice Ao87 t220.length co87, .slice Ao88 y248.length co88] rfl (by (try simp only [List.map_toArray, List.map_cons, List.map_nil]); first | done | rfl | (simp only [List.length_drop, List.length_take]; rfl)) ?_; (with_reducible refine (r01Same.calls k _ _ t220 _ _ y248 true _ ?side1 ?side2 ?side3 ?side4 A31.out).mono ?_); (case side1 => repeat (first | exact (Kd.R_reads' HO223.out).2.2 | (with_reducible refine Kd.C_alloc ?_ _) | (with_reducible refine Kd.C_drewN ?_ _) | (with_reducible refine Kd.C_drew ?_))); (case side2 => exact (Kd.R_reads' HO223.out).2.1); (case side3 => repeat (first | exact (Kd.R_reads' HO250.out).2.2 | (with_reducible refine Kd.C_alloc ?_ _) | (with_reducible refine Kd.C_drewN ?_ _) | (with_reducible refine Kd.C_drew ?_))); (case side4 => exact (Kd.R_reads' HO250.out).2.1); rintro e w' ⟨rfl, ⟨nd, rfl⟩⟩; refine ⟨_, rfl, ?_⟩))
        go_meet
        case rel => exact ⟨_, (false), (by first | rfl | (simp; done) | (simp [*]; done)), H', ⟨by first | omega | exact Nat.le_refl _⟩, ⟨by (with_reducible repeat (first | apply Kd.R_alloc | apply Kd.R_drewN | apply Kd.R_drew)); exact Kd.R_mono HO223.out (fun _ hk => trivial)⟩, ⟨by repeat (first | (with_reducible first | exact HB.out | apply below_alloc | apply pw_below_drewN | apply below_drew1) | exact HB.out)⟩⟩
    · replace c32 := Bool.eq_false_iff.mpr c32
      subst c32
      have H1 : (l01awake.j0 k t220 false) = some r := by rw [if_neg (show ¬ (false = true) by decide)] at H; exact H
      clear H
      have H := H1
      clear H1
      have H' := Aside0.mk H
      clear H
      go_wp2_with (first | ((with_reducible refine gate_callee (f := 33) rfl ?_); refine goesL_ (some 30) rfl rfl Try.func33 (by kernel_rfl) rfl #[.int .i64 0, .int .i64 2] rfl (by (try simp only [List.map_toArray, List.map_cons, List.map_nil]); first | done | rfl | (simp only [List.length_drop, List.length_take]; rfl)) ?_; (with_reducible refine (l01e.calls 0 2 t244 t245 _ A29.out).mono ?_); rintro e w89 ⟨rfl, hb⟩; refine ⟨_, rfl, ?_⟩; have n0_ := Aside0.mk (Kd.R_below (by (with_reducible repeat (first | apply Kd.R_alloc | apply Kd.R_drewN | apply Kd.R_drew)); exact HO219.out) hb); have n1_ := Aside0.mk (Kd.R_below (by (with_reducible repeat (first | apply Kd.R_alloc | apply Kd.R_drewN | apply Kd.R_drew)); exact HO223.out) hb); have n2_ := Aside0.mk (Kd.R_below (by (with_reducible repeat (first | apply Kd.R_alloc | apply Kd.R_drewN | apply Kd.R_drew)); exact HO230.out) hb); have n3_ := Aside0.mk (Kd.R_below (by (with_reducible repeat (first | apply Kd.R_alloc | apply Kd.R_drewN | apply Kd.R_drew)); exact HO234.out) hb); have n4_ := Aside0.mk (Kd.R_below (by (with_reducible repeat (first | apply Kd.R_alloc | apply Kd.R_drewN | apply Kd.R_drew)); exact HO239.out) hb); have n5_ := Aside0.mk (Kd.R_below (by (with_reducible repeat (first | apply Kd.R_alloc | apply Kd.R_drewN | apply Kd.R_drew)); exact HO243.out) hb); have n6_ := Aside0.mk (below_step (by repeat (first | (with_reducible first | exact HB.out | apply below_alloc | apply pw_below_drewN | apply below_drew1) | exact HB.out)) hb); clear HO219; clear HO223; clear HO230; clear HO234; clear HO239; clear HO243; clear HB; have HO219 := n0_; have HO223 := n1_; have HO230 := n2_; have HO234 := n3_; have HO239 := n4_; have HO243 := n5_; have HB := n6_; clear n0_ n1_ n2_ n3_ n4_ n5_ n6_; (try clear hb); (try clear hb2); (try clear hk); (try clear hi)) | ((with_reducible refine gate_callee (f := 33) rfl ?_); refine goesL_ (some 31) rfl rfl Try.func33 (by kernel_rfl) rfl #[.int .i64 5, .int .i64 6] rfl (by (try simp only [List.map_toArray, List.map_cons, List.map_nil]); first | done | rfl | (simp only [List.length_drop, List.length_take]; rfl)) ?_; (with_reducible refine (l01e.calls 5 6 t246 t247 _ A30.out).mono ?_); rintro e w90 ⟨rfl, hb⟩; refine ⟨_, rfl, ?_⟩; have n0_ := Aside0.mk (Kd.R_below (by (with_reducible repeat (first | apply Kd.R_alloc | apply Kd.R_drewN | apply Kd.R_drew)); exact HO219.out) hb); have n1_ := Aside0.mk (Kd.R_below (by (with_reducible repeat (first | apply Kd.R_alloc | apply Kd.R_drewN | apply Kd.R_drew)); exact HO223.out) hb); have n2_ := Aside0.mk (Kd.R_below (by (with_reducible repeat (first | apply Kd.R_alloc | apply Kd.R_drewN | apply Kd.R_drew)); exact HO230.out) hb); have n3_ := Aside0.mk (Kd.R_below (by (with_reducible repeat (first | apply Kd.R_alloc | apply Kd.R_drewN | apply Kd.R_drew)); exact HO234.out) hb); have n4_ := Aside0.mk (Kd.R_below (by (with_reducible repeat (first | apply Kd.R_alloc | apply Kd.R_drewN | apply Kd.R_drew)); exact HO239.out) hb); have n5_ := Aside0.mk (Kd.R_below (by (with_reducible repeat (first | apply Kd.R_alloc | apply Kd.R_drewN | apply Kd.R_drew)); exact HO243.out) hb); have n6_ := Aside0.mk (below_step (by repeat (first | (with_reducible first | exact HB.out | apply below_alloc | apply pw_below_drewN | apply below_drew1) | exact HB.out)) hb); clear HO219; clear HO223; clear HO230; clear HO234; clear HO239; clear HO243; clear HB; have HO219 := n0_; have HO223 := n1_; have HO230 := n2_; have HO234 := n3_; have HO239 := n4_; have HO243 := n5_; have HB := n6_; clear n0_ n1_ n2_ n3_ n4_ n5_ n6_; (try clear hb); (try clear hb2); (try clear hk); (try clear hi)) | ((with_reducible refine gate_dst (N := 32) rfl ?_); (try (refine gate_guard (by rfl) ?_; dsimp only)); refine Kd.R_lit k40 _ 40 ?hg (N := 32) ?hd (xs := ([(⟨t244, t245⟩ : S40), (⟨t246, t247⟩ : S40)] : List (S40))) (inner := [.int .i64 t244, .int .i64 t245, .int .i64 t246, .int .i64 t247]) (ok := fun _ => True) (okp := fun _ => True) ?hr ?hp (fun _ hk => hk) trivial (Below.refl _ _) (Nat.le_refl _) (by simp) ?_; (case hd => rfl); (case hg => rfl); (case hr => first | (go_simp; done) | (go_simp; rfl)); (case hp => exact (Reps.c2 (show Kd.M k40 _ _ _ (⟨t244, t245⟩ : S40) [.int .i64 t244, .int .i64 t245] from (k40_mkM _ _ _ (⟨t244, t245⟩ : S40) )) (Reps.c2 (show Kd.M k40 _ _ _ (⟨t246, t247⟩ : S40) [.int .i64 t246, .int .i64 t247] from (k40_mkM _ _ _ (⟨t246, t247⟩ : S40) )) (Reps.none _ _)))); intro v249 w91 ho92 hb hg_ hnew_; clear hg_ hnew_; (first | rw [← Ny248.out] at ho92 | (simp only [Int.reduceToNat] at ho92; rw [← Ny248.out] at ho92)); have n0_ := Aside0.mk (Kd.R_elder' (by (with_reducible repeat (first | apply Kd.R_alloc | apply Kd.R_drewN | apply Kd.R_drew)); exact HO219.out) (Kd.R_base ho92) hb); have n1_ := Aside0.mk (Kd.R_elder' (by (with_reducible repeat (first | apply Kd.R_alloc | apply Kd.R_drewN | apply Kd.R_drew)); exact HO223.out) (Kd.R_base ho92) hb); have n2_ := Aside0.mk (Kd.R_elder' (by (with_reducible repeat (first | apply Kd.R_alloc | apply Kd.R_drewN | apply Kd.R_drew)); exact HO230.out) (Kd.R_base ho92) hb); have n3_ := Aside0.mk (Kd.R_elder' (by (with_reducible repeat (first | apply Kd.R_alloc | apply Kd.R_drewN | apply Kd.R_drew)); exact HO234.out) (Kd.R_base ho92) hb); have n4_ := Aside0.mk (Kd.R_elder' (by (with_reducible repeat (first | apply Kd.R_alloc | apply Kd.R_drewN | apply Kd.R_drew)); exact HO239.out) (Kd.R_base ho92) hb); have n5_ := Aside0.mk (Kd.R_elder' (by (with_reducible repeat (first | apply Kd.R_alloc | apply Kd.R_drewN | apply Kd.R_drew)); exact HO243.out) (Kd.R_base ho92) hb); have n6_ := Aside0.mk (Kd.R_lower (Kd.R_new' (Kd.R_new' (Kd.R_new' (Kd.R_new' (Kd.R_new' (Kd.R_new' ho92 (Kd.R_lt (by (with_reducible repeat (first | apply Kd.R_alloc | apply Kd.R_drewN | apply Kd.R_drew)); exact HO219.out))) (Kd.R_lt (by (with_reducible repeat (first | apply Kd.R_alloc | apply Kd.R_drewN | apply Kd.R_drew)); exact HO223.out))) (Kd.R_lt (by (with_reducible repeat (first | apply Kd.R_alloc | apply Kd.R_drewN | apply Kd.R_drew)); exact HO230.out))) (Kd.R_lt (by (with_reducible repeat (first | apply Kd.R_alloc | apply Kd.R_drewN | apply Kd.R_drew)); exact HO234.out))) (Kd.R_lt (by (with_reducible repeat (first | apply Kd.R_alloc | apply Kd.R_drewN | apply Kd.R_drew)); exact HO239.out))) (Kd.R_lt (by (with_reducible repeat (first | apply Kd.R_alloc | apply Kd.R_drewN | apply Kd.R_drew)); exact HO243.out))) (below_size (by repeat (first | (with_reducible first | exact HB.out | apply below_alloc | apply pw_below_drewN | apply below_drew1) | exact HB.out)))); have n7_ := Aside0.mk (below_step (by repeat (first | (with_reducible first | exact HB.out | apply below_alloc | apply pw_below_drewN | apply below_drew1) | exact HB.out)) hb); clear HO219; clear HO223; clear HO230; clear HO234; clear HO239; clear HO243; clear HB; have HO219 := n0_; have HO223 := n1_; have HO230 := n2_; have HO234 := n3_; have HO239 := n4_; have HO243 := n5_; have HO250 := n6_; have HB := n7_; clear n0_ n1_ n2_ n3_ n4_ n5_ n6_ n7_; clear hb ho92; obtain ⟨Ao93, co93, eo93⟩ := Kd.R_slice HO223.out; subst eo93; obtain ⟨Ao94, co94, eo94⟩ := Kd.R_slice HO250.out; subst eo94) | ((with_reducible refine gate_callee (f := 18) rfl ?_); refine goesL_ (some 33) rfl rfl Try.func18 (by kernel_rfl) rfl #[.slice Ao93 t220.length co93, .slice Ao94 y248.length co94] rfl (by (try simp only [List.map_toArray, List.map_cons, List.map_nil]); first | done | rfl | (simp only [List.length_drop, List.length_take]; rfl)) ?_; (with_reducible refine (r01Same.calls k _ _ t220 _ _ y248 false _ ?side1 ?side2 ?side3 ?side4 A31.out).mono ?_); (case side1 => repeat (first | exact (Kd.R_reads' HO223.out).2.2 | (with_reducible refine Kd.C_alloc ?_ _) | (with_reducible refine Kd.C_drewN ?_ _) | (with_reducible refine Kd.C_drew ?_))); (case side2 => exact (Kd.R_reads' HO223.out).2.1); (case side3 => repeat (first | exact (Kd.R_reads' HO250.out).2.2 | (with_reducible refine Kd.C_alloc ?_ _) | (with_reducible refine Kd.C_drewN ?_ _) | (with_reducible refine Kd.C_drew ?_))); (case side4 => exact (Kd.R_reads' HO250.out).2.1); rintro e w' ⟨rfl, ⟨nd, rfl⟩⟩; refine ⟨_, rfl, ?_⟩))
      go_meet
      case rel => exact ⟨_, (false), (by first | rfl | (simp; done) | (simp [*]; done)), H', ⟨by first | omega | exact Nat.le_refl _⟩, ⟨by (with_reducible repeat (first | apply Kd.R_alloc | apply Kd.R_drewN | apply Kd.R_drew)); exact Kd.R_mono HO223.out (fun _ hk => trivial)⟩, ⟨by repeat (first | (with_reducible first | exact HB.out | apply below_alloc | apply pw_below_drewN | apply below_drew1) | exact HB.out)⟩⟩
  case rest =>
    clear HC10
    try clear c1
    try clear c2
    try clear p2
    try clear c3
    try clear c4
    try clear c13
    try clear c16
    try clear c18
    try clear c23
    try clear c32
    try clear c33
    try clear c33b0
    try clear c33b1
    try clear c39
    try clear c40
    try clear c40b0
    try clear c40b1
    obtain ⟨kq, x7_9, rfl, HA, HJ9, HO_1, HB⟩ := hcut
    cases kq with
    | zero => exact absurd HA.out (by simp [l01awake.j0])
    | succ kj9 =>
      have H := HA.out
      clear HA
      simp only [l01awake.j0] at H
      have HC95 := Aside0.mk H
      clear H
      go_upto_region 5 with (fail)
      go_cut [7] (fun v7 wc => ∃ (kq : Nat) (x7_94 : Bool), v7 = .bool x7_94 ∧ Aside0 (l01awake.j1 kq t220 x7_94 = some r) ∧ Aside0 (kq ≤ kj9) ∧ Aside0 (Kd.R k40 40 wc w.heap.size (fun _ => True) v222 t220) ∧ Aside0 (Below w.heap.size w wc))
      case first =>
        have H := HC95.out
        clear HC95
        by_cases c96 : x7_9 = true
        · subst c96
          have H1 : ((xCheck.f kj9 t220 11).bind fun t264 => (if t264 = 0 then ((xCheck.f kj9 t220 10).bind fun t265 => (if t265 = 2 then ((l01e.f 0 2).bind fun bt266 => ((l01e.f 2 1).bind fun bt268 => ((xCheck.f kj9 (([(⟨bt266.1, bt266.2⟩ : S40), (⟨bt268.1, bt268.2⟩ : S40)] : List (S40))) 5).bind fun t273 => (l01awake.j1 kj9 t220 (t273 == 3))))) else (l01awake.j1 kj9 t220 false))) else (l01awake.j1 kj9 t220 false))) = some r := by rw [if_pos rfl] at H; exact H
          clear H
          have H := H1
          clear H1
          replace H := Option.bind_eq_some_iff.mp H
          obtain ⟨t264, A970, H⟩ := H
          replace H : (if t264 = 0 then ((xCheck.f kj9 t220 10).bind fun t265 => (if t265 = 2 then ((l01e.f 0 2).bind fun bt266 => ((l01e.f 2 1).bind fun bt268 => ((xCheck.f kj9 (([(⟨bt266.1, bt266.2⟩ : S40), (⟨bt268.1, bt268.2⟩ : S40)] : List (S40))) 5).bind fun t273 => (l01awake.j1 kj9 t220 (t273 == 3))))) else (l01awake.j1 kj9 t220 false))) else (l01awake.j1 kj9 t220 false)) = some r := H
          have A97 := Aside0.mk A970
          clear A970
          by_cases c98 : t264 = 0
          · rw [if_pos c98] at H
            have c98b0 : (t264 == 0) = true := beq_iff_eq.mpr c98
            have c98b1 : (t264 != 0) = false := bne_eq_false_iff_eq.mpr c98
            clear c98
            (first | rw [c98b0] | (simp only [i64_w, i32_w]; rw [c98b0]) | skip)
            replace H := Option.bind_eq_some_iff.mp H
            obtain ⟨t265, A990, H⟩ := H
            replace H : (if t265 = 2 then ((l01e.f 0 2).bind fun bt266 => ((l01e.f 2 1).bind fun bt268 => ((xCheck.f kj9 (([(⟨bt266.1, bt266.2⟩ : S40), (⟨bt268.1, bt268.2⟩ : S40)] : List (S40))) 5).bind fun t273 => (l01awake.j1 kj9 t220 (t273 == 3))))) else (l01awake.j1 kj9 t220 false)) = some r := H
            have A99 := Aside0.mk A990
            clear A990
            by_cases c100 : t265 = 2
            · rw [if_pos c100] at H
              have c100b0 : (t265 == 2) = true := beq_iff_eq.mpr c100
              have c100b1 : (t265 != 2) = false := bne_eq_false_iff_eq.mpr c100
              clear c100
              replace H := Option.bind_eq_some_iff.mp H
              obtain ⟨⟨t266, t267⟩, A1010, H⟩ := H
              replace H : ((l01e.f 2 1).bind fun bt268 => ((xCheck.f kj9 (([(⟨t266, t267⟩ : S40), (⟨bt268.1, bt268.2⟩ : S40)] : List (S40))) 5).bind fun t273 => (l01awake.j1 kj9 t220 (t273 == 3)))) = some r := H
              have A101 := Aside0.mk A1010
              clear A1010
              replace H := Option.bind_eq_some_iff.mp H
              obtain ⟨⟨t268, t269⟩, A1020, H⟩ := H
              replace H : ((xCheck.f kj9 (([(⟨t266, t267⟩ : S40), (⟨t268, t269⟩ : S40)] : List (S40))) 5).bind fun t273 => (l01awake.j1 kj9 t220 (t273 == 3))) = some r := H
              have A102 := Aside0.mk A1020
              clear A1020
              obtain ⟨y270, hy270⟩ : ∃ y_ : List (S40), y_ = (([(⟨t266, t267⟩ : S40), (⟨t268, t269⟩ : S40)] : List (S40))) := ⟨_, rfl⟩
              replace H : ((xCheck.f kj9 y270 5).bind fun t273 => (l01awake.j1 kj9 t220 (t273 == 3))) = some r := by first | (rw [hy270]; with_reducible exact H) | (have H2_ := (Option.bind_some _ _).symm.trans H; rw [hy270]; with_reducible exact H2_) | (have H2_ := (Option.bind_some _ _).symm.trans H; with_reducible exact H2_) | with_reducible exact H | (rw [hy270]; exact H) | exact H
              have Ny270 := Aside0.mk hy270
              clear hy270
              replace H := Option.bind_eq_some_iff.mp H
              obtain ⟨t273, A1030, H⟩ := H
              replace H : (l01awake.j1 kj9 t220 (t273 == 3)) = some r := H
              have A103 := Aside0.mk A1030
              clear A1030
              have H' := Aside0.mk H
              clear H
              obtain ⟨Ao104, co104, eo104⟩ := Kd.R_slice HO_1.out
              subst eo104
              go_wp2_with (first | (go_at_call 14; (with_reducible refine (xCheck.calls kj9 _ _ t220 11 t264 _ ?side1 ?side2 A97.out).mono ?_); (case side1 => repeat (first | exact (Kd.R_reads' HO_1.out).2.2 | (with_reducible refine Kd.C_alloc ?_ _) | (with_reducible refine Kd.C_drewN ?_ _) | (with_reducible refine Kd.C_drew ?_))); (case side2 => exact (Kd.R_reads' HO_1.out).2.1); rintro e w105 ⟨rfl, hb⟩; have n0_ := Aside0.mk (Kd.R_below (by (with_reducible repeat (first | apply Kd.R_alloc | apply Kd.R_drewN | apply Kd.R_drew)); exact HO_1.out) hb); have n1_ := Aside0.mk (below_step (by repeat (first | (with_reducible first | exact HB.out | apply below_alloc | apply pw_below_drewN | apply below_drew1) | exact HB.out)) hb); clear HO_1; clear HB; have HO_1 := n0_; have HB := n1_; clear n0_ n1_; (try clear hb); (try clear hb2); (try clear hk); (try clear hi)) | (go_at_call 14; (with_reducible refine (xCheck.calls kj9 _ _ t220 10 t265 _ ?side1 ?side2 A99.out).mono ?_); (case side1 => repeat (first | exact (Kd.R_reads' HO_1.out).2.2 | (with_reducible refine Kd.C_alloc ?_ _) | (with_reducible refine Kd.C_drewN ?_ _) | (with_reducible refine Kd.C_drew ?_))); (case side2 => exact (Kd.R_reads' HO_1.out).2.1); rintro e w106 ⟨rfl, hb⟩; have n0_ := Aside0.mk (Kd.R_below (by (with_reducible repeat (first | apply Kd.R_alloc | apply Kd.R_drewN | apply Kd.R_drew)); exact HO_1.out) hb); have n1_ := Aside0.mk (below_step (by repeat (first | (with_reducible first | exact HB.out | apply below_alloc | apply pw_below_drewN | apply below_drew1) | exact HB.out)) hb); clear HO_1; clear HB; have HO_1 := n0_; have HB := n1_; clear n0_ n1_; (try clear hb); (try clear hb2); (try clear hk); (try clear hi)) | (go_at_call 33; (with_reducible refine (l01e.calls 0 2 t266 t267 _ A101.out).mono ?_); rintro e w107 ⟨rfl, hb⟩; have n0_ := Aside0.mk (Kd.R_below (by (with_reducible repeat (first | apply Kd.R_alloc | apply Kd.R_drewN | apply Kd.R_drew)); exact HO_1.out) hb); have n1_ := Aside0.mk (below_step (by repeat (first | (with_reducible first | exact HB.out | apply below_alloc | apply pw_below_drewN | apply below_drew1) | exact HB.out)) hb); clear HO_1; clear HB; have HO_1 := n0_; have HB := n1_; clear n0_ n1_; (try clear hb); (try clear hb2); (try clear hk); (try clear hi)) | (go_at_call 33; (with_reducible refine (l01e.calls 2 1 t268 t269 _ A102.out).mono ?_); rintro e w108 ⟨rfl, hb⟩; have n0_ := Aside0.mk (Kd.R_below (by (with_reducible repeat (first | apply Kd.R_alloc | apply Kd.R_drewN | apply Kd.R_drew)); exact HO_1.out) hb); have n1_ := Aside0.mk (below_step (by repeat (first | (with_reducible first | exact HB.out | apply below_alloc | apply pw_below_drewN | apply below_drew1) | exact HB.out)) hb); clear HO_1; clear HB; have HO_1 := n0_; have HB := n1_; clear n0_ n1_; (try clear hb); (try clear hb2); (try clear hk); (try clear hi)) | ((with_reducible refine gate_dst (N := 69) rfl ?_); (try (refine gate_guard (by rfl) ?_; dsimp only)); refine Kd.R_lit k40 _ 40 ?hg (N := 69) ?hd (xs := ([(⟨t266, t267⟩ : S40), (⟨t268, t269⟩ : S40)] : List (S40))) (inner := [.int .i64 t266, .int .i64 t267, .int .i64 t268, .int .i64 t269]) (ok := fun _ => True) (okp := fun _ => True) ?hr ?hp (fun _ hk => hk) trivial (Below.refl _ _) (Nat.le_refl _) (by simp) ?_; (case hd => rfl); (case hg => rfl); (case hr => first | (go_simp; done) | (go_simp; rfl)); (case hp => exact (Reps.c2 (show Kd.M k40 _ _ _ (⟨t266, t267⟩ : S40) [.int .i64 t266, .int .i64 t267] from (k40_mkM _ _ _ (⟨t266, t267⟩ : S40) )) (Reps.c2 (show Kd.M k40 _ _ _ (⟨t268, t269⟩ : S40) [.int .i64 t268, .int .i64 t269] from (k40_mkM _ _ _ (⟨t268, t269⟩ : S40) )) (Reps.none _ _)))); intro v271 w109 ho110 hb hg_ hnew_; clear hg_ hnew_; (first | rw [← Ny270.out] at ho110 | (simp only [Int.reduceToNat] at ho110; rw [← Ny270.out] at ho110)); have n0_ := Aside0.mk (Kd.R_elder' (by (with_reducible repeat (first | apply Kd.R_alloc | apply Kd.R_drewN | apply Kd.R_drew)); exact HO_1.out) (Kd.R_base ho110) hb); have n1_ := Aside0.mk (Kd.R_lower (Kd.R_new' ho110 (Kd.R_lt (by (with_reducible repeat (first | apply Kd.R_alloc | apply Kd.R_drewN | apply Kd.R_drew)); exact HO_1.out))) (below_size (by repeat (first | (with_reducible first | exact HB.out | apply below_alloc | apply pw_below_drewN | apply below_drew1) | exact HB.out)))); have n2_ := Aside0.mk (below_step (by repeat (first | (with_reducible first | exact HB.out | apply below_alloc | apply pw_below_drewN | apply below_drew1) | exact HB.out)) hb); clear HO_1; clear HB; have HO_1 := n0_; have HO272 := n1_; have HB := n2_; clear n0_ n1_ n2_; clear hb ho110; obtain ⟨Ao111, co111, eo111⟩ := Kd.R_slice HO272.out; subst eo111) | (go_at_call 14; (with_reducible refine (xCheck.calls kj9 _ _ y270 5 t273 _ ?side1 ?side2 A103.out).mono ?_); (case side1 => repeat (first | exact (Kd.R_reads' HO272.out).2.2 | (with_reducible refine Kd.C_alloc ?_ _) | (with_reducible refine Kd.C_drewN ?_ _) | (with_reducible refine Kd.C_drew ?_))); (case side2 => exact (Kd.R_reads' HO272.out).2.1); rintro e w112 ⟨rfl, hb⟩; have n0_ := Aside0.mk (Kd.R_below (by (with_reducible repeat (first | apply Kd.R_alloc | apply Kd.R_drewN | apply Kd.R_drew)); exact HO_1.out) hb); have n1_ := Aside0.mk (Kd.R_below (by (with_reducible repeat (first | apply Kd.R_alloc | apply Kd.R_drewN | apply Kd.R_drew)); exact HO272.out) hb); have n2_ := Aside0.mk (below_step (by repeat (first | (with_reducible first | exact HB.out | apply below_alloc | apply pw_below_drewN | apply below_drew1) | exact HB.out)) hb); clear HO_1; clear HO272; clear HB; have HO_1 := n0_; have HO272 := n1_; have HB := n2_; clear n0_ n1_ n2_; (try clear hb); (try clear hb2); (try clear hk); (try clear hi)))
              go_meet
              case rel => exact ⟨_, ((t273 == 3)), (by first | rfl | (simp; done) | (simp [*]; done)), H', ⟨by have := HJ9.out; first | omega | exact Nat.le_refl _⟩, ⟨by (with_reducible repeat (first | apply Kd.R_alloc | apply Kd.R_drewN | apply Kd.R_drew)); exact Kd.R_mono HO_1.out (fun _ hk => trivial)⟩, ⟨by repeat (first | (with_reducible first | exact HB.out | apply below_alloc | apply pw_below_drewN | apply below_drew1) | exact HB.out)⟩⟩
            · rw [if_neg c100] at H
              have c100b0 : (t265 == 2) = false := beq_eq_false_iff_ne.mpr c100
              have c100b1 : (t265 != 2) = true := bne_iff_ne.mpr c100
              have H' := Aside0.mk H
              clear H
              obtain ⟨Ao113, co113, eo113⟩ := Kd.R_slice HO_1.out
              subst eo113
              go_wp2_with (first | (go_at_call 14; (with_reducible refine (xCheck.calls kj9 _ _ t220 11 t264 _ ?side1 ?side2 A97.out).mono ?_); (case side1 => repeat (first | exact (Kd.R_reads' HO_1.out).2.2 | (with_reducible refine Kd.C_alloc ?_ _) | (with_reducible refine Kd.C_drewN ?_ _) | (with_reducible refine Kd.C_drew ?_))); (case side2 => exact (Kd.R_reads' HO_1.out).2.1); rintro e w114 ⟨rfl, hb⟩; have n0_ := Aside0.mk (Kd.R_below (by (with_reducible repeat (first | apply Kd.R_alloc | apply Kd.R_drewN | apply Kd.R_drew)); exact HO_1.out) hb); have n1_ := Aside0.mk (below_step (by repeat (first | (with_reducible first | exact HB.out | apply below_alloc | apply pw_below_drewN | apply below_drew1) | exact HB.out)) hb); clear HO_1; clear HB; have HO_1 := n0_; have HB := n1_; clear n0_ n1_; (try clear hb); (try clear hb2); (try clear hk); (try clear hi)) | (go_at_call 14; (with_reducible refine (xCheck.calls kj9 _ _ t220 10 t265 _ ?side1 ?side2 A99.out).mono ?_); (case side1 => repeat (first | exact (Kd.R_reads' HO_1.out).2.2 | (with_reducible refine Kd.C_alloc ?_ _) | (with_reducible refine Kd.C_drewN ?_ _) | (with_reducible refine Kd.C_drew ?_))); (case side2 => exact (Kd.R_reads' HO_1.out).2.1); rintro e w115 ⟨rfl, hb⟩; have n0_ := Aside0.mk (Kd.R_below (by (with_reducible repeat (first | apply Kd.R_alloc | apply Kd.R_drewN | apply Kd.R_drew)); exact HO_1.out) hb); have n1_ := Aside0.mk (below_step (by repeat (first | (with_reducible first | exact HB.out | apply below_alloc | apply pw_below_drewN | apply below_drew1) | exact HB.out)) hb); clear HO_1; clear HB; have HO_1 := n0_; have HB := n1_; clear n0_ n1_; (try clear hb); (try clear hb2); (try clear hk); (try clear hi)))
              go_meet
              case rel => exact ⟨_, (false), (by first | rfl | (simp; done) | (simp [*]; done)), H', ⟨by have := HJ9.out; first | omega | exact Nat.le_refl _⟩, ⟨by (with_reducible repeat (first | apply Kd.R_alloc | apply Kd.R_drewN | apply Kd.R_drew)); exact HO_1.out⟩, ⟨by repeat (first | (with_reducible first | exact HB.out | apply below_alloc | apply pw_below_drewN | apply below_drew1) | exact HB.out)⟩⟩
          · rw [if_neg c98] at H
            have c98b0 : (t264 == 0) = false := beq_eq_false_iff_ne.mpr c98
            have c98b1 : (t264 != 0) = true := bne_iff_ne.mpr c98
            (first | rw [c98b0] | (simp only [i64_w, i32_w]; rw [c98b0]) | skip)
            have H' := Aside0.mk H
            clear H
            obtain ⟨Ao116, co116, eo116⟩ := Kd.R_slice HO_1.out
            subst eo116
            go_wp2_with (first | (go_at_call 14; (with_reducible refine (xCheck.calls kj9 _ _ t220 11 t264 _ ?side1 ?side2 A97.out).mono ?_); (case side1 => repeat (first | exact (Kd.R_reads' HO_1.out).2.2 | (with_reducible refine Kd.C_alloc ?_ _) | (with_reducible refine Kd.C_drewN ?_ _) | (with_reducible refine Kd.C_drew ?_))); (case side2 => exact (Kd.R_reads' HO_1.out).2.1); rintro e w117 ⟨rfl, hb⟩; have n0_ := Aside0.mk (Kd.R_below (by (with_reducible repeat (first | apply Kd.R_alloc | apply Kd.R_drewN | apply Kd.R_drew)); exact HO_1.out) hb); have n1_ := Aside0.mk (below_step (by repeat (first | (with_reducible first | exact HB.out | apply below_alloc | apply pw_below_drewN | apply below_drew1) | exact HB.out)) hb); clear HO_1; clear HB; have HO_1 := n0_; have HB := n1_; clear n0_ n1_; (try clear hb); (try clear hb2); (try clear hk); (try clear hi)))
            go_meet
            case rel => exact ⟨_, (false), (by first | rfl | (simp; done) | (simp [*]; done)), H', ⟨by have := HJ9.out; first | omega | exact Nat.le_refl _⟩, ⟨by (with_reducible repeat (first | apply Kd.R_alloc | apply Kd.R_drewN | apply Kd.R_drew)); exact HO_1.out⟩, ⟨by repeat (first | (with_reducible first | exact HB.out | apply below_alloc | apply pw_below_drewN | apply below_drew1) | exact HB.out)⟩⟩
        · replace c96 := Bool.eq_false_iff.mpr c96
          subst c96
          have H1 : (l01awake.j1 kj9 t220 false) = some r := by rw [if_neg (show ¬ (false = true) by decide)] at H; exact H
          clear H
          have H := H1
          clear H1
          have H' := Aside0.mk H
          clear H
          go_wp2
          go_meet
          case rel => exact ⟨_, (false), (by first | rfl | (simp; done) | (simp [*]; done)), H', ⟨by have := HJ9.out; first | omega | exact Nat.le_refl _⟩, ⟨by (with_reducible repeat (first | apply Kd.R_alloc | apply Kd.R_drewN | apply Kd.R_drew)); exact HO_1.out⟩, ⟨by repeat (first | (with_reducible first | exact HB.out | apply below_alloc | apply pw_below_drewN | apply below_drew1) | exact HB.out)⟩⟩
      case rest =>
        clear HC95
        try clear c1
        try clear c2
        try clear p2
        try clear c3
        try clear c4
        try clear c9
        try clear c10
        try clear c13
        try clear c16
        try clear c18
        try clear c23
        try clear c32
        try clear c33
        try clear c33b0
        try clear c33b1
        try clear c39
        try clear c40
        try clear c40b0
        try clear c40b1
        try clear c96
        try clear c98
        try clear c98b0
        try clear c98b1
        try clear c100
        try clear c100b0
        try clear c100b1
        try clear p2
        obtain ⟨kq, x7_94, rfl, HA, HJ94, HO_1, HB⟩ := hcut
        cases kq with
        | zero => exact absurd HA.out (by simp [l01awake.j1])
        | succ kj94 =>
          have H := HA.out
          clear HA
          simp only [l01awake.j1] at H
          have HC118 := Aside0.mk H
          clear H
          go_upto_region 6 with (fail)
          go_cut [7] (fun v7 wc => ∃ (kq : Nat) (x7_117 : Bool), v7 = .bool x7_117 ∧ Aside0 (l01awake.j2 kq t220 x7_117 = some r) ∧ Aside0 (kq ≤ kj94) ∧ Aside0 (Kd.R k40 40 wc w.heap.size (fun _ => True) v222 t220) ∧ Aside0 (Below w.heap.size w wc))
          case first =>
            have H := HC118.out
            clear HC118
            by_cases c119 : x7_94 = true
            · subst c119
              have H1 : ((l01e.f 0 2).bind fun bt274 => ((l01e.f 2 1).bind fun bt279 => ((xUnion.f (([(⟨bt274.1, bt274.2⟩ : S40)] : List (S40))) (([(⟨bt279.1, bt279.2⟩ : S40)] : List (S40)))).bind fun t284 => ((l01e.f 0 3).bind fun bt287 => ((r01Same.f kj94 t284 (([(⟨bt287.1, bt287.2⟩ : S40)] : List (S40)))).bind fun t292 => (l01awake.j2 kj94 t220 t292)))))) = some r := by rw [if_pos rfl] at H; exact H
              clear H
              have H := H1
              clear H1
              replace H := Option.bind_eq_some_iff.mp H
              obtain ⟨⟨t274, t275⟩, A1200, H⟩ := H
              replace H : ((l01e.f 2 1).bind fun bt279 => ((xUnion.f (([(⟨t274, t275⟩ : S40)] : List (S40))) (([(⟨bt279.1, bt279.2⟩ : S40)] : List (S40)))).bind fun t284 => ((l01e.f 0 3).bind fun bt287 => ((r01Same.f kj94 t284 (([(⟨bt287.1, bt287.2⟩ : S40)] : List (S40)))).bind fun t292 => (l01awake.j2 kj94 t220 t292))))) = some r := H
              have A120 := Aside0.mk A1200
              clear A1200
              obtain ⟨y276, hy276⟩ : ∃ y_ : List (S40), y_ = (([(⟨t274, t275⟩ : S40)] : List (S40))) := ⟨_, rfl⟩
              replace H : ((l01e.f 2 1).bind fun bt279 => ((xUnion.f y276 (([(⟨bt279.1, bt279.2⟩ : S40)] : List (S40)))).bind fun t284 => ((l01e.f 0 3).bind fun bt287 => ((r01Same.f kj94 t284 (([(⟨bt287.1, bt287.2⟩ : S40)] : List (S40)))).bind fun t292 => (l01awake.j2 kj94 t220 t292))))) = some r := by first | (rw [hy276]; with_reducible exact H) | (have H2_ := (Option.bind_some _ _).symm.trans H; rw [hy276]; with_reducible exact H2_) | (have H2_ := (Option.bind_some _ _).symm.trans H; with_reducible exact H2_) | with_reducible exact H | (rw [hy276]; exact H) | exact H
              have Ny276 := Aside0.mk hy276
              clear hy276
              replace H := Option.bind_eq_some_iff.mp H
              obtain ⟨⟨t279, t280⟩, A1210, H⟩ := H
              replace H : ((xUnion.f y276 (([(⟨t279, t280⟩ : S40)] : List (S40)))).bind fun t284 => ((l01e.f 0 3).bind fun bt287 => ((r01Same.f kj94 t284 (([(⟨bt287.1, bt287.2⟩ : S40)] : List (S40)))).bind fun t292 => (l01awake.j2 kj94 t220 t292)))) = some r := H
              have A121 := Aside0.mk A1210
              clear A1210
              obtain ⟨y281, hy281⟩ : ∃ y_ : List (S40), y_ = (([(⟨t279, t280⟩ : S40)] : List (S40))) := ⟨_, rfl⟩
              replace H : ((xUnion.f y276 y281).bind fun t284 => ((l01e.f 0 3).bind fun bt287 => ((r01Same.f kj94 t284 (([(⟨bt287.1, bt287.2⟩ : S40)] : List (S40)))).bind fun t292 => (l01awake.j2 kj94 t220 t292)))) = some r := by first | (rw [hy281]; with_reducible exact H) | (have H2_ := (Option.bind_some _ _).symm.trans H; rw [hy281]; with_reducible exact H2_) | (have H2_ := (Option.bind_some _ _).symm.trans H; with_reducible exact H2_) | with_reducible exact H | (rw [hy281]; exact H) | exact H
              have Ny281 := Aside0.mk hy281
              clear hy281
              replace H := Option.bind_eq_some_iff.mp H
              obtain ⟨t284, A1220, H⟩ := H
              replace H : ((l01e.f 0 3).bind fun bt287 => ((r01Same.f kj94 t284 (([(⟨bt287.1, bt287.2⟩ : S40)] : List (S40)))).bind fun t292 => (l01awake.j2 kj94 t220 t292))) = some r := H
              have A122 := Aside0.mk A1220
              clear A1220
              replace H := Option.bind_eq_some_iff.mp H
              obtain ⟨⟨t287, t288⟩, A1230, H⟩ := H
              replace H : ((r01Same.f kj94 t284 (([(⟨t287, t288⟩ : S40)] : List (S40)))).bind fun t292 => (l01awake.j2 kj94 t220 t292)) = some r := H
              have A123 := Aside0.mk A1230
              clear A1230
              obtain ⟨y289, hy289⟩ : ∃ y_ : List (S40), y_ = (([(⟨t287, t288⟩ : S40)] : List (S40))) := ⟨_, rfl⟩
              replace H : ((r01Same.f kj94 t284 y289).bind fun t292 => (l01awake.j2 kj94 t220 t292)) = some r := by first | (rw [hy289]; with_reducible exact H) | (have H2_ := (Option.bind_some _ _).symm.trans H; rw [hy289]; with_reducible exact H2_) | (have H2_ := (Option.bind_some _ _).symm.trans H; with_reducible exact H2_) | with_reducible exact H | (rw [hy289]; exact H) | exact H
              have Ny289 := Aside0.mk hy289
              clear hy289
              replace H := Option.bind_eq_some_iff.mp H
              obtain ⟨t292, A1240, H⟩ := H
              replace H : (l01awake.j2 kj94 t220 t292) = some r := H
              have A124 := Aside0.mk A1240
              clear A1240
              have H' := Aside0.mk H
              clear H
              go_wp2_with (first | (go_at_call 33; (with_reducible refine (l01e.calls 0 2 t274 t275 _ A120.out).mono ?_); rintro e w125 ⟨rfl, hb⟩; have n0_ := Aside0.mk (Kd.R_below (by (with_reducible repeat (first | apply Kd.R_alloc | apply Kd.R_drewN | apply Kd.R_drew)); exact HO_1.out) hb); have n1_ := Aside0.mk (below_step (by repeat (first | (with_reducible first | exact HB.out | apply below_alloc | apply pw_below_drewN | apply below_drew1) | exact HB.out)) hb); clear HO_1; clear HB; have HO_1 := n0_; have HB := n1_; clear n0_ n1_; (try clear hb); (try clear hb2); (try clear hk); (try clear hi)) | ((with_reducible refine gate_dst (N := 76) rfl ?_); (try (refine gate_guard (by rfl) ?_; dsimp only)); refine Kd.R_lit k40 _ 40 ?hg (N := 76) ?hd (xs := ([(⟨t274, t275⟩ : S40)] : List (S40))) (inner := [.int .i64 t274, .int .i64 t275]) (ok := fun _ => True) (okp := fun _ => True) ?hr ?hp (fun _ hk => hk) trivial (Below.refl _ _) (Nat.le_refl _) (by simp) ?_; (case hd => rfl); (case hg => rfl); (case hr => first | (go_simp; done) | (go_simp; rfl)); (case hp => exact (Reps.c2 (show Kd.M k40 _ _ _ (⟨t274, t275⟩ : S40) [.int .i64 t274, .int .i64 t275] from (k40_mkM _ _ _ (⟨t274, t275⟩ : S40) )) (Reps.none _ _))); intro v277 w126 ho127 hb hg_ hnew_; clear hg_ hnew_; (first | rw [← Ny276.out] at ho127 | (simp only [Int.reduceToNat] at ho127; rw [← Ny276.out] at ho127)); have n0_ := Aside0.mk (Kd.R_elder' (by (with_reducible repeat (first | apply Kd.R_alloc | apply Kd.R_drewN | apply Kd.R_drew)); exact HO_1.out) (Kd.R_base ho127) hb); have n1_ := Aside0.mk (Kd.R_lower (Kd.R_new' ho127 (Kd.R_lt (by (with_reducible repeat (first | apply Kd.R_alloc | apply Kd.R_drewN | apply Kd.R_drew)); exact HO_1.out))) (below_size (by repeat (first | (with_reducible first | exact HB.out | apply below_alloc | apply pw_below_drewN | apply below_drew1) | exact HB.out)))); have n2_ := Aside0.mk (below_step (by repeat (first | (with_reducible first | exact HB.out | apply below_alloc | apply pw_below_drewN | apply below_drew1) | exact HB.out)) hb); clear HO_1; clear HB; have HO_1 := n0_; have HO278 := n1_; have HB := n2_; clear n0_ n1_ n2_; clear hb ho127) | (go_at_call 33; (with_reducible refine (l01e.calls 2 1 t279 t280 _ A121.out).mono ?_); rintro e w128 ⟨rfl, hb⟩; have n0_ := Aside0.mk (Kd.R_below (by (with_reducible repeat (first | apply Kd.R_alloc | apply Kd.R_drewN | apply Kd.R_drew)); exact HO_1.out) hb); have n1_ := Aside0.mk (Kd.R_below (by (with_reducible repeat (first | apply Kd.R_alloc | apply Kd.R_drewN | apply Kd.R_drew)); exact HO278.out) hb); have n2_ := Aside0.mk (below_step (by repeat (first | (with_reducible first | exact HB.out | apply below_alloc | apply pw_below_drewN | apply below_drew1) | exact HB.out)) hb); clear HO_1; clear HO278; clear HB; have HO_1 := n0_; have HO278 := n1_; have HB := n2_; clear n0_ n1_ n2_; (try clear hb); (try clear hb2); (try clear hk); (try clear hi)) | ((with_reducible refine gate_dst (N := 78) rfl ?_); (try (refine gate_guard (by rfl) ?_; dsimp only)); refine Kd.R_lit k40 _ 40 ?hg (N := 78) ?hd (xs := ([(⟨t279, t280⟩ : S40)] : List (S40))) (inner := [.int .i64 t279, .int .i64 t280]) (ok := fun _ => True) (okp := fun _ => True) ?hr ?hp (fun _ hk => hk) trivial (Below.refl _ _) (Nat.le_refl _) (by simp) ?_; (case hd => rfl); (case hg => rfl); (case hr => first | (go_simp; done) | (go_simp; rfl)); (case hp => exact (Reps.c2 (show Kd.M k40 _ _ _ (⟨t279, t280⟩ : S40) [.int .i64 t279, .int .i64 t280] from (k40_mkM _ _ _ (⟨t279, t280⟩ : S40) )) (Reps.none _ _))); intro v282 w129 ho130 hb hg_ hnew_; clear hg_ hnew_; (first | rw [← Ny281.out] at ho130 | (simp only [Int.reduceToNat] at ho130; rw [← Ny281.out] at ho130)); have n0_ := Aside0.mk (Kd.R_elder' (by (with_reducible repeat (first | apply Kd.R_alloc | apply Kd.R_drewN | apply Kd.R_drew)); exact HO_1.out) (Kd.R_base ho130) hb); have n1_ := Aside0.mk (Kd.R_elder' (by (with_reducible repeat (first | apply Kd.R_alloc | apply Kd.R_drewN | apply Kd.R_drew)); exact HO278.out) (Kd.R_base ho130) hb); have n2_ := Aside0.mk (Kd.R_lower (Kd.R_new' (Kd.R_new' ho130 (Kd.R_lt (by (with_reducible repeat (first | apply Kd.R_alloc | apply Kd.R_drewN | apply Kd.R_drew)); exact HO_1.out))) (Kd.R_lt (by (with_reducible repeat (first | apply Kd.R_alloc | apply Kd.R_drewN | apply Kd.R_drew)); exact HO278.out))) (below_size (by repeat (first | (with_reducible first | exact HB.out | apply below_alloc | apply pw_below_drewN | apply below_drew1) | exact HB.out)))); have n3_ := Aside0.mk (below_step (by repeat (first | (with_reducible first | exact HB.out | apply below_alloc | apply pw_below_drewN | apply below_drew1) | exact HB.out)) hb); clear HO_1; clear HO278; clear HB; have HO_1 := n0_; have HO278 := n1_; have HO283 := n2_; have HB := n3_; clear n0_ n1_ n2_ n3_; clear hb ho130; obtain ⟨Ao131, co131, eo131⟩ := Kd.R_slice HO278.out; subst eo131; obtain ⟨Ao132, co132, eo132⟩ := Kd.R_slice HO283.out; subst eo132) | (go_at_call 25; (with_reducible refine (xUnion.calls _ _ y276 _ _ y281 t284 _ ?side1 ?side2 ?side3 ?side4 A122.out).mono ?_); (case side1 => repeat (first | exact (Kd.R_reads' HO278.out).2.2 | (with_reducible refine Kd.C_alloc ?_ _) | (with_reducible refine Kd.C_drewN ?_ _) | (with_reducible refine Kd.C_drew ?_))); (case side2 => exact (Kd.R_reads' HO278.out).2.1); (case side3 => repeat (first | exact (Kd.R_reads' HO283.out).2.2 | (with_reducible refine Kd.C_alloc ?_ _) | (with_reducible refine Kd.C_drewN ?_ _) | (with_reducible refine Kd.C_drew ?_))); (case side4 => exact (Kd.R_reads' HO283.out).2.1); rintro e w133 ⟨v285, rfl, ho0, hb⟩; have n0_ := Aside0.mk (Kd.R_elder' (by (with_reducible repeat (first | apply Kd.R_alloc | apply Kd.R_drewN | apply Kd.R_drew)); exact HO_1.out) (Kd.R_base ho0) hb); have n1_ := Aside0.mk (Kd.R_elder' (by (with_reducible repeat (first | apply Kd.R_alloc | apply Kd.R_drewN | apply Kd.R_drew)); exact HO278.out) (Kd.R_base ho0) hb); have n2_ := Aside0.mk (Kd.R_elder' (by (with_reducible repeat (first | apply Kd.R_alloc | apply Kd.R_drewN | apply Kd.R_drew)); exact HO283.out) (Kd.R_base ho0) hb); have n3_ := Aside0.mk (Kd.R_lower (Kd.R_new' (Kd.R_new' (Kd.R_new' ho0 (Kd.R_lt (by (with_reducible repeat (first | apply Kd.R_alloc | apply Kd.R_drewN | apply Kd.R_drew)); exact HO_1.out))) (Kd.R_lt (by (with_reducible repeat (first | apply Kd.R_alloc | apply Kd.R_drewN | apply Kd.R_drew)); exact HO278.out))) (Kd.R_lt (by (with_reducible repeat (first | apply Kd.R_alloc | apply Kd.R_drewN | apply Kd.R_drew)); exact HO283.out))) (below_size (by repeat (first | (with_reducible first | exact HB.out | apply below_alloc | apply pw_below_drewN | apply below_drew1) | exact HB.out)))); have n4_ := Aside0.mk (below_step (by repeat (first | (with_reducible first | exact HB.out | apply below_alloc | apply pw_below_drewN | apply below_drew1) | exact HB.out)) hb); clear HO_1; clear HO278; clear HO283; clear HB; have HO_1 := n0_; have HO278 := n1_; have HO283 := n2_; have HO286 := n3_; have HB := n4_; clear n0_ n1_ n2_ n3_ n4_; (try clear hb); (try clear hb2); (try clear hk); (try clear hi); (try clear ho0)) | (go_at_call 33; (with_reducible refine (l01e.calls 0 3 t287 t288 _ A123.out).mono ?_); rintro e w134 ⟨rfl, hb⟩; have n0_ := Aside0.mk (Kd.R_below (by (with_reducible repeat (first | apply Kd.R_alloc | apply Kd.R_drewN | apply Kd.R_drew)); exact HO_1.out) hb); have n1_ := Aside0.mk (Kd.R_below (by (with_reducible repeat (first | apply Kd.R_alloc | apply Kd.R_drewN | apply Kd.R_drew)); exact HO278.out) hb); have n2_ := Aside0.mk (Kd.R_below (by (with_reducible repeat (first | apply Kd.R_alloc | apply Kd.R_drewN | apply Kd.R_drew)); exact HO283.out) hb); have n3_ := Aside0.mk (Kd.R_below (by (with_reducible repeat (first | apply Kd.R_alloc | apply Kd.R_drewN | apply Kd.R_drew)); exact HO286.out) hb); have n4_ := Aside0.mk (below_step (by repeat (first | (with_reducible first | exact HB.out | apply below_alloc | apply pw_below_drewN | apply below_drew1) | exact HB.out)) hb); clear HO_1; clear HO278; clear HO283; clear HO286; clear HB; have HO_1 := n0_; have HO278 := n1_; have HO283 := n2_; have HO286 := n3_; have HB := n4_; clear n0_ n1_ n2_ n3_ n4_; (try clear hb); (try clear hb2); (try clear hk); (try clear hi)) | ((with_reducible refine gate_dst (N := 81) rfl ?_); (try (refine gate_guard (by rfl) ?_; dsimp only)); refine Kd.R_lit k40 _ 40 ?hg (N := 81) ?hd (xs := ([(⟨t287, t288⟩ : S40)] : List (S40))) (inner := [.int .i64 t287, .int .i64 t288]) (ok := fun _ => True) (okp := fun _ => True) ?hr ?hp (fun _ hk => hk) trivial (Below.refl _ _) (Nat.le_refl _) (by simp) ?_; (case hd => rfl); (case hg => rfl); (case hr => first | (go_simp; done) | (go_simp; rfl)); (case hp => exact (Reps.c2 (show Kd.M k40 _ _ _ (⟨t287, t288⟩ : S40) [.int .i64 t287, .int .i64 t288] from (k40_mkM _ _ _ (⟨t287, t288⟩ : S40) )) (Reps.none _ _))); intro v290 w135 ho136 hb hg_ hnew_; clear hg_ hnew_; (first | rw [← Ny289.out] at ho136 | (simp only [Int.reduceToNat] at ho136; rw [← Ny289.out] at ho136)); have n0_ := Aside0.mk (Kd.R_elder' (by (with_reducible repeat (first | apply Kd.R_alloc | apply Kd.R_drewN | apply Kd.R_drew)); exact HO_1.out) (Kd.R_base ho136) hb); have n1_ := Aside0.mk (Kd.R_elder' (by (with_reducible repeat (first | apply Kd.R_alloc | apply Kd.R_drewN | apply Kd.R_drew)); exact HO278.out) (Kd.R_base ho136) hb); have n2_ := Aside0.mk (Kd.R_elder' (by (with_reducible repeat (first | apply Kd.R_alloc | apply Kd.R_drewN | apply Kd.R_drew)); exact HO283.out) (Kd.R_base ho136) hb); have n3_ := Aside0.mk (Kd.R_elder' (by (with_reducible repeat (first | apply Kd.R_alloc | apply Kd.R_drewN | apply Kd.R_drew)); exact HO286.out) (Kd.R_base ho136) hb); have n4_ := Aside0.mk (Kd.R_lower (Kd.R_new' (Kd.R_new' (Kd.R_new' (Kd.R_new' ho136 (Kd.R_lt (by (with_reducible repeat (first | apply Kd.R_alloc | apply Kd.R_drewN | apply Kd.R_drew)); exact HO_1.out))) (Kd.R_lt (by (with_reducible repeat (first | apply Kd.R_alloc | apply Kd.R_drewN | apply Kd.R_drew)); exact HO278.out))) (Kd.R_lt (by (with_reducible repeat (first | apply Kd.R_alloc | apply Kd.R_drewN | apply Kd.R_drew)); exact HO283.out))) (Kd.R_lt (by (with_reducible repeat (first | apply Kd.R_alloc | apply Kd.R_drewN | apply Kd.R_drew)); exact HO286.out))) (below_size (by repeat (first | (with_reducible first | exact HB.out | apply below_alloc | apply pw_below_drewN | apply below_drew1) | exact HB.out)))); have n5_ := Aside0.mk (below_step (by repeat (first | (with_reducible first | exact HB.out | apply below_alloc | apply pw_below_drewN | apply below_drew1) | exact HB.out)) hb); clear HO_1; clear HO278; clear HO283; clear HO286; clear HB; have HO_1 := n0_; have HO278 := n1_; have HO283 := n2_; have HO286 := n3_; have HO291 := n4_; have HB := n5_; clear n0_ n1_ n2_ n3_ n4_ n5_; clear hb ho136; obtain ⟨Ao137, co137, eo137⟩ := Kd.R_slice HO286.out; subst eo137; obtain ⟨Ao138, co138, eo138⟩ := Kd.R_slice HO291.out; subst eo138) | (go_at_call 18; (with_reducible refine (r01Same.calls kj94 _ _ t284 _ _ y289 t292 _ ?side1 ?side2 ?side3 ?side4 A124.out).mono ?_); (case side1 => repeat (first | exact (Kd.R_reads' HO286.out).2.2 | (with_reducible refine Kd.C_alloc ?_ _) | (with_reducible refine Kd.C_drewN ?_ _) | (with_reducible refine Kd.C_drew ?_))); (case side2 => exact (Kd.R_reads' HO286.out).2.1); (case side3 => repeat (first | exact (Kd.R_reads' HO291.out).2.2 | (with_reducible refine Kd.C_alloc ?_ _) | (with_reducible refine Kd.C_drewN ?_ _) | (with_reducible refine Kd.C_drew ?_))); (case side4 => exact (Kd.R_reads' HO291.out).2.1); rintro e w' ⟨rfl, ⟨nd, rfl⟩⟩))
              go_meet
              case rel => exact ⟨_, (t292), (by first | rfl | (simp; done) | (simp [*]; done)), H', ⟨by have := HJ9.out; have := HJ94.out; first | omega | exact Nat.le_refl _⟩, ⟨by (with_reducible repeat (first | apply Kd.R_alloc | apply Kd.R_drewN | apply Kd.R_drew)); exact Kd.R_mono HO_1.out (fun _ hk => trivial)⟩, ⟨by repeat (first | (with_reducible first | exact HB.out | apply below_alloc | apply pw_below_drewN | apply below_drew1) | exact HB.out)⟩⟩
            · replace c119 := Bool.eq_false_iff.mpr c119
              subst c119
              have H1 : (l01awake.j2 kj94 t220 false) = some r := by rw [if_neg (show ¬ (false = true) by decide)] at H; exact H
              clear H
              have H := H1
              clear H1
              have H' := Aside0.mk H
              clear H
              go_wp2
              go_meet
              case rel => exact ⟨_, (false), (by first | rfl | (simp; done) | (simp [*]; done)), H', ⟨by have := HJ9.out; have := HJ94.out; first | omega | exact Nat.le_refl _⟩, ⟨by (with_reducible repeat (first | apply Kd.R_alloc | apply Kd.R_drewN | apply Kd.R_drew)); exact HO_1.out⟩, ⟨by repeat (first | (with_reducible first | exact HB.out | apply below_alloc | apply pw_below_drewN | apply below_drew1) | exact HB.out)⟩⟩
          case rest =>
            clear HC118
            try clear c1
            try clear c2
            try clear p2
            try clear c3
            try clear c4
            try clear c9
            try clear c10
            try clear c11
            try clear c13
            try clear c16
            try clear c18
            try clear c23
            try clear c32
            try clear c33
            try clear c33b0
            try clear c33b1
            try clear c39
            try clear c40
            try clear c40b0
            try clear c40b1
            try clear c96
            try clear c98
            try clear c98b0
            try clear c98b1
            try clear c100
            try clear c100b0
            try clear c100b1
            try clear c119
            try clear p2
            obtain ⟨kq, x7_117, rfl, HA, HJ117, HO_1, HB⟩ := hcut
            cases kq with
            | zero => exact absurd HA.out (by simp [l01awake.j2])
            | succ kj117 =>
              have H := HA.out
              clear HA
              simp only [l01awake.j2] at H
              have HC139 := Aside0.mk H
              clear H
              go_upto_region 7 with (fail)
              go_cut [7] (fun v7 wc => ∃ (kq : Nat) (x7_138 : Bool), v7 = .bool x7_138 ∧ Aside0 (l01awake.j3 kq t220 x7_138 = some r) ∧ Aside0 (kq ≤ kj117) ∧ Aside0 (Kd.R k40 40 wc w.heap.size (fun _ => True) v222 t220) ∧ Aside0 (Below w.heap.size w wc))
              case first =>
                have H := HC139.out
                clear HC139
                by_cases c140 : x7_117 = true
                · subst c140
                  have H1 : ((l01e.f 0 10).bind fun bt293 => ((l01e.f 3 2).bind fun bt298 => ((xSubtract.f (([(⟨bt293.1, bt293.2⟩ : S40)] : List (S40))) (([(⟨bt298.1, bt298.2⟩ : S40)] : List (S40)))).bind fun t303 => ((l01e.f 0 3).bind fun bt306 => ((l01e.f 5 5).bind fun bt308 => ((r01Same.f kj117 t303 (([(⟨bt306.1, bt306.2⟩ : S40), (⟨bt308.1, bt308.2⟩ : S40)] : List (S40)))).bind fun t313 => (l01awake.j3 kj117 t220 t313))))))) = some r := by rw [if_pos rfl] at H; exact H
                  clear H
                  have H := H1
                  clear H1
                  replace H := Option.bind_eq_some_iff.mp H
                  obtain ⟨⟨t293, t294⟩, A1410, H⟩ := H
                  replace H : ((l01e.f 3 2).bind fun bt298 => ((xSubtract.f (([(⟨t293, t294⟩ : S40)] : List (S40))) (([(⟨bt298.1, bt298.2⟩ : S40)] : List (S40)))).bind fun t303 => ((l01e.f 0 3).bind fun bt306 => ((l01e.f 5 5).bind fun bt308 => ((r01Same.f kj117 t303 (([(⟨bt306.1, bt306.2⟩ : S40), (⟨bt308.1, bt308.2⟩ : S40)] : List (S40)))).bind fun t313 => (l01awake.j3 kj117 t220 t313)))))) = some r := H
                  have A141 := Aside0.mk A1410
                  clear A1410
                  obtain ⟨y295, hy295⟩ : ∃ y_ : List (S40), y_ = (([(⟨t293, t294⟩ : S40)] : List (S40))) := ⟨_, rfl⟩
                  replace H : ((l01e.f 3 2).bind fun bt298 => ((xSubtract.f y295 (([(⟨bt298.1, bt298.2⟩ : S40)] : List (S40)))).bind fun t303 => ((l01e.f 0 3).bind fun bt306 => ((l01e.f 5 5).bind fun bt308 => ((r01Same.f kj117 t303 (([(⟨bt306.1, bt306.2⟩ : S40), (⟨bt308.1, bt308.2⟩ : S40)] : List (S40)))).bind fun t313 => (l01awake.j3 kj117 t220 t313)))))) = some r := by first | (rw [hy295]; with_reducible exact H) | (have H2_ := (Option.bind_some _ _).symm.trans H; rw [hy295]; with_reducible exact H2_) | (have H2_ := (Option.bind_some _ _).symm.trans H; with_reducible exact H2_) | with_reducible exact H | (rw [hy295]; exact H) | exact H
                  have Ny295 := Aside0.mk hy295
                  clear hy295
                  replace H := Option.bind_eq_some_iff.mp H
                  obtain ⟨⟨t298, t299⟩, A1420, H⟩ := H
                  replace H : ((xSubtract.f y295 (([(⟨t298, t299⟩ : S40)] : List (S40)))).bind fun t303 => ((l01e.f 0 3).bind fun bt306 => ((l01e.f 5 5).bind fun bt308 => ((r01Same.f kj117 t303 (([(⟨bt306.1, bt306.2⟩ : S40), (⟨bt308.1, bt308.2⟩ : S40)] : List (S40)))).bind fun t313 => (l01awake.j3 kj117 t220 t313))))) = some r := H
                  have A142 := Aside0.mk A1420
                  clear A1420
                  obtain ⟨y300, hy300⟩ : ∃ y_ : List (S40), y_ = (([(⟨t298, t299⟩ : S40)] : List (S40))) := ⟨_, rfl⟩
                  replace H : ((xSubtract.f y295 y300).bind fun t303 => ((l01e.f 0 3).bind fun bt306 => ((l01e.f 5 5).bind fun bt308 => ((r01Same.f kj117 t303 (([(⟨bt306.1, bt306.2⟩ : S40), (⟨bt308.1, bt308.2⟩ : S40)] : List (S40)))).bind fun t313 => (l01awake.j3 kj117 t220 t313))))) = some r := by first | (rw [hy300]; with_reducible exact H) | (have H2_ := (Option.bind_some _ _).symm.trans H; rw [hy300]; with_reducible exact H2_) | (have H2_ := (Option.bind_some _ _).symm.trans H; with_reducible exact H2_) | with_reducible exact H | (rw [hy300]; exact H) | exact H
                  have Ny300 := Aside0.mk hy300
                  clear hy300
                  replace H := Option.bind_eq_some_iff.mp H
                  obtain ⟨t303, A1430, H⟩ := H
                  replace H : ((l01e.f 0 3).bind fun bt306 => ((l01e.f 5 5).bind fun bt308 => ((r01Same.f kj117 t303 (([(⟨bt306.1, bt306.2⟩ : S40), (⟨bt308.1, bt308.2⟩ : S40)] : List (S40)))).bind fun t313 => (l01awake.j3 kj117 t220 t313)))) = some r := H
                  have A143 := Aside0.mk A1430
                  clear A1430
                  replace H := Option.bind_eq_some_iff.mp H
                  obtain ⟨⟨t306, t307⟩, A1440, H⟩ := H
                  replace H : ((l01e.f 5 5).bind fun bt308 => ((r01Same.f kj117 t303 (([(⟨t306, t307⟩ : S40), (⟨bt308.1, bt308.2⟩ : S40)] : List (S40)))).bind fun t313 => (l01awake.j3 kj117 t220 t313))) = some r := H
                  have A144 := Aside0.mk A1440
                  clear A1440
                  replace H := Option.bind_eq_some_iff.mp H
                  obtain ⟨⟨t308, t309⟩, A1450, H⟩ := H
                  replace H : ((r01Same.f kj117 t303 (([(⟨t306, t307⟩ : S40), (⟨t308, t309⟩ : S40)] : List (S40)))).bind fun t313 => (l01awake.j3 kj117 t220 t313)) = some r := H
                  have A145 := Aside0.mk A1450
                  clear A1450
                  obtain ⟨y310, hy310⟩ : ∃ y_ : List (S40), y_ = (([(⟨t306, t307⟩ : S40), (⟨t308, t309⟩ : S40)] : List (S40))) := ⟨_, rfl⟩
                  replace H : ((r01Same.f kj117 t303 y310).bind fun t313 => (l01awake.j3 kj117 t220 t313)) = some r := by first | (rw [hy310]; with_reducible exact H) | (have H2_ := (Option.bind_some _ _).symm.trans H; rw [hy310]; with_reducible exact H2_) | (have H2_ := (Option.bind_some _ _).symm.trans H; with_reducible exact H2_) | with_reducible exact H | (rw [hy310]; exact H) | exact H
                  have Ny310 := Aside0.mk hy310
                  clear hy310
                  replace H := Option.bind_eq_some_iff.mp H
                  obtain ⟨t313, A1460, H⟩ := H
                  replace H : (l01awake.j3 kj117 t220 t313) = some r := H
                  have A146 := Aside0.mk A1460
                  clear A1460
                  have H' := Aside0.mk H
                  clear H
                  go_wp2_with (first | (go_at_call 33; (with_reducible refine (l01e.calls 0 10 t293 t294 _ A141.out).mono ?_); rintro e w147 ⟨rfl, hb⟩; have n0_ := Aside0.mk (Kd.R_below (by (with_reducible repeat (first | apply Kd.R_alloc | apply Kd.R_drewN | apply Kd.R_drew)); exact HO_1.out) hb); have n1_ := Aside0.mk (below_step (by repeat (first | (with_reducible first | exact HB.out | apply below_alloc | apply pw_below_drewN | apply below_drew1) | exact HB.out)) hb); clear HO_1; clear HB; have HO_1 := n0_; have HB := n1_; clear n0_ n1_; (try clear hb); (try clear hb2); (try clear hk); (try clear hi)) | ((with_reducible refine gate_dst (N := 87) rfl ?_); (try (refine gate_guard (by rfl) ?_; dsimp only)); refine Kd.R_lit k40 _ 40 ?hg (N := 87) ?hd (xs := ([(⟨t293, t294⟩ : S40)] : List (S40))) (inner := [.int .i64 t293, .int .i64 t294]) (ok := fun _ => True) (okp := fun _ => True) ?hr ?hp (fun _ hk => hk) trivial (Below.refl _ _) (Nat.le_refl _) (by simp) ?_; (case hd => rfl); (case hg => rfl); (case hr => first | (go_simp; done) | (go_simp; rfl)); (case hp => exact (Reps.c2 (show Kd.M k40 _ _ _ (⟨t293, t294⟩ : S40) [.int .i64 t293, .int .i64 t294] from (k40_mkM _ _ _ (⟨t293, t294⟩ : S40) )) (Reps.none _ _))); intro v296 w148 ho149 hb hg_ hnew_; clear hg_ hnew_; (first | rw [← Ny295.out] at ho149 | (simp only [Int.reduceToNat] at ho149; rw [← Ny295.out] at ho149)); have n0_ := Aside0.mk (Kd.R_elder' (by (with_reducible repeat (first | apply Kd.R_alloc | apply Kd.R_drewN | apply Kd.R_drew)); exact HO_1.out) (Kd.R_base ho149) hb); have n1_ := Aside0.mk (Kd.R_lower (Kd.R_new' ho149 (Kd.R_lt (by (with_reducible repeat (first | apply Kd.R_alloc | apply Kd.R_drewN | apply Kd.R_drew)); exact HO_1.out))) (below_size (by repeat (first | (with_reducible first | exact HB.out | apply below_alloc | apply pw_below_drewN | apply below_drew1) | exact HB.out)))); have n2_ := Aside0.mk (below_step (by repeat (first | (with_reducible first | exact HB.out | apply below_alloc | apply pw_below_drewN | apply below_drew1) | exact HB.out)) hb); clear HO_1; clear HB; have HO_1 := n0_; have HO297 := n1_; have HB := n2_; clear n0_ n1_ n2_; clear hb ho149) | (go_at_call 33; (with_reducible refine (l01e.calls 3 2 t298 t299 _ A142.out).mono ?_); rintro e w150 ⟨rfl, hb⟩; have n0_ := Aside0.mk (Kd.R_below (by (with_reducible repeat (first | apply Kd.R_alloc | apply Kd.R_drewN | apply Kd.R_drew)); exact HO_1.out) hb); have n1_ := Aside0.mk (Kd.R_below (by (with_reducible repeat (first | apply Kd.R_alloc | apply Kd.R_drewN | apply Kd.R_drew)); exact HO297.out) hb); have n2_ := Aside0.mk (below_step (by repeat (first | (with_reducible first | exact HB.out | apply below_alloc | apply pw_below_drewN | apply below_drew1) | exact HB.out)) hb); clear HO_1; clear HO297; clear HB; have HO_1 := n0_; have HO297 := n1_; have HB := n2_; clear n0_ n1_ n2_; (try clear hb); (try clear hb2); (try clear hk); (try clear hi)) | ((with_reducible refine gate_dst (N := 89) rfl ?_); (try (refine gate_guard (by rfl) ?_; dsimp only)); refine Kd.R_lit k40 _ 40 ?hg (N := 89) ?hd (xs := ([(⟨t298, t299⟩ : S40)] : List (S40))) (inner := [.int .i64 t298, .int .i64 t299]) (ok := fun _ => True) (okp := fun _ => True) ?hr ?hp (fun _ hk => hk) trivial (Below.refl _ _) (Nat.le_refl _) (by simp) ?_; (case hd => rfl); (case hg => rfl); (case hr => first | (go_simp; done) | (go_simp; rfl)); (case hp => exact (Reps.c2 (show Kd.M k40 _ _ _ (⟨t298, t299⟩ : S40) [.int .i64 t298, .int .i64 t299] from (k40_mkM _ _ _ (⟨t298, t299⟩ : S40) )) (Reps.none _ _))); intro v301 w151 ho152 hb hg_ hnew_; clear hg_ hnew_; (first | rw [← Ny300.out] at ho152 | (simp only [Int.reduceToNat] at ho152; rw [← Ny300.out] at ho152)); have n0_ := Aside0.mk (Kd.R_elder' (by (with_reducible repeat (first | apply Kd.R_alloc | apply Kd.R_drewN | apply Kd.R_drew)); exact HO_1.out) (Kd.R_base ho152) hb); have n1_ := Aside0.mk (Kd.R_elder' (by (with_reducible repeat (first | apply Kd.R_alloc | apply Kd.R_drewN | apply Kd.R_drew)); exact HO297.out) (Kd.R_base ho152) hb); have n2_ := Aside0.mk (Kd.R_lower (Kd.R_new' (Kd.R_new' ho152 (Kd.R_lt (by (with_reducible repeat (first | apply Kd.R_alloc | apply Kd.R_drewN | apply Kd.R_drew)); exact HO_1.out))) (Kd.R_lt (by (with_reducible repeat (first | apply Kd.R_alloc | apply Kd.R_drewN | apply Kd.R_drew)); exact HO297.out))) (below_size (by repeat (first | (with_reducible first | exact HB.out | apply below_alloc | apply pw_below_drewN | apply below_drew1) | exact HB.out)))); have n3_ := Aside0.mk (below_step (by repeat (first | (with_reducible first | exact HB.out | apply below_alloc | apply pw_below_drewN | apply below_drew1) | exact HB.out)) hb); clear HO_1; clear HO297; clear HB; have HO_1 := n0_; have HO297 := n1_; have HO302 := n2_; have HB := n3_; clear n0_ n1_ n2_ n3_; clear hb ho152; obtain ⟨Ao153, co153, eo153⟩ := Kd.R_slice HO297.out; subst eo153; obtain ⟨Ao154, co154, eo154⟩ := Kd.R_slice HO302.out; subst eo154) | (go_at_call 29; (with_reducible refine (xSubtract.calls _ _ y295 _ _ y300 t303 _ ?side1 ?side2 ?side3 ?side4 A143.out).mono ?_); (case side1 => repeat (first | exact (Kd.R_reads' HO297.out).2.2 | (with_reducible refine Kd.C_alloc ?_ _) | (with_reducible refine Kd.C_drewN ?_ _) | (with_reducible refine Kd.C_drew ?_))); (case side2 => exact (Kd.R_reads' HO297.out).2.1); (case side3 => repeat (first | exact (Kd.R_reads' HO302.out).2.2 | (with_reducible refine Kd.C_alloc ?_ _) | (with_reducible refine Kd.C_drewN ?_ _) | (with_reducible refine Kd.C_drew ?_))); (case side4 => exact (Kd.R_reads' HO302.out).2.1); rintro e w155 ⟨v304, rfl, ho0, hb⟩; have n0_ := Aside0.mk (Kd.R_elder' (by (with_reducible repeat (first | apply Kd.R_alloc | apply Kd.R_drewN | apply Kd.R_drew)); exact HO_1.out) (Kd.R_base ho0) hb); have n1_ := Aside0.mk (Kd.R_elder' (by (with_reducible repeat (first | apply Kd.R_alloc | apply Kd.R_drewN | apply Kd.R_drew)); exact HO297.out) (Kd.R_base ho0) hb); have n2_ := Aside0.mk (Kd.R_elder' (by (with_reducible repeat (first | apply Kd.R_alloc | apply Kd.R_drewN | apply Kd.R_drew)); exact HO302.out) (Kd.R_base ho0) hb); have n3_ := Aside0.mk (Kd.R_lower (Kd.R_new' (Kd.R_new' (Kd.R_new' ho0 (Kd.R_lt (by (with_reducible repeat (first | apply Kd.R_alloc | apply Kd.R_drewN | apply Kd.R_drew)); exact HO_1.out))) (Kd.R_lt (by (with_reducible repeat (first | apply Kd.R_alloc | apply Kd.R_drewN | apply Kd.R_drew)); exact HO297.out))) (Kd.R_lt (by (with_reducible repeat (first | apply Kd.R_alloc | apply Kd.R_drewN | apply Kd.R_drew)); exact HO302.out))) (below_size (by repeat (first | (with_reducible first | exact HB.out | apply below_alloc | apply pw_below_drewN | apply below_drew1) | exact HB.out)))); have n4_ := Aside0.mk (below_step (by repeat (first | (with_reducible first | exact HB.out | apply below_alloc | apply pw_below_drewN | apply below_drew1) | exact HB.out)) hb); clear HO_1; clear HO297; clear HO302; clear HB; have HO_1 := n0_; have HO297 := n1_; have HO302 := n2_; have HO305 := n3_; have HB := n4_; clear n0_ n1_ n2_ n3_ n4_; (try clear hb); (try clear hb2); (try clear hk); (try clear hi); (try clear ho0)) | (go_at_call 33; (with_reducible refine (l01e.calls 0 3 t306 t307 _ A144.out).mono ?_); rintro e w156 ⟨rfl, hb⟩; have n0_ := Aside0.mk (Kd.R_below (by (with_reducible repeat (first | apply Kd.R_alloc | apply Kd.R_drewN | apply Kd.R_drew)); exact HO_1.out) hb); have n1_ := Aside0.mk (Kd.R_below (by (with_reducible repeat (first | apply Kd.R_alloc | apply Kd.R_drewN | apply Kd.R_drew)); exact HO297.out) hb); have n2_ := Aside0.mk (Kd.R_below (by (with_reducible repeat (first | apply Kd.R_alloc | apply Kd.R_drewN | apply Kd.R_drew)); exact HO302.out) hb); have n3_ := Aside0.mk (Kd.R_below (by (with_reducible repeat (first | apply Kd.R_alloc | apply Kd.R_drewN | apply Kd.R_drew)); exact HO305.out) hb); have n4_ := Aside0.mk (below_step (by repeat (first | (with_reducible first | exact HB.out | apply below_alloc | apply pw_below_drewN | apply below_drew1) | exact HB.out)) hb); clear HO_1; clear HO297; clear HO302; clear HO305; clear HB; have HO_1 := n0_; have HO297 := n1_; have HO302 := n2_; have HO305 := n3_; have HB := n4_; clear n0_ n1_ n2_ n3_ n4_; (try clear hb); (try clear hb2); (try clear hk); (try clear hi)) | (go_at_call 33; (with_reducible refine (l01e.calls 5 5 t308 t309 _ A145.out).mono ?_); rintro e w157 ⟨rfl, hb⟩; have n0_ := Aside0.mk (Kd.R_below (by (with_reducible repeat (first | apply Kd.R_alloc | apply Kd.R_drewN | apply Kd.R_drew)); exact HO_1.out) hb); have n1_ := Aside0.mk (Kd.R_below (by (with_reducible repeat (first | apply Kd.R_alloc | apply Kd.R_drewN | apply Kd.R_drew)); exact HO297.out) hb); have n2_ := Aside0.mk (Kd.R_below (by (with_reducible repeat (first | apply Kd.R_alloc | apply Kd.R_drewN | apply Kd.R_drew)); exact HO302.out) hb); have n3_ := Aside0.mk (Kd.R_below (by (with_reducible repeat (first | apply Kd.R_alloc | apply Kd.R_drewN | apply Kd.R_drew)); exact HO305.out) hb); have n4_ := Aside0.mk (below_step (by repeat (first | (with_reducible first | exact HB.out | apply below_alloc | apply pw_below_drewN | apply below_drew1) | exact HB.out)) hb); clear HO_1; clear HO297; clear HO302; clear HO305; clear HB; have HO_1 := n0_; have HO297 := n1_; have HO302 := n2_; have HO305 := n3_; have HB := n4_; clear n0_ n1_ n2_ n3_ n4_; (try clear hb); (try clear hb2); (try clear hk); (try clear hi)) | ((with_reducible refine gate_dst (N := 93) rfl ?_); (try (refine gate_guard (by rfl) ?_; dsimp only)); refine Kd.R_lit k40 _ 40 ?hg (N := 93) ?hd (xs := ([(⟨t306, t307⟩ : S40), (⟨t308, t309⟩ : S40)] : List (S40))) (inner := [.int .i64 t306, .int .i64 t307, .int .i64 t308, .int .i64 t309]) (ok := fun _ => True) (okp := fun _ => True) ?hr ?hp (fun _ hk => hk) trivial (Below.refl _ _) (Nat.le_refl _) (by simp) ?_; (case hd => rfl); (case hg => rfl); (case hr => first | (go_simp; done) | (go_simp; rfl)); (case hp => exact (Reps.c2 (show Kd.M k40 _ _ _ (⟨t306, t307⟩ : S40) [.int .i64 t306, .int .i64 t307] from (k40_mkM _ _ _ (⟨t306, t307⟩ : S40) )) (Reps.c2 (show Kd.M k40 _ _ _ (⟨t308, t309⟩ : S40) [.int .i64 t308, .int .i64 t309] from (k40_mkM _ _ _ (⟨t308, t309⟩ : S40) )) (Reps.none _ _)))); intro v311 w158 ho159 hb hg_ hnew_; clear hg_ hnew_; (first | rw [← Ny310.out] at ho159 | (simp only [Int.reduceToNat] at ho159; rw [← Ny310.out] at ho159)); have n0_ := Aside0.mk (Kd.R_elder' (by (with_reducible repeat (first | apply Kd.R_alloc | apply Kd.R_drewN | apply Kd.R_drew)); exact HO_1.out) (Kd.R_base ho159) hb); have n1_ := Aside0.mk (Kd.R_elder' (by (with_reducible repeat (first | apply Kd.R_alloc | apply Kd.R_drewN | apply Kd.R_drew)); exact HO297.out) (Kd.R_base ho159) hb); have n2_ := Aside0.mk (Kd.R_elder' (by (with_reducible repeat (first | apply Kd.R_alloc | apply Kd.R_drewN | apply Kd.R_drew)); exact HO302.out) (Kd.R_base ho159) hb); have n3_ := Aside0.mk (Kd.R_elder' (by (with_reducible repeat (first | apply Kd.R_alloc | apply Kd.R_drewN | apply Kd.R_drew)); exact HO305.out) (Kd.R_base ho159) hb); have n4_ := Aside0.mk (Kd.R_lower (Kd.R_new' (Kd.R_new' (Kd.R_new' (Kd.R_new' ho159 (Kd.R_lt (by (with_reducible repeat (first | apply Kd.R_alloc | apply Kd.R_drewN | apply Kd.R_drew)); exact HO_1.out))) (Kd.R_lt (by (with_reducible repeat (first | apply Kd.R_alloc | apply Kd.R_drewN | apply Kd.R_drew)); exact HO297.out))) (Kd.R_lt (by (with_reducible repeat (first | apply Kd.R_alloc | apply Kd.R_drewN | apply Kd.R_drew)); exact HO302.out))) (Kd.R_lt (by (with_reducible repeat (first | apply Kd.R_alloc | apply Kd.R_drewN | apply Kd.R_drew)); exact HO305.out))) (below_size (by repeat (first | (with_reducible first | exact HB.out | apply below_alloc | apply pw_below_drewN | apply below_drew1) | exact HB.out)))); have n5_ := Aside0.mk (below_step (by repeat (first | (with_reducible first | exact HB.out | apply below_alloc | apply pw_below_drewN | apply below_drew1) | exact HB.out)) hb); clear HO_1; clear HO297; clear HO302; clear HO305; clear HB; have HO_1 := n0_; have HO297 := n1_; have HO302 := n2_; have HO305 := n3_; have HO312 := n4_; have HB := n5_; clear n0_ n1_ n2_ n3_ n4_ n5_; clear hb ho159; obtain ⟨Ao160, co160, eo160⟩ := Kd.R_slice HO305.out; subst eo160; obtain ⟨Ao161, co161, eo161⟩ := Kd.R_slice HO312.out; subst eo161) | (go_at_call 18; (with_reducible refine (r01Same.calls kj117 _ _ t303 _ _ y310 t313 _ ?side1 ?side2 ?side3 ?side4 A146.out).mono ?_); (case side1 => repeat (first | exact (Kd.R_reads' HO305.out).2.2 | (with_reducible refine Kd.C_alloc ?_ _) | (with_reducible refine Kd.C_drewN ?_ _) | (with_reducible refine Kd.C_drew ?_))); (case side2 => exact (Kd.R_reads' HO305.out).2.1); (case side3 => repeat (first | exact (Kd.R_reads' HO312.out).2.2 | (with_reducible refine Kd.C_alloc ?_ _) | (with_reducible refine Kd.C_drewN ?_ _) | (with_reducible refine Kd.C_drew ?_))); (case side4 => exact (Kd.R_reads' HO312.out).2.1); rintro e w' ⟨rfl, ⟨nd, rfl⟩⟩))
                  go_meet
                  case rel => exact ⟨_, (t313), (by first | rfl | (simp; done) | (simp [*]; done)), H', ⟨by have := HJ9.out; have := HJ94.out; have := HJ117.out; first | omega | exact Nat.le_refl _⟩, ⟨by (with_reducible repeat (first | apply Kd.R_alloc | apply Kd.R_drewN | apply Kd.R_drew)); exact Kd.R_mono HO_1.out (fun _ hk => trivial)⟩, ⟨by repeat (first | (with_reducible first | exact HB.out | apply below_alloc | apply pw_below_drewN | apply below_drew1) | exact HB.out)⟩⟩
                · replace c140 := Bool.eq_false_iff.mpr c140
                  subst c140
                  have H1 : (l01awake.j3 kj117 t220 false) = some r := by rw [if_neg (show ¬ (false = true) by decide)] at H; exact H
                  clear H
                  have H := H1
                  clear H1
                  have H' := Aside0.mk H
                  clear H
                  go_wp2
                  go_meet
                  case rel => exact ⟨_, (false), (by first | rfl | (simp; done) | (simp [*]; done)), H', ⟨by have := HJ9.out; have := HJ94.out; have := HJ117.out; first | omega | exact Nat.le_refl _⟩, ⟨by (with_reducible repeat (first | apply Kd.R_alloc | apply Kd.R_drewN | apply Kd.R_drew)); exact HO_1.out⟩, ⟨by repeat (first | (with_reducible first | exact HB.out | apply below_alloc | apply pw_below_drewN | apply below_drew1) | exact HB.out)⟩⟩
              case rest =>
                clear HC139
                try clear c1
                try clear c2
                try clear p2
                try clear c3
                try clear c4
                try clear c9
                try clear c10
                try clear c11
                try clear c13
                try clear c14
                try clear c16
                try clear c18
                try clear c23
                try clear c32
                try clear c33
                try clear c33b0
                try clear c33b1
                try clear c39
                try clear c40
                try clear c40b0
                try clear c40b1
                try clear c96
                try clear c98
                try clear c98b0
                try clear c98b1
                try clear c100
                try clear c100b0
                try clear c100b1
                try clear c119
                try clear c140
                try clear p2
                obtain ⟨kq, x7_138, rfl, HA, HJ138, HO_1, HB⟩ := hcut
                cases kq with
                | zero => exact absurd HA.out (by simp [l01awake.j3])
                | succ kj138 =>
                  have H := HA.out
                  clear HA
                  simp only [l01awake.j3] at H
                  have HC162 := Aside0.mk H
                  clear H
                  go_upto_region 8 with (fail)
                  go_cut [7] (fun v7 wc => ∃ (kq : Nat) (x7_161 : Bool), v7 = .bool x7_161 ∧ Aside0 (l01awake.j4 kq t220 x7_161 = some r) ∧ Aside0 (kq ≤ kj138) ∧ Aside0 (Kd.R k40 40 wc w.heap.size (fun _ => True) v222 t220) ∧ Aside0 (Below w.heap.size w wc))
                  case first =>
                    have H := HC162.out
                    clear HC162
                    by_cases c163 : x7_138 = true
                    · subst c163
                      have H1 : ((l01e.f 3 2).bind fun bt314 => ((xComplement.f (([(⟨bt314.1, bt314.2⟩ : S40)] : List (S40))) 8).bind fun t319 => ((l01e.f 0 3).bind fun bt322 => ((l01e.f 5 3).bind fun bt324 => ((r01Same.f kj138 t319 (([(⟨bt322.1, bt322.2⟩ : S40), (⟨bt324.1, bt324.2⟩ : S40)] : List (S40)))).bind fun t329 => (l01awake.j4 kj138 t220 t329)))))) = some r := by rw [if_pos rfl] at H; exact H
                      clear H
                      have H := H1
                      clear H1
                      replace H := Option.bind_eq_some_iff.mp H
                      obtain ⟨⟨t314, t315⟩, A1640, H⟩ := H
                      replace H : ((xComplement.f (([(⟨t314, t315⟩ : S40)] : List (S40))) 8).bind fun t319 => ((l01e.f 0 3).bind fun bt322 => ((l01e.f 5 3).bind fun bt324 => ((r01Same.f kj138 t319 (([(⟨bt322.1, bt322.2⟩ : S40), (⟨bt324.1, bt324.2⟩ : S40)] : List (S40)))).bind fun t329 => (l01awake.j4 kj138 t220 t329))))) = some r := H
                      have A164 := Aside0.mk A1640
                      clear A1640
                      obtain ⟨y316, hy316⟩ : ∃ y_ : List (S40), y_ = (([(⟨t314, t315⟩ : S40)] : List (S40))) := ⟨_, rfl⟩
                      replace H : ((xComplement.f y316 8).bind fun t319 => ((l01e.f 0 3).bind fun bt322 => ((l01e.f 5 3).bind fun bt324 => ((r01Same.f kj138 t319 (([(⟨bt322.1, bt322.2⟩ : S40), (⟨bt324.1, bt324.2⟩ : S40)] : List (S40)))).bind fun t329 => (l01awake.j4 kj138 t220 t329))))) = some r := by first | (rw [hy316]; with_reducible exact H) | (have H2_ := (Option.bind_some _ _).symm.trans H; rw [hy316]; with_reducible exact H2_) | (have H2_ := (Option.bind_some _ _).symm.trans H; with_reducible exact H2_) | with_reducible exact H | (rw [hy316]; exact H) | exact H
                      have Ny316 := Aside0.mk hy316
                      clear hy316
                      replace H := Option.bind_eq_some_iff.mp H
                      obtain ⟨t319, A1650, H⟩ := H
                      replace H : ((l01e.f 0 3).bind fun bt322 => ((l01e.f 5 3).bind fun bt324 => ((r01Same.f kj138 t319 (([(⟨bt322.1, bt322.2⟩ : S40), (⟨bt324.1, bt324.2⟩ : S40)] : List (S40)))).bind fun t329 => (l01awake.j4 kj138 t220 t329)))) = some r := H
                      have A165 := Aside0.mk A1650
                      clear A1650
                      replace H := Option.bind_eq_some_iff.mp H
                      obtain ⟨⟨t322, t323⟩, A1660, H⟩ := H
                      replace H : ((l01e.f 5 3).bind fun bt324 => ((r01Same.f kj138 t319 (([(⟨t322, t323⟩ : S40), (⟨bt324.1, bt324.2⟩ : S40)] : List (S40)))).bind fun t329 => (l01awake.j4 kj138 t220 t329))) = some r := H
                      have A166 := Aside0.mk A1660
                      clear A1660
                      replace H := Option.bind_eq_some_iff.mp H
                      obtain ⟨⟨t324, t325⟩, A1670, H⟩ := H
                      replace H : ((r01Same.f kj138 t319 (([(⟨t322, t323⟩ : S40), (⟨t324, t325⟩ : S40)] : List (S40)))).bind fun t329 => (l01awake.j4 kj138 t220 t329)) = some r := H
                      have A167 := Aside0.mk A1670
                      clear A1670
                      obtain ⟨y326, hy326⟩ : ∃ y_ : List (S40), y_ = (([(⟨t322, t323⟩ : S40), (⟨t324, t325⟩ : S40)] : List (S40))) := ⟨_, rfl⟩
                      replace H : ((r01Same.f kj138 t319 y326).bind fun t329 => (l01awake.j4 kj138 t220 t329)) = some r := by first | (rw [hy326]; with_reducible exact H) | (have H2_ := (Option.bind_some _ _).symm.trans H; rw [hy326]; with_reducible exact H2_) | (have H2_ := (Option.bind_some _ _).symm.trans H; with_reducible exact H2_) | with_reducible exact H | (rw [hy326]; exact H) | exact H
                      have Ny326 := Aside0.mk hy326
                      clear hy326
                      replace H := Option.bind_eq_some_iff.mp H
                      obtain ⟨t329, A1680, H⟩ := H
                      replace H : (l01awake.j4 kj138 t220 t329) = some r := H
                      have A168 := Aside0.mk A1680
                      clear A1680
                      have H' := Aside0.mk H
                      clear H
                      go_wp2_with (first | (go_at_call 33; (with_reducible refine (l01e.calls 3 2 t314 t315 _ A164.out).mono ?_); rintro e w169 ⟨rfl, hb⟩; have n0_ := Aside0.mk (Kd.R_below (by (with_reducible repeat (first | apply Kd.R_alloc | apply Kd.R_drewN | apply Kd.R_drew)); exact HO_1.out) hb); have n1_ := Aside0.mk (below_step (by repeat (first | (with_reducible first | exact HB.out | apply below_alloc | apply pw_below_drewN | apply below_drew1) | exact HB.out)) hb); clear HO_1; clear HB; have HO_1 := n0_; have HB := n1_; clear n0_ n1_; (try clear hb); (try clear hb2); (try clear hk); (try clear hi)) | ((with_reducible refine gate_dst (N := 99) rfl ?_); (try (refine gate_guard (by rfl) ?_; dsimp only)); refine Kd.R_lit k40 _ 40 ?hg (N := 99) ?hd (xs := ([(⟨t314, t315⟩ : S40)] : List (S40))) (inner := [.int .i64 t314, .int .i64 t315]) (ok := fun _ => True) (okp := fun _ => True) ?hr ?hp (fun _ hk => hk) trivial (Below.refl _ _) (Nat.le_refl _) (by simp) ?_; (case hd => rfl); (case hg => rfl); (case hr => first | (go_simp; done) | (go_simp; rfl)); (case hp => exact (Reps.c2 (show Kd.M k40 _ _ _ (⟨t314, t315⟩ : S40) [.int .i64 t314, .int .i64 t315] from (k40_mkM _ _ _ (⟨t314, t315⟩ : S40) )) (Reps.none _ _))); intro v317 w170 ho171 hb hg_ hnew_; clear hg_ hnew_; (first | rw [← Ny316.out] at ho171 | (simp only [Int.reduceToNat] at ho171; rw [← Ny316.out] at ho171)); have n0_ := Aside0.mk (Kd.R_elder' (by (with_reducible repeat (first | apply Kd.R_alloc | apply Kd.R_drewN | apply Kd.R_drew)); exact HO_1.out) (Kd.R_base ho171) hb); have n1_ := Aside0.mk (Kd.R_lower (Kd.R_new' ho171 (Kd.R_lt (by (with_reducible repeat (first | apply Kd.R_alloc | apply Kd.R_drewN | apply Kd.R_drew)); exact HO_1.out))) (below_size (by repeat (first | (with_reducible first | exact HB.out | apply below_alloc | apply pw_below_drewN | apply below_drew1) | exact HB.out)))); have n2_ := Aside0.mk (below_step (by repeat (first | (with_reducible first | exact HB.out | apply below_alloc | apply pw_below_drewN | apply below_drew1) | exact HB.out)) hb); clear HO_1; clear HB; have HO_1 := n0_; have HO318 := n1_; have HB := n2_; clear n0_ n1_ n2_; clear hb ho171; obtain ⟨Ao172, co172, eo172⟩ := Kd.R_slice HO318.out; subst eo172) | (go_at_call 19; (with_reducible refine (xComplement.calls _ _ y316 8 t319 _ ?side1 ?side2 A165.out).mono ?_); (case side1 => repeat (first | exact (Kd.R_reads' HO318.out).2.2 | (with_reducible refine Kd.C_alloc ?_ _) | (with_reducible refine Kd.C_drewN ?_ _) | (with_reducible refine Kd.C_drew ?_))); (case side2 => exact (Kd.R_reads' HO318.out).2.1); rintro e w173 ⟨v320, rfl, ho0, hb⟩; have n0_ := Aside0.mk (Kd.R_elder' (by (with_reducible repeat (first | apply Kd.R_alloc | apply Kd.R_drewN | apply Kd.R_drew)); exact HO_1.out) (Kd.R_base ho0) hb); have n1_ := Aside0.mk (Kd.R_elder' (by (with_reducible repeat (first | apply Kd.R_alloc | apply Kd.R_drewN | apply Kd.R_drew)); exact HO318.out) (Kd.R_base ho0) hb); have n2_ := Aside0.mk (Kd.R_lower (Kd.R_new' (Kd.R_new' ho0 (Kd.R_lt (by (with_reducible repeat (first | apply Kd.R_alloc | apply Kd.R_drewN | apply Kd.R_drew)); exact HO_1.out))) (Kd.R_lt (by (with_reducible repeat (first | apply Kd.R_alloc | apply Kd.R_drewN | apply Kd.R_drew)); exact HO318.out))) (below_size (by repeat (first | (with_reducible first | exact HB.out | apply below_alloc | apply pw_below_drewN | apply below_drew1) | exact HB.out)))); have n3_ := Aside0.mk (below_step (by repeat (first | (with_reducible first | exact HB.out | apply below_alloc | apply pw_below_drewN | apply below_drew1) | exact HB.out)) hb); clear HO_1; clear HO318; clear HB; have HO_1 := n0_; have HO318 := n1_; have HO321 := n2_; have HB := n3_; clear n0_ n1_ n2_ n3_; (try clear hb); (try clear hb2); (try clear hk); (try clear hi); (try clear ho0)) | (go_at_call 33; (with_reducible refine (l01e.calls 0 3 t322 t323 _ A166.out).mono ?_); rintro e w174 ⟨rfl, hb⟩; have n0_ := Aside0.mk (Kd.R_below (by (with_reducible repeat (first | apply Kd.R_alloc | apply Kd.R_drewN | apply Kd.R_drew)); exact HO_1.out) hb); have n1_ := Aside0.mk (Kd.R_below (by (with_reducible repeat (first | apply Kd.R_alloc | apply Kd.R_drewN | apply Kd.R_drew)); exact HO318.out) hb); have n2_ := Aside0.mk (Kd.R_below (by (with_reducible repeat (first | apply Kd.R_alloc | apply Kd.R_drewN | apply Kd.R_drew)); exact HO321.out) hb); have n3_ := Aside0.mk (below_step (by repeat (first | (with_reducible first | exact HB.out | apply below_alloc | apply pw_below_drewN | apply below_drew1) | exact HB.out)) hb); clear HO_1; clear HO318; clear HO321; clear HB; have HO_1 := n0_; have HO318 := n1_; have HO321 := n2_; have HB := n3_; clear n0_ n1_ n2_ n3_; (try clear hb); (try clear hb2); (try clear hk); (try clear hi)) | (go_at_call 33; (with_reducible refine (l01e.calls 5 3 t324 t325 _ A167.out).mono ?_); rintro e w175 ⟨rfl, hb⟩; have n0_ := Aside0.mk (Kd.R_below (by (with_reducible repeat (first | apply Kd.R_alloc | apply Kd.R_drewN | apply Kd.R_drew)); exact HO_1.out) hb); have n1_ := Aside0.mk (Kd.R_below (by (with_reducible repeat (first | apply Kd.R_alloc | apply Kd.R_drewN | apply Kd.R_drew)); exact HO318.out) hb); have n2_ := Aside0.mk (Kd.R_below (by (with_reducible repeat (first | apply Kd.R_alloc | apply Kd.R_drewN | apply Kd.R_drew)); exact HO321.out) hb); have n3_ := Aside0.mk (below_step (by repeat (first | (with_reducible first | exact HB.out | apply below_alloc | apply pw_below_drewN | apply below_drew1) | exact HB.out)) hb); clear HO_1; clear HO318; clear HO321; clear HB; have HO_1 := n0_; have HO318 := n1_; have HO321 := n2_; have HB := n3_; clear n0_ n1_ n2_ n3_; (try clear hb); (try clear hb2); (try clear hk); (try clear hi)) | ((with_reducible refine gate_dst (N := 103) rfl ?_); (try (refine gate_guard (by rfl) ?_; dsimp only)); refine Kd.R_lit k40 _ 40 ?hg (N := 103) ?hd (xs := ([(⟨t322, t323⟩ : S40), (⟨t324, t325⟩ : S40)] : List (S40))) (inner := [.int .i64 t322, .int .i64 t323, .int .i64 t324, .int .i64 t325]) (ok := fun _ => True) (okp := fun _ => True) ?hr ?hp (fun _ hk => hk) trivial (Below.refl _ _) (Nat.le_refl _) (by simp) ?_; (case hd => rfl); (case hg => rfl); (case hr => first | (go_simp; done) | (go_simp; rfl)); (case hp => exact (Reps.c2 (show Kd.M k40 _ _ _ (⟨t322, t323⟩ : S40) [.int .i64 t322, .int .i64 t323] from (k40_mkM _ _ _ (⟨t322, t323⟩ : S40) )) (Reps.c2 (show Kd.M k40 _ _ _ (⟨t324, t325⟩ : S40) [.int .i64 t324, .int .i64 t325] from (k40_mkM _ _ _ (⟨t324, t325⟩ : S40) )) (Reps.none _ _)))); intro v327 w176 ho177 hb hg_ hnew_; clear hg_ hnew_; (first | rw [← Ny326.out] at ho177 | (simp only [Int.reduceToNat] at ho177; rw [← Ny326.out] at ho177)); have n0_ := Aside0.mk (Kd.R_elder' (by (with_reducible repeat (first | apply Kd.R_alloc | apply Kd.R_drewN | apply Kd.R_drew)); exact HO_1.out) (Kd.R_base ho177) hb); have n1_ := Aside0.mk (Kd.R_elder' (by (with_reducible repeat (first | apply Kd.R_alloc | apply Kd.R_drewN | apply Kd.R_drew)); exact HO318.out) (Kd.R_base ho177) hb); have n2_ := Aside0.mk (Kd.R_elder' (by (with_reducible repeat (first | apply Kd.R_alloc | apply Kd.R_drewN | apply Kd.R_drew)); exact HO321.out) (Kd.R_base ho177) hb); have n3_ := Aside0.mk (Kd.R_lower (Kd.R_new' (Kd.R_new' (Kd.R_new' ho177 (Kd.R_lt (by (with_reducible repeat (first | apply Kd.R_alloc | apply Kd.R_drewN | apply Kd.R_drew)); exact HO_1.out))) (Kd.R_lt (by (with_reducible repeat (first | apply Kd.R_alloc | apply Kd.R_drewN | apply Kd.R_drew)); exact HO318.out))) (Kd.R_lt (by (with_reducible repeat (first | apply Kd.R_alloc | apply Kd.R_drewN | apply Kd.R_drew)); exact HO321.out))) (below_size (by repeat (first | (with_reducible first | exact HB.out | apply below_alloc | apply pw_below_drewN | apply below_drew1) | exact HB.out)))); have n4_ := Aside0.mk (below_step (by repeat (first | (with_reducible first | exact HB.out | apply below_alloc | apply pw_below_drewN | apply below_drew1) | exact HB.out)) hb); clear HO_1; clear HO318; clear HO321; clear HB; have HO_1 := n0_; have HO318 := n1_; have HO321 := n2_; have HO328 := n3_; have HB := n4_; clear n0_ n1_ n2_ n3_ n4_; clear hb ho177; obtain ⟨Ao178, co178, eo178⟩ := Kd.R_slice HO321.out; subst eo178; obtain ⟨Ao179, co179, eo179⟩ := Kd.R_slice HO328.out; subst eo179) | (go_at_call 18; (with_reducible refine (r01Same.calls kj138 _ _ t319 _ _ y326 t329 _ ?side1 ?side2 ?side3 ?side4 A168.out).mono ?_); (case side1 => repeat (first | exact (Kd.R_reads' HO321.out).2.2 | (with_reducible refine Kd.C_alloc ?_ _) | (with_reducible refine Kd.C_drewN ?_ _) | (with_reducible refine Kd.C_drew ?_))); (case side2 => exact (Kd.R_reads' HO321.out).2.1); (case side3 => repeat (first | exact (Kd.R_reads' HO328.out).2.2 | (with_reducible refine Kd.C_alloc ?_ _) | (with_reducible refine Kd.C_drewN ?_ _) | (with_reducible refine Kd.C_drew ?_))); (case side4 => exact (Kd.R_reads' HO328.out).2.1); rintro e w' ⟨rfl, ⟨nd, rfl⟩⟩))
                      go_meet
                      case rel => exact ⟨_, (t329), (by first | rfl | (simp; done) | (simp [*]; done)), H', ⟨by have := HJ9.out; have := HJ94.out; have := HJ117.out; have := HJ138.out; first | omega | exact Nat.le_refl _⟩, ⟨by (with_reducible repeat (first | apply Kd.R_alloc | apply Kd.R_drewN | apply Kd.R_drew)); exact Kd.R_mono HO_1.out (fun _ hk => trivial)⟩, ⟨by repeat (first | (with_reducible first | exact HB.out | apply below_alloc | apply pw_below_drewN | apply below_drew1) | exact HB.out)⟩⟩
                    · replace c163 := Bool.eq_false_iff.mpr c163
                      subst c163
                      have H1 : (l01awake.j4 kj138 t220 false) = some r := by rw [if_neg (show ¬ (false = true) by decide)] at H; exact H
                      clear H
                      have H := H1
                      clear H1
                      have H' := Aside0.mk H
                      clear H
                      go_wp2
                      go_meet
                      case rel => exact ⟨_, (false), (by first | rfl | (simp; done) | (simp [*]; done)), H', ⟨by have := HJ9.out; have := HJ94.out; have := HJ117.out; have := HJ138.out; first | omega | exact Nat.le_refl _⟩, ⟨by (with_reducible repeat (first | apply Kd.R_alloc | apply Kd.R_drewN | apply Kd.R_drew)); exact HO_1.out⟩, ⟨by repeat (first | (with_reducible first | exact HB.out | apply below_alloc | apply pw_below_drewN | apply below_drew1) | exact HB.out)⟩⟩
                  case rest =>
                    clear HC162
                    try clear c1
                    try clear c2
                    try clear p2
                    try clear c3
                    try clear c4
                    try clear c9
                    try clear c10
                    try clear c11
                    try clear c13
                    try clear c14
                    try clear c16
                    try clear c18
                    try clear c23
                    try clear c32
                    try clear c33
                    try clear c33b0
                    try clear c33b1
                    try clear c39
                    try clear c40
                    try clear c40b0
                    try clear c40b1
                    try clear c96
                    try clear c98
                    try clear c98b0
                    try clear c98b1
                    try clear c100
                    try clear c100b0
                    try clear c100b1
                    try clear c119
                    try clear c140
                    try clear c163
                    try clear p2
                    obtain ⟨kq, x7_161, rfl, HA, HJ161, HO_1, HB⟩ := hcut
                    cases kq with
                    | zero => exact absurd HA.out (by simp [l01awake.j4])
                    | succ kj161 =>
                      have H := HA.out
                      clear HA
                      simp only [l01awake.j4] at H
                      by_cases c180 : x7_161 = true
                      · subst c180
                        have H1 : ((l01e.f (-3) 5).bind fun bt330 => ((xCount.f kj161 (([(⟨bt330.1, bt330.2⟩ : S40)] : List (S40)))).bind fun t335 => (if t335 = 2 then ((xContains.f t220 10).bind fun t336 => (if t336 = true then ((xContains.f t220 11).bind fun t337 => (some (!t337))) else (some false))) else (some false)))) = some r := by rw [if_pos rfl] at H; exact H
                        clear H
                        have H := H1
                        clear H1
                        replace H := Option.bind_eq_some_iff.mp H
                        obtain ⟨⟨t330, t331⟩, A1810, H⟩ := H
                        replace H : ((xCount.f kj161 (([(⟨t330, t331⟩ : S40)] : List (S40)))).bind fun t335 => (if t335 = 2 then ((xContains.f t220 10).bind fun t336 => (if t336 = true then ((xContains.f t220 11).bind fun t337 => (some (!t337))) else (some false))) else (some false))) = some r := H
                        have A181 := Aside0.mk A1810
                        clear A1810
                        obtain ⟨y332, hy332⟩ : ∃ y_ : List (S40), y_ = (([(⟨t330, t331⟩ : S40)] : List (S40))) := ⟨_, rfl⟩
                        replace H : ((xCount.f kj161 y332).bind fun t335 => (if t335 = 2 then ((xContains.f t220 10).bind fun t336 => (if t336 = true then ((xContains.f t220 11).bind fun t337 => (some (!t337))) else (some false))) else (some false))) = some r := by first | (rw [hy332]; with_reducible exact H) | (have H2_ := (Option.bind_some _ _).symm.trans H; rw [hy332]; with_reducible exact H2_) | (have H2_ := (Option.bind_some _ _).symm.trans H; with_reducible exact H2_) | with_reducible exact H | (rw [hy332]; exact H) | exact H
                        have Ny332 := Aside0.mk hy332
                        clear hy332
                        replace H := Option.bind_eq_some_iff.mp H
                        obtain ⟨t335, A1820, H⟩ := H
                        replace H : (if t335 = 2 then ((xContains.f t220 10).bind fun t336 => (if t336 = true then ((xContains.f t220 11).bind fun t337 => (some (!t337))) else (some false))) else (some false)) = some r := H
                        have A182 := Aside0.mk A1820
                        clear A1820
                        by_cases c183 : t335 = 2
                        · rw [if_pos c183] at H
                          have c183b0 : (t335 == 2) = true := beq_iff_eq.mpr c183
                          have c183b1 : (t335 != 2) = false := bne_eq_false_iff_eq.mpr c183
                          clear c183
                          replace H := Option.bind_eq_some_iff.mp H
                          obtain ⟨t336, A1840, H⟩ := H
                          replace H : (if t336 = true then ((xContains.f t220 11).bind fun t337 => (some (!t337))) else (some false)) = some r := H
                          have A184 := Aside0.mk A1840
                          clear A1840
                          by_cases c185 : t336 = true
                          · subst c185
                            have H1 : ((xContains.f t220 11).bind fun t337 => (some (!t337))) = some r := by rw [if_pos rfl] at H; exact H
                            clear H
                            have H := H1
                            clear H1
                            replace H := Option.bind_eq_some_iff.mp H
                            obtain ⟨t337, A1860, H⟩ := H
                            replace H : (some (!t337)) = some r := H
                            have A186 := Aside0.mk A1860
                            clear A1860
                            obtain rfl := Option.some.inj H
                            go_wp2_with (first | (go_at_call 33; (with_reducible refine (l01e.calls (-3) 5 t330 t331 _ A181.out).mono ?_); rintro e w187 ⟨rfl, hb⟩; have n0_ := Aside0.mk (Kd.R_below (by (with_reducible repeat (first | apply Kd.R_alloc | apply Kd.R_drewN | apply Kd.R_drew)); exact HO_1.out) hb); have n1_ := Aside0.mk (below_step (by repeat (first | (with_reducible first | exact HB.out | apply below_alloc | apply pw_below_drewN | apply below_drew1) | exact HB.out)) hb); clear HO_1; clear HB; have HO_1 := n0_; have HB := n1_; clear n0_ n1_; (try clear hb); (try clear hb2); (try clear hk); (try clear hi)) | ((with_reducible refine gate_dst (N := 109) rfl ?_); (try (refine gate_guard (by rfl) ?_; dsimp only)); refine Kd.R_lit k40 _ 40 ?hg (N := 109) ?hd (xs := ([(⟨t330, t331⟩ : S40)] : List (S40))) (inner := [.int .i64 t330, .int .i64 t331]) (ok := fun _ => True) (okp := fun _ => True) ?hr ?hp (fun _ hk => hk) trivial (Below.refl _ _) (Nat.le_refl _) (by simp) ?_; (case hd => rfl); (case hg => rfl); (case hr => first | (go_simp; done) | (go_simp; rfl)); (case hp => exact (Reps.c2 (show Kd.M k40 _ _ _ (⟨t330, t331⟩ : S40) [.int .i64 t330, .int .i64 t331] from (k40_mkM _ _ _ (⟨t330, t331⟩ : S40) )) (Reps.none _ _))); intro v333 w188 ho189 hb hg_ hnew_; clear hg_ hnew_; (first | rw [← Ny332.out] at ho189 | (simp only [Int.reduceToNat] at ho189; rw [← Ny332.out] at ho189)); have n0_ := Aside0.mk (Kd.R_elder' (by (with_reducible repeat (first | apply Kd.R_alloc | apply Kd.R_drewN | apply Kd.R_drew)); exact HO_1.out) (Kd.R_base ho189) hb); have n1_ := Aside0.mk (Kd.R_lower (Kd.R_new' ho189 (Kd.R_lt (by (with_reducible repeat (first | apply Kd.R_alloc | apply Kd.R_drewN | apply Kd.R_drew)); exact HO_1.out))) (below_size (by repeat (first | (with_reducible first | exact HB.out | apply below_alloc | apply pw_below_drewN | apply below_drew1) | exact HB.out)))); have n2_ := Aside0.mk (below_step (by repeat (first | (with_reducible first | exact HB.out | apply below_alloc | apply pw_below_drewN | apply below_drew1) | exact HB.out)) hb); clear HO_1; clear HB; have HO_1 := n0_; have HO334 := n1_; have HB := n2_; clear n0_ n1_ n2_; clear hb ho189; obtain ⟨Ao190, co190, eo190⟩ := Kd.R_slice HO334.out; subst eo190) | (go_at_call 31; (with_reducible refine (xCount.calls kj161 _ _ y332 t335 _ ?side1 ?side2 A182.out).mono ?_); (case side1 => repeat (first | exact (Kd.R_reads' HO334.out).2.2 | (with_reducible refine Kd.C_alloc ?_ _) | (with_reducible refine Kd.C_drewN ?_ _) | (with_reducible refine Kd.C_drew ?_))); (case side2 => exact (Kd.R_reads' HO334.out).2.1); rintro e w191 ⟨rfl, hb⟩; have n0_ := Aside0.mk (Kd.R_below (by (with_reducible repeat (first | apply Kd.R_alloc | apply Kd.R_drewN | apply Kd.R_drew)); exact HO_1.out) hb); have n1_ := Aside0.mk (Kd.R_below (by (with_reducible repeat (first | apply Kd.R_alloc | apply Kd.R_drewN | apply Kd.R_drew)); exact HO334.out) hb); have n2_ := Aside0.mk (below_step (by repeat (first | (with_reducible first | exact HB.out | apply below_alloc | apply pw_below_drewN | apply below_drew1) | exact HB.out)) hb); clear HO_1; clear HO334; clear HB; have HO_1 := n0_; have HO334 := n1_; have HB := n2_; clear n0_ n1_ n2_; (try clear hb); (try clear hb2); (try clear hk); (try clear hi); obtain ⟨Ao192, co192, eo192⟩ := Kd.R_slice HO_1.out; subst eo192) | (go_at_call 21; (with_reducible refine (xContains.calls _ _ t220 10 true _ ?side1 ?side2 A184.out).mono ?_); (case side1 => repeat (first | exact (Kd.R_reads' HO_1.out).2.2 | (with_reducible refine Kd.C_alloc ?_ _) | (with_reducible refine Kd.C_drewN ?_ _) | (with_reducible refine Kd.C_drew ?_))); (case side2 => exact (Kd.R_reads' HO_1.out).2.1); rintro e w193 ⟨rfl, hb⟩; have n0_ := Aside0.mk (Kd.R_below (by (with_reducible repeat (first | apply Kd.R_alloc | apply Kd.R_drewN | apply Kd.R_drew)); exact HO_1.out) hb); have n1_ := Aside0.mk (Kd.R_below (by (with_reducible repeat (first | apply Kd.R_alloc | apply Kd.R_drewN | apply Kd.R_drew)); exact HO334.out) hb); have n2_ := Aside0.mk (below_step (by repeat (first | (with_reducible first | exact HB.out | apply below_alloc | apply pw_below_drewN | apply below_drew1) | exact HB.out)) hb); clear HO_1; clear HO334; clear HB; have HO_1 := n0_; have HO334 := n1_; have HB := n2_; clear n0_ n1_ n2_; (try clear hb); (try clear hb2); (try clear hk); (try clear hi)) | (go_at_call 21; (with_reducible refine (xContains.calls _ _ t220 11 t337 _ ?side1 ?side2 A186.out).mono ?_); (case side1 => repeat (first | exact (Kd.R_reads' HO_1.out).2.2 | (with_reducible refine Kd.C_alloc ?_ _) | (with_reducible refine Kd.C_drewN ?_ _) | (with_reducible refine Kd.C_drew ?_))); (case side2 => exact (Kd.R_reads' HO_1.out).2.1); rintro e w194 ⟨rfl, hb⟩; have n0_ := Aside0.mk (Kd.R_below (by (with_reducible repeat (first | apply Kd.R_alloc | apply Kd.R_drewN | apply Kd.R_drew)); exact HO_1.out) hb); have n1_ := Aside0.mk (Kd.R_below (by (with_reducible repeat (first | apply Kd.R_alloc | apply Kd.R_drewN | apply Kd.R_drew)); exact HO334.out) hb); have n2_ := Aside0.mk (below_step (by repeat (first | (with_reducible first | exact HB.out | apply below_alloc | apply pw_below_drewN | apply below_drew1) | exact HB.out)) hb); clear HO_1; clear HO334; clear HB; have HO_1 := n0_; have HO334 := n1_; have HB := n2_; clear n0_ n1_ n2_; (try clear hb); (try clear hb2); (try clear hk); (try clear hi)))
                            go_ret
                            exact ⟨by first | rfl | (simp [errW_none, errW_some] <;> rfl) | (simp [*, errW_none, errW_some] <;> rfl), by repeat (first | (with_reducible first | exact HB.out | apply below_alloc | apply pw_below_drewN | apply below_drew1) | exact HB.out)⟩
                          · replace c185 := Bool.eq_false_iff.mpr c185
                            subst c185
                            have H1 : (some false) = some r := by rw [if_neg (show ¬ (false = true) by decide)] at H; exact H
                            clear H
                            have H := H1
                            clear H1
                            obtain rfl := Option.some.inj H
                            go_wp2_with (first | (go_at_call 33; (with_reducible refine (l01e.calls (-3) 5 t330 t331 _ A181.out).mono ?_); rintro e w195 ⟨rfl, hb⟩; have n0_ := Aside0.mk (Kd.R_below (by (with_reducible repeat (first | apply Kd.R_alloc | apply Kd.R_drewN | apply Kd.R_drew)); exact HO_1.out) hb); have n1_ := Aside0.mk (below_step (by repeat (first | (with_reducible first | exact HB.out | apply below_alloc | apply pw_below_drewN | apply below_drew1) | exact HB.out)) hb); clear HO_1; clear HB; have HO_1 := n0_; have HB := n1_; clear n0_ n1_; (try clear hb); (try clear hb2); (try clear hk); (try clear hi)) | ((with_reducible refine gate_dst (N := 109) rfl ?_); (try (refine gate_guard (by rfl) ?_; dsimp only)); refine Kd.R_lit k40 _ 40 ?hg (N := 109) ?hd (xs := ([(⟨t330, t331⟩ : S40)] : List (S40))) (inner := [.int .i64 t330, .int .i64 t331]) (ok := fun _ => True) (okp := fun _ => True) ?hr ?hp (fun _ hk => hk) trivial (Below.refl _ _) (Nat.le_refl _) (by simp) ?_; (case hd => rfl); (case hg => rfl); (case hr => first | (go_simp; done) | (go_simp; rfl)); (case hp => exact (Reps.c2 (show Kd.M k40 _ _ _ (⟨t330, t331⟩ : S40) [.int .i64 t330, .int .i64 t331] from (k40_mkM _ _ _ (⟨t330, t331⟩ : S40) )) (Reps.none _ _))); intro v333 w196 ho197 hb hg_ hnew_; clear hg_ hnew_; (first | rw [← Ny332.out] at ho197 | (simp only [Int.reduceToNat] at ho197; rw [← Ny332.out] at ho197)); have n0_ := Aside0.mk (Kd.R_elder' (by (with_reducible repeat (first | apply Kd.R_alloc | apply Kd.R_drewN | apply Kd.R_drew)); exact HO_1.out) (Kd.R_base ho197) hb); have n1_ := Aside0.mk (Kd.R_lower (Kd.R_new' ho197 (Kd.R_lt (by (with_reducible repeat (first | apply Kd.R_alloc | apply Kd.R_drewN | apply Kd.R_drew)); exact HO_1.out))) (below_size (by repeat (first | (with_reducible first | exact HB.out | apply below_alloc | apply pw_below_drewN | apply below_drew1) | exact HB.out)))); have n2_ := Aside0.mk (below_step (by repeat (first | (with_reducible first | exact HB.out | apply below_alloc | apply pw_below_drewN | apply below_drew1) | exact HB.out)) hb); clear HO_1; clear HB; have HO_1 := n0_; have HO334 := n1_; have HB := n2_; clear n0_ n1_ n2_; clear hb ho197; obtain ⟨Ao198, co198, eo198⟩ := Kd.R_slice HO334.out; subst eo198) | (go_at_call 31; (with_reducible refine (xCount.calls kj161 _ _ y332 t335 _ ?side1 ?side2 A182.out).mono ?_); (case side1 => repeat (first | exact (Kd.R_reads' HO334.out).2.2 | (with_reducible refine Kd.C_alloc ?_ _) | (with_reducible refine Kd.C_drewN ?_ _) | (with_reducible refine Kd.C_drew ?_))); (case side2 => exact (Kd.R_reads' HO334.out).2.1); rintro e w199 ⟨rfl, hb⟩; have n0_ := Aside0.mk (Kd.R_below (by (with_reducible repeat (first | apply Kd.R_alloc | apply Kd.R_drewN | apply Kd.R_drew)); exact HO_1.out) hb); have n1_ := Aside0.mk (Kd.R_below (by (with_reducible repeat (first | apply Kd.R_alloc | apply Kd.R_drewN | apply Kd.R_drew)); exact HO334.out) hb); have n2_ := Aside0.mk (below_step (by repeat (first | (with_reducible first | exact HB.out | apply below_alloc | apply pw_below_drewN | apply below_drew1) | exact HB.out)) hb); clear HO_1; clear HO334; clear HB; have HO_1 := n0_; have HO334 := n1_; have HB := n2_; clear n0_ n1_ n2_; (try clear hb); (try clear hb2); (try clear hk); (try clear hi); obtain ⟨Ao200, co200, eo200⟩ := Kd.R_slice HO_1.out; subst eo200) | (go_at_call 21; (with_reducible refine (xContains.calls _ _ t220 10 false _ ?side1 ?side2 A184.out).mono ?_); (case side1 => repeat (first | exact (Kd.R_reads' HO_1.out).2.2 | (with_reducible refine Kd.C_alloc ?_ _) | (with_reducible refine Kd.C_drewN ?_ _) | (with_reducible refine Kd.C_drew ?_))); (case side2 => exact (Kd.R_reads' HO_1.out).2.1); rintro e w201 ⟨rfl, hb⟩; have n0_ := Aside0.mk (Kd.R_below (by (with_reducible repeat (first | apply Kd.R_alloc | apply Kd.R_drewN | apply Kd.R_drew)); exact HO_1.out) hb); have n1_ := Aside0.mk (Kd.R_below (by (with_reducible repeat (first | apply Kd.R_alloc | apply Kd.R_drewN | apply Kd.R_drew)); exact HO334.out) hb); have n2_ := Aside0.mk (below_step (by repeat (first | (with_reducible first | exact HB.out | apply below_alloc | apply pw_below_drewN | apply below_drew1) | exact HB.out)) hb); clear HO_1; clear HO334; clear HB; have HO_1 := n0_; have HO334 := n1_; have HB := n2_; clear n0_ n1_ n2_; (try clear hb); (try clear hb2); (try clear hk); (try clear hi)))
                            go_ret
                            exact ⟨by first | rfl | (simp [errW_none, errW_some] <;> rfl) | (simp [*, errW_none, errW_some] <;> rfl), by repeat (first | (with_reducible first | exact HB.out | apply below_alloc | apply pw_below_drewN | apply below_drew1) | exact HB.out)⟩
                        · rw [if_neg c183] at H
                          have c183b0 : (t335 == 2) = false := beq_eq_false_iff_ne.mpr c183
                          have c183b1 : (t335 != 2) = true := bne_iff_ne.mpr c183
                          obtain rfl := Option.some.inj H
                          go_wp2_with (first | (go_at_call 33; (with_reducible refine (l01e.calls (-3) 5 t330 t331 _ A181.out).mono ?_); rintro e w202 ⟨rfl, hb⟩; have n0_ := Aside0.mk (Kd.R_below (by (with_reducible repeat (first | apply Kd.R_alloc | apply Kd.R_drewN | apply Kd.R_drew)); exact HO_1.out) hb); have n1_ := Aside0.mk (below_step (by repeat (first | (with_reducible first | exact HB.out | apply below_alloc | apply pw_below_drewN | apply below_drew1) | exact HB.out)) hb); clear HO_1; clear HB; have HO_1 := n0_; have HB := n1_; clear n0_ n1_; (try clear hb); (try clear hb2); (try clear hk); (try clear hi)) | ((with_reducible refine gate_dst (N := 109) rfl ?_); (try (refine gate_guard (by rfl) ?_; dsimp only)); refine Kd.R_lit k40 _ 40 ?hg (N := 109) ?hd (xs := ([(⟨t330, t331⟩ : S40)] : List (S40))) (inner := [.int .i64 t330, .int .i64 t331]) (ok := fun _ => True) (okp := fun _ => True) ?hr ?hp (fun _ hk => hk) trivial (Below.refl _ _) (Nat.le_refl _) (by simp) ?_; (case hd => rfl); (case hg => rfl); (case hr => first | (go_simp; done) | (go_simp; rfl)); (case hp => exact (Reps.c2 (show Kd.M k40 _ _ _ (⟨t330, t331⟩ : S40) [.int .i64 t330, .int .i64 t331] from (k40_mkM _ _ _ (⟨t330, t331⟩ : S40) )) (Reps.none _ _))); intro v333 w203 ho204 hb hg_ hnew_; clear hg_ hnew_; (first | rw [← Ny332.out] at ho204 | (simp only [Int.reduceToNat] at ho204; rw [← Ny332.out] at ho204)); have n0_ := Aside0.mk (Kd.R_elder' (by (with_reducible repeat (first | apply Kd.R_alloc | apply Kd.R_drewN | apply Kd.R_drew)); exact HO_1.out) (Kd.R_base ho204) hb); have n1_ := Aside0.mk (Kd.R_lower (Kd.R_new' ho204 (Kd.R_lt (by (with_reducible repeat (first | apply Kd.R_alloc | apply Kd.R_drewN | apply Kd.R_drew)); exact HO_1.out))) (below_size (by repeat (first | (with_reducible first | exact HB.out | apply below_alloc | apply pw_below_drewN | apply below_drew1) | exact HB.out)))); have n2_ := Aside0.mk (below_step (by repeat (first | (with_reducible first | exact HB.out | apply below_alloc | apply pw_below_drewN | apply below_drew1) | exact HB.out)) hb); clear HO_1; clear HB; have HO_1 := n0_; have HO334 := n1_; have HB := n2_; clear n0_ n1_ n2_; clear hb ho204; obtain ⟨Ao205, co205, eo205⟩ := Kd.R_slice HO334.out; subst eo205) | (go_at_call 31; (with_reducible refine (xCount.calls kj161 _ _ y332 t335 _ ?side1 ?side2 A182.out).mono ?_); (case side1 => repeat (first | exact (Kd.R_reads' HO334.out).2.2 | (with_reducible refine Kd.C_alloc ?_ _) | (with_reducible refine Kd.C_drewN ?_ _) | (with_reducible refine Kd.C_drew ?_))); (case side2 => exact (Kd.R_reads' HO334.out).2.1); rintro e w206 ⟨rfl, hb⟩; have n0_ := Aside0.mk (Kd.R_below (by (with_reducible repeat (first | apply Kd.R_alloc | apply Kd.R_drewN | apply Kd.R_drew)); exact HO_1.out) hb); have n1_ := Aside0.mk (Kd.R_below (by (with_reducible repeat (first | apply Kd.R_alloc | apply Kd.R_drewN | apply Kd.R_drew)); exact HO334.out) hb); have n2_ := Aside0.mk (below_step (by repeat (first | (with_reducible first | exact HB.out | apply below_alloc | apply pw_below_drewN | apply below_drew1) | exact HB.out)) hb); clear HO_1; clear HO334; clear HB; have HO_1 := n0_; have HO334 := n1_; have HB := n2_; clear n0_ n1_ n2_; (try clear hb); (try clear hb2); (try clear hk); (try clear hi)))
                          go_ret
                          exact ⟨by first | rfl | (simp [errW_none, errW_some] <;> rfl) | (simp [*, errW_none, errW_some] <;> rfl), by repeat (first | (with_reducible first | exact HB.out | apply below_alloc | apply pw_below_drewN | apply below_drew1) | exact HB.out)⟩
                      · replace c180 := Bool.eq_false_iff.mpr c180
                        subst c180
                        have H1 : (some false) = some r := by rw [if_neg (show ¬ (false = true) by decide)] at H; exact H
                        clear H
                        have H := H1
                        clear H1
                        obtain rfl := Option.some.inj H
                        go_wp2
                        go_ret
                        exact ⟨by first | rfl | (simp [errW_none, errW_some] <;> rfl) | (simp [*, errW_none, errW_some] <;> rfl), by repeat (first | (with_reducible first | exact HB.out | apply below_alloc | apply pw_below_drewN | apply below_drew1) | exact HB.out)⟩
end Go.Proofs.Yteeedheklnelkaa.P

namespace Go.Proofs.Yteeedheklnelkaa.P
open Go.RowKit Go.Proofs.YteeedheklnelkaaW.PrintWords Go.Proofs.YteeedheklnelkaaW.PrintLast Go.Proofs.YteeedheklnelkaaW.PrintMore
attribute [local go_sem] max2_int min2_int max_two min_two max_three min_three max_four min_four
def r01Complement.f (l : List S40) (size : Int) : Option (List S40) :=
  (r01Marks.f 20000 l).bind fun m => if m.length = 4096 then r01List.f 20000 ((m.take (mx 0 (mn size 4096)).toNat).map (!·)) else none
def turned (m : List Bool) (k : Nat) : List Bool := (m.take k).map (!·) ++ m.drop k
theorem turned_length (m : List Bool) (k : Nat) (hk : k ≤ m.length) : (turned m k).length = m.length := by simp [turned]; omega
theorem turned_at (m : List Bool) (k : Nat) (hk : k < m.length) : (turned m k)[k]? = some m[k] := by
  unfold turned
  rw [List.getElem?_append_right (by simp; omega)]
  simp [Nat.min_eq_left (Nat.le_of_lt hk), hk]
theorem turned_succ (m : List Bool) (k : Nat) (hk : k < m.length) : (turned m k).set k (!m[k]) = turned m (k + 1) := by
  apply List.ext_getElem?
  intro i
  rw [List.getElem?_set]
  unfold turned
  by_cases h : k = i
  · subst h
    rw [if_pos rfl, if_pos (by simp; omega), List.getElem?_append_left (by simp; omega)]
    simp [hk]
  · rw [if_neg h]
    by_cases h2 : i < k
    · rw [List.getElem?_append_left (by simp; omega), List.getElem?_append_left (by simp; omega)]
      simp [List.getElem?_take, h2, show i < k + 1 by omega]
    · rw [List.getElem?_append_right (by simp; omega), List.getElem?_append_right (by simp; omega)]
      simp only [List.length_map, List.length_take, List.getElem?_drop, Nat.min_eq_left (Nat.le_of_lt hk), Nat.min_eq_left (show k + 1 ≤ m.length by omega)]
      congr 1; omega
theorem reps_bools {R : Bool → List Value → Prop} (hR : ∀ x cs, R x cs → cs = [Value.bool x]) {m : List Bool} {inner : List Value} (h : Reps R 1 m inner) : inner = m.map Value.bool := by
  obtain ⟨h1, h2⟩ := h
  apply List.ext_getElem?
  intro j
  rcases Nat.lt_or_ge j m.length with hj | hj
  · have := hR _ _ (h2 j m[j] (List.getElem?_eq_getElem hj))
    have hl : j < inner.length := by omega
    rw [List.getElem?_map, List.getElem?_eq_getElem hj, Option.map_some]
    have e := congrArg (·[0]?) this
    simpa [List.getElem?_take, List.getElem?_drop] using e
  · rw [List.getElem?_eq_none (by omega), List.getElem?_eq_none (by simp; omega)]
set_option maxHeartbeats 4000000 in
set_option maxRecDepth 100000 in
theorem r01Complement.calls (A0 : Option Addr) (c0 : Nat) (l0 : List (S40)) (a1 : Int) (r : List (S40)) (w : World) (hr0 : Kd.C k40 w A0 l0.length l0) (hc0 : l0.length ≤ c0) (h : r01Complement.f l0 a1 = some r) :
    Calls Try.prog 20 #[.slice A0 l0.length c0, .int .i64 a1] w fun e w' => ∃ v0_ : Value, e = .returned (v0_) ∧ Kd.R k40 40 w' w.heap.size (fun _ => True) v0_ r ∧ Below w.heap.size w w' := by
  obtain ⟨m, hm, hl, hlist⟩ : ∃ m, r01Marks.f 20000 l0 = some m ∧ m.length = 4096 ∧ r01List.f 20000 ((m.take (mx 0 (mn a1 4096)).toNat).map (!·)) = some r := by
    unfold r01Complement.f at h
    obtain ⟨m, hm, h2⟩ := Option.bind_eq_some_iff.mp h
    by_cases hl : m.length = 4096
    · rw [if_pos hl] at h2; exact ⟨m, hm, hl, h2⟩
    · rw [if_neg hl] at h2; cases h2
  obtain ⟨n, hn, hn2⟩ : ∃ n : Nat, mx 0 (mn a1 4096) = n ∧ n ≤ 4096 := ⟨(mx 0 (mn a1 4096)).toNat, by rw [mx_eq, mn_eq]; omega, by rw [mx_eq, mn_eq]; omega⟩
  rw [hn, Int.toNat_natCast] at hlist
  have HN := Aside0.mk hn
  have HM := Aside0.mk (r01Marks.calls 20000 A0 c0 l0 m w hr0 hc0 hm)
  have HLS := Aside0.mk hlist
  have HL := Aside0.mk hl
  clear hm hl hlist h hr0 hc0 hn
  go_enter Try.func20, Try.ntmps20
  go_wp2_with fail
  refine HM.out.mono ?_
  rintro e w1 ⟨v, rfl, hR, hb⟩
  obtain ⟨-, inner, ho, hrep⟩ := hR
  have hin := reps_bools (fun x cs hx => hx) hrep
  subst hin
  have hlen := HL.out
  obtain ⟨g, cap, hv, hcap⟩ : ∃ g cap, v = .slice (some ⟨g, 0, none⟩) 4096 cap ∧ 4096 ≤ cap := by
    rcases ho.2 with ⟨_, h2⟩ | ⟨g, cap, cur, h1, _, _, h2, _⟩
    · omega
    · rw [hlen] at h1 h2; exact ⟨g, cap, h1, h2⟩
  subst hv
  have HO := Aside0.mk ho
  have HB := Aside0.mk hb
  clear ho hb hrep hlen
  have hnc : n ≤ cap := by omega
  obtain ⟨y, hy⟩ : ∃ y : Int, (if (4096 : Int) < a1 then (4096 : Int) else a1) = y := ⟨_, rfl⟩
  have hy2 : (if (0 : Int) < y then y else 0) = (n : Int) := by
    have := HN.out
    rw [mx_eq, mn_eq] at this
    rw [← hy]
    split <;> split <;> omega
  go_wp2_with fail
  clear hy hy2
  go_loopw [6] (fun i wr => ∃ k : Nat, k ≤ n ∧ i = .int .i64 k ∧ Aside0 (wr.ownsRow w.heap.size 4 1 (.slice (some ⟨g, 0, none⟩) 4096 cap) 4096 ((turned m k).map Value.bool)) ∧ Aside0 (Below w.heap.size w wr))
    (fun i _ => n - (intOf i).toNat)
  case atStart => exact ⟨0, Nat.zero_le _, rfl, ⟨(by have := HO.out; rw [HL.out] at this; rw [show turned m 0 = m by simp [turned]]; exact this)⟩, HB⟩
  case round =>
    obtain ⟨k, hk, rfl, HR, HBw⟩ := hrel
    by_cases hlt : k < n
    · have hkm : k < m.length := by have := HL.out; omega
      have hc : wr.cell? ⟨g, k, none⟩ = some (.bool m[k]) := by
        have := HR.out.cellAt k (by have := turned_length m k (by omega); omega)
        rw [this, List.getElem?_map, turned_at m k hkm]; rfl
      have hf : wr.frozen? ⟨g, k, none⟩ = false := HR.out.frozenAt k
      obtain ⟨b, hbk⟩ : ∃ b, b = m[k] := ⟨_, rfl⟩
      rw [← hbk] at hc
      have hst := (HR.out.stored k (.bool (!b))).1
      have HR2 : Aside0 ((wr.setCell ⟨g, k, none⟩ (.bool (!b))).ownsRow w.heap.size 4 1 (.slice (some ⟨g, 0, none⟩) 4096 cap) 4096 ((turned m (k + 1)).map Value.bool)) := ⟨by
        rw [← turned_succ m k hkm, List.map_set, ← hbk]; exact hst⟩
      have HB2 : Aside0 (Below w.heap.size w (wr.setCell ⟨g, k, none⟩ (.bool (!b)))) := ⟨HBw.out.setCell (p := ⟨g, k, none⟩) (own_base HR.out g rfl) _⟩
      have hk5 : k < 5000 := by omega
      have hkd : decide (k < n) = true := decide_eq_true hlt
      clear hst hbk
      go_wp2
      go_roundw
      case rel => exact ⟨k + 1, by omega, by go_num, HR2, HB2⟩
      case measure => simp [intOf]; omega
    · obtain rfl : k = n := by omega
      have hC : Kd.C Kd.bool wr (some ⟨g, 0, none⟩) ((m.take k).map (!·)).length ((m.take k).map (!·)) := ⟨rfl, by have := HL.out; simp; omega, fun _ => ⟨_, rfl, fun j p hj => ⟨[.bool p], rfl, rfl, fun i u hu => by
        have hi : i = 0 := by
          have := (List.getElem?_eq_some_iff.1 hu).1
          simp at this; exact this
        subst hi
        obtain rfl : Value.bool p = u := by simpa using hu
        have hjl := (List.getElem?_eq_some_iff.1 hj).1
        have hjk : j < k := by simp at hjl; omega
        rw [show j * Kd.bool.sz + 0 = j by show j * 1 + 0 = j; omega, add_plain]
        have hml := HL.out
        have := HR.out.cellAt j (by omega)
        rw [this, List.getElem?_map]
        have e : (turned m k)[j]? = some p := by unfold turned; rw [List.getElem?_append_left hjl]; exact hj
        rw [e]; rfl⟩⟩⟩
      have hlen : ((m.take k).map (!·)).length = k := by have := HL.out; simp; omega
      have hcon := r01List.calls 20000 (some ⟨g, 0, none⟩) cap ((m.take k).map (!·)) r wr hC (by rw [hlen]; exact hnc) HLS.out
      rw [hlen] at hcon
      have HCON := Aside0.mk hcon
      clear hC hlen hcon
      go_wp2_with fail
      refine HCON.out.mono ?_
      rintro e w2 ⟨v, rfl, hR2, hb2⟩
      have HRR := Aside0.mk (Kd.R_lower hR2 HBw.out.size)
      have HBB := Aside0.mk (below_step HBw.out hb2)
      clear hR2 hb2
      go_wp2
      go_ret
      exact ⟨v, rfl, HRR.out, HBB.out⟩
end Go.Proofs.Yteeedheklnelkaa.P

namespace Go.Proofs.Yteeedheklnelkaa.P
open Go.RowKit Go.Proofs.YteeedheklnelkaaW.PrintWords Go.Proofs.YteeedheklnelkaaW.PrintLast Go.Proofs.YteeedheklnelkaaW.PrintMore
theorem canonN_zero (p : Nat → Bool) : canonN 0 p = [] := by unfold canonN; rfl
theorem canonN_succ (N : Nat) (p : Nat → Bool) : canonN (N + 1) p = if p N then joinE (canonN N p) N else canonN N p := by
  unfold canonN
  rw [List.range_succ, List.filter_append, List.map_append, List.foldl_append, List.filter_cons]
  cases p N
  · rfl
  · rfl
theorem asc_le_end : ∀ (L : List S40) (p : Int), Asc p L → p ≤ endL p L ∧ ∀ e ∈ L, e.f0 + e.f1 ≤ endL p L
  | [], p, _ => ⟨Int.le_refl _, fun _ h => by cases h⟩
  | x :: L, p, h => by
    obtain ⟨h1, h2, h3⟩ := h
    obtain ⟨i1, i2⟩ := asc_le_end L _ h3
    rw [endL]
    refine ⟨by omega, fun e he => ?_⟩
    rcases List.mem_cons.1 he with rfl | he
    · exact i1
    · exact i2 e he
theorem canonN_len (N : Nat) (_hN : N ≤ 1000000) (p : Nat → Bool) : (canonN N p).length ≤ N := by
  unfold canonN
  have h := fold_len (((List.range N).filter p).map fun (b : Nat) => (b : Int)) []
  have h2 := List.length_filter_le p (List.range N)
  rw [List.length_range] at h2
  rw [List.length_map] at h
  simp only [List.length_nil] at h
  omega
/-- Behind i places: the last extent ends at i iff the place before i is marked. -/
theorem canonN_last (i : Nat) (hi : i ≤ 1000000) (p : Nat → Bool) (h0 : 0 < i) (hp : p (i - 1) = true) : ∃ M e, canonN i p = M ++ [e] ∧ e.f0 + e.f1 = (i : Int) := by
  have J := canonN_joined i hi p
  have hc := (canonN_cov i hi p ((i - 1 : Nat) : Int)).2 ⟨by omega, by omega, by rw [Int.toNat_natCast]; exact hp⟩
  have hasc := J.asc
  have hbd := J.bound
  generalize canonN i p = L at hc hasc hbd
  obtain ⟨e, he, h1, h2⟩ := hc
  have hend := (asc_le_end L (-1) hasc).2 e he
  rcases L.eq_nil_or_concat with h | ⟨M, x, h⟩
  · subst h; cases he
  · rw [List.concat_eq_append] at h
    subst h
    rw [endL_snoc] at hend
    have := hbd x (by simp)
    exact ⟨M, x, rfl, by omega⟩
theorem canonN_not_last (i : Nat) (hi : i ≤ 1000000) (p : Nat → Bool) (hp : 0 < i → p (i - 1) = false) : canonN i p = [] ∨ ∃ M e, canonN i p = M ++ [e] ∧ wrap64 (e.f0 + e.f1) ≠ i := by
  have J := canonN_joined i hi p
  have hcov := fun t => canonN_cov i hi p t
  have hbd := J.bound
  generalize canonN i p = L at hcov hbd
  rcases L.eq_nil_or_concat with h | ⟨M, e, h⟩
  · exact .inl h
  · rw [List.concat_eq_append] at h
    subst h
    right
    have hb := hbd e (by simp)
    refine ⟨M, e, rfl, ?_⟩
    rw [w64 _ (by omega) (by omega)]
    intro hEq
    have := (hcov ((i - 1 : Nat) : Int)).1 ⟨e, by simp, by omega, by omega⟩
    rw [Int.toNat_natCast, hp (by omega)] at this
    cases this.2.2
theorem list_loop (N : Nat) (hN : N ≤ 100000) (p : Nat → Bool) : ∀ (n k i : Nat), i + n = N → n < k → r01List.l0 k (bvN N p) (canonN i p) i = some (canonN N p) := by
  intro n
  induction n with
  | zero =>
    intro k i hi hk
    obtain ⟨k, rfl⟩ : ∃ m, k = m + 1 := ⟨k - 1, by omega⟩
    obtain rfl : i = N := by omega
    rw [r01List.l0, if_neg (by rw [bvN_length]; omega)]
  | succ n ih =>
    intro k i hi hk
    obtain ⟨k, rfl⟩ : ∃ m, k = m + 1 := ⟨k - 1, by omega⟩
    have hlen := canonN_len i (by omega) p
    have ih' := ih k (i + 1) (by omega) (by omega)
    rw [canonN_succ] at ih'
    rw [r01List.l0, bvN_length, if_pos (by omega), if_pos (by omega), bvN_get p (by omega), wsucc i (by omega)]
    cases hp : p i
    · rw [hp, if_neg (by decide)] at ih'
      rw [if_neg (by decide), ih']
    · rw [hp, if_pos rfl] at ih'
      rw [if_pos rfl]
      have happ : (canonN i p = [] ∨ ∃ M e, canonN i p = M ++ [e] ∧ wrap64 (e.f0 + e.f1) ≠ i) → joinE (canonN i p) i = canonN i p ++ [⟨(i : Int), 1⟩] := by
        rintro (h | ⟨M, e, h, hne⟩)
        · rw [h]; rfl
        · rw [h, joinE_snoc, if_neg hne]
      by_cases h0 : (i : Int) > 0
      · have e1 : wrap64 ((i : Int) - 1) = ((i - 1 : Nat) : Int) := by rw [w64 _ (by omega) (by omega)]; omega
        rw [if_pos h0, e1, if_pos (by omega), if_pos (by omega), bvN_get p (by omega)]
        cases hq : p (i - 1)
        · rw [if_neg (by decide), if_pos (by omega), ← happ (canonN_not_last i (by omega) p (fun _ => hq)), ih']
        · rw [if_pos rfl]
          obtain ⟨M, e, hM, hend⟩ := canonN_last i (by omega) p (by omega) hq
          rw [hM] at hlen ih' ⊢
          have hl : (M ++ [e]).length = M.length + 1 := by simp
          have hd : wrap64 (((M ++ [e]).length : Int) - 1) = (M.length : Int) := by rw [hl, w64 _ (by omega) (by omega)]; omega
          have hr : rd_T40 (M ++ [e]) (M.length : Int) = e := by
            unfold rd_T40
            rw [Int.toNat_natCast, List.getD_eq_getElem?_getD, List.getElem?_append_right (Nat.le_refl _)]
            simp
          have hset : (M ++ [e]).set M.length (⟨e.f0, wrap64 (e.f1 + 1)⟩ : S40) = M ++ [⟨e.f0, wrap64 (e.f1 + 1)⟩] := by
            rw [List.set_append_right _ _ (Nat.le_refl _)]; simp
          rw [hd, if_pos (by omega), if_pos (by rw [hl]; omega), hr, Int.toNat_natCast, hset]
          rw [joinE_snoc, if_pos (by rw [w64 _ (by omega) (by omega)]; exact hend)] at ih'
          exact ih'
      · rw [if_neg h0, if_pos (by omega), ← happ (canonN_not_last i (by omega) p (fun h => by omega)), ih']
theorem list_eq (N : Nat) (hN : N ≤ 4096) (p : Nat → Bool) {k : Nat} (hk : 5000 ≤ k) : r01List.f k (bvN N p) = some (canonN N p) := by
  unfold r01List.f
  have := list_loop N (by omega) p N k 0 (by omega) (by omega)
  rw [canonN_zero] at this
  exact this
theorem same_loop (l : List S40) (hl : l.length ≤ 100000) : ∀ (n k i : Nat), i + n = l.length → n < k → r01Same.l0 k l l i = some true := by
  intro n
  induction n with
  | zero =>
    intro k i hi hk
    obtain ⟨k, rfl⟩ : ∃ m, k = m + 1 := ⟨k - 1, by omega⟩
    rw [r01Same.l0, if_neg (by omega)]
  | succ n ih =>
    intro k i hi hk
    obtain ⟨k, rfl⟩ : ∃ m, k = m + 1 := ⟨k - 1, by omega⟩
    rw [r01Same.l0, if_pos (by omega), if_pos (by omega), if_pos (by omega), if_neg (by simp), wsucc i (by omega), ih k (i + 1) (by omega) (by omega)]
theorem same_eq (l : List S40) {k : Nat} (hl : l.length ≤ 10000) (hk : 10001 ≤ k) : r01Same.f k l l = some true := by
  unfold r01Same.f
  rw [if_pos rfl]
  exact same_loop l (by omega) l.length k 0 (by omega) (by omega)
end Go.Proofs.Yteeedheklnelkaa.P

namespace Go.Proofs.Yteeedheklnelkaa.P
open Go.RowKit Go.Proofs.YteeedheklnelkaaW.PrintWords Go.Proofs.YteeedheklnelkaaW.PrintLast Go.Proofs.YteeedheklnelkaaW.PrintMore
theorem xSubtract_eq (a b : List S40) (h : a.length + b.length ≤ 100000) : xSubtract.f a b = some (canon fun j => inL a j && !inL b j) := by unfold xSubtract.f opX; rw [if_pos h]
theorem xContains_eq (l : List S40) (x : Int) (h : l.length ≤ 100000) : xContains.f l x = some (inL l x) := by unfold xContains.f; rw [if_pos (by omega)]
/-- Below a size. -/
def belowS (size : Int) (j : Nat) : Bool := decide ((j : Int) < size)
theorem inL_head (n : Int) (h0 : 0 ≤ n) (h1 : n ≤ 4096) {j : Nat} (hj : j < 4096) : inL [⟨0, n⟩] (j : Int) = belowS n j := by
  unfold inL
  rw [List.any_cons, List.any_nil, Bool.or_false, inE_eq ⟨by simp only; omega, by simp only; omega, by simp only; omega, by simp only; omega⟩ hj]
  unfold belowS
  rw [decide_eq_decide]
  simp only
  omega
theorem xComplement_eq (l : List S40) (size : Int) (h : l.length ≤ 90000) : xComplement.f l size = some (canon fun j => belowS size j && !inL l j) := by
  unfold xComplement.f
  rw [xSubtract_eq _ _ (by simp; omega), Option.bind_some]
  congr 1
  refine canon_congr fun j hj => ?_
  rw [inL_head _ (by rw [mn_eq, mx_eq]; omega) (by rw [mn_eq]; omega) hj]
  congr 1
  unfold belowS
  rw [decide_eq_decide, mn_eq, mx_eq]; omega
theorem rComplement_eq (l : List S40) (size : Int) (h : l.length ≤ 5000) (hr : ∀ e ∈ l, R64 e) : r01Complement.f l size = some (canon fun j => belowS size j && !inL l j) := by
  unfold r01Complement.f
  rw [marks_eq l h hr (by decide), Option.bind_some, if_pos (bvN_length _ _)]
  obtain ⟨n, hn, hn2⟩ : ∃ n : Nat, mx 0 (mn size 4096) = n ∧ n ≤ 4096 := ⟨(mx 0 (mn size 4096)).toNat, by rw [mx_eq, mn_eq]; omega, by rw [mx_eq, mn_eq]; omega⟩
  rw [hn, Int.toNat_natCast]
  have e : ((bvN 4096 fun j => inL l j).take n).map (!·) = bvN n fun j => !inL l j := by
    unfold bvN
    rw [← List.map_take, List.take_range, Nat.min_eq_left hn2, List.map_map]; rfl
  rw [e, list_eq n hn2 _ (by decide)]
  congr 1
  refine canon_of (canonN_joined n (by omega) _).asc fun t => ?_
  rw [canonN_cov n (by omega)]
  have hs : ∀ t : Int, 0 ≤ t → t < 4096 → (t < (n : Int) ↔ t < size) := fun t h0 h1 => by
    rw [← hn, mx_eq, mn_eq]; omega
  constructor
  · rintro ⟨h1, h2, h3⟩
    have h4 : t < 4096 := by omega
    refine ⟨h1, h4, ?_⟩
    show (belowS size t.toNat && !inL l (t.toNat : Int)) = true
    unfold belowS
    rw [Int.toNat_of_nonneg h1, decide_eq_true ((hs t h1 h4).1 h2), Bool.true_and]
    rw [Int.toNat_of_nonneg h1] at h3
    exact h3
  · rintro ⟨h1, h2, h3⟩
    have h3 : (belowS size t.toNat && !inL l (t.toNat : Int)) = true := h3
    unfold belowS at h3
    rw [Int.toNat_of_nonneg h1, Bool.and_eq_true, decide_eq_true_iff] at h3
    refine ⟨h1, (hs t h1 h2).2 h3.1, ?_⟩
    rw [Int.toNat_of_nonneg h1]
    exact h3.2
theorem rContains_eq (l : List S40) (x : Int) (h : l.length ≤ 5000) (hr : ∀ e ∈ l, R64 e) {k : Nat} (hk : 11000 ≤ k) : r01Contains.f k l x = some (inL l x) := by
  unfold r01Contains.f
  by_cases h0 : x ≥ 0
  · rw [if_pos h0]
    by_cases h1 : x < 4096
    · obtain ⟨j, rfl⟩ : ∃ j : Nat, x = j := ⟨x.toNat, by omega⟩
      rw [if_pos h1, marks_eq l h hr hk, Option.bind_some, if_pos h0, bvN_length, if_pos (by omega), bvN_get _ (by omega)]
    · rw [if_neg h1]
      congr 1
      cases hb : inL l x
      · rfl
      · have := inL_range hb; omega
  · rw [if_neg h0]
    congr 1
    cases hb : inL l x
    · rfl
    · have := inL_range hb; omega
end Go.Proofs.Yteeedheklnelkaa.P

namespace Go.Proofs.Yteeedheklnelkaa.P
open Go.RowKit Go.Proofs.YteeedheklnelkaaW.PrintWords Go.Proofs.YteeedheklnelkaaW.PrintLast Go.Proofs.YteeedheklnelkaaW.PrintMore
theorem awake100 : l01awake.f 100 = some true := by kernel_rfl
theorem awake_eq {k : Nat} (hk : 100 ≤ k) : l01awake.f k = some true := by
  obtain ⟨n, rfl⟩ : ∃ n, k = 100 + n := ⟨k - 100, by omega⟩
  clear hk
  induction n with
  | zero => exact awake100
  | succ n ih => exact l01awake.mono _ _ ih
end Go.Proofs.Yteeedheklnelkaa.P

namespace Go.Proofs.Yteeedheklnelkaa.P
open Go.RowKit Go.Proofs.YteeedheklnelkaaW.PrintWords Go.Proofs.YteeedheklnelkaaW.PrintLast Go.Proofs.YteeedheklnelkaaW.PrintMore
attribute [local go_sem] max2_int min2_int max_two min_two max_three min_three max_four min_four   -- for this text's walks alone
set_option linter.unusedVariables false
set_option linter.unusedSimpArgs false
def l01ExtentComplements.f (k : Nat) (l0 : List (S40)) (a1 : Int) (a2 : Int) : Option (Bool) := (l01few.f l0 ([] : List (S40))).bind fun t378 => (if t378 = true then ((xComplement.f l0 a1).bind fun t380 => ((r01Complement.f l0 a1).bind fun t383 => ((r01Same.f k t380 t383).bind fun t386 => (if t386 = true then ((xContains.f l0 a2).bind fun t387 => ((r01Contains.f k l0 a2).bind fun t388 => (if (t387 == t388) = true then ((l01awake.f k).bind fun t389 => (some t389)) else (some false)))) else (some false))))) else ((l01awake.f k).bind fun t379 => (some t379)))
set_option maxHeartbeats 8000000 in
set_option maxRecDepth 100000 in
theorem l01ExtentComplements.calls (k : Nat) (A0 : Option Addr) (c0 : Nat) (l0 : List (S40)) (a1 : Int) (a2 : Int) (r : Bool) (w : World) (hr0 : Kd.C k40 w A0 l0.length l0) (hc0 : l0.length ≤ c0) (hT : Aside0 (r = true)) (h : l01ExtentComplements.f k l0 a1 a2 = some r) :
    Calls Try.prog 5 #[.slice A0 l0.length c0, .int .i64 a1, .int .i64 a2] w fun e w' => e = .returned (.bool r) ∧ Below w.heap.size w w' := by
  have HR0 := Aside0.mk hr0
  have HC0 := Aside0.mk hc0
  clear hr0 hc0
  have HB := Aside0.mk (Below.refl w.heap.size w)
  have H : ((l01few.f l0 ([] : List (S40))).bind fun t378 => (if t378 = true then ((xComplement.f l0 a1).bind fun t380 => ((r01Complement.f l0 a1).bind fun t383 => ((r01Same.f k t380 t383).bind fun t386 => (if t386 = true then ((xContains.f l0 a2).bind fun t387 => ((r01Contains.f k l0 a2).bind fun t388 => (if (t387 == t388) = true then ((l01awake.f k).bind fun t389 => (some t389)) else (some false)))) else (some false))))) else ((l01awake.f k).bind fun t379 => (some t379)))) = some r := h
  clear h
  replace H := Option.bind_eq_some_iff.mp H
  obtain ⟨t378, A40, H⟩ := H
  replace H : (if t378 = true then ((xComplement.f l0 a1).bind fun t380 => ((r01Complement.f l0 a1).bind fun t383 => ((r01Same.f k t380 t383).bind fun t386 => (if t386 = true then ((xContains.f l0 a2).bind fun t387 => ((r01Contains.f k l0 a2).bind fun t388 => (if (t387 == t388) = true then ((l01awake.f k).bind fun t389 => (some t389)) else (some false)))) else (some false))))) else ((l01awake.f k).bind fun t379 => (some t379))) = some r := H
  have A4 := Aside0.mk A40
  clear A40
  by_cases c5 : t378 = true
  · subst c5
    have H1 : ((xComplement.f l0 a1).bind fun t380 => ((r01Complement.f l0 a1).bind fun t383 => ((r01Same.f k t380 t383).bind fun t386 => (if t386 = true then ((xContains.f l0 a2).bind fun t387 => ((r01Contains.f k l0 a2).bind fun t388 => (if (t387 == t388) = true then ((l01awake.f k).bind fun t389 => (some t389)) else (some false)))) else (some false))))) = some r := by rw [if_pos rfl] at H; exact H
    clear H
    have H := H1
    clear H1
    replace H := Option.bind_eq_some_iff.mp H
    obtain ⟨t380, A60, H⟩ := H
    replace H : ((r01Complement.f l0 a1).bind fun t383 => ((r01Same.f k t380 t383).bind fun t386 => (if t386 = true then ((xContains.f l0 a2).bind fun t387 => ((r01Contains.f k l0 a2).bind fun t388 => (if (t387 == t388) = true then ((l01awake.f k).bind fun t389 => (some t389)) else (some false)))) else (some false)))) = some r := H
    have A6 := Aside0.mk A60
    clear A60
    replace H := Option.bind_eq_some_iff.mp H
    obtain ⟨t383, A70, H⟩ := H
    replace H : ((r01Same.f k t380 t383).bind fun t386 => (if t386 = true then ((xContains.f l0 a2).bind fun t387 => ((r01Contains.f k l0 a2).bind fun t388 => (if (t387 == t388) = true then ((l01awake.f k).bind fun t389 => (some t389)) else (some false)))) else (some false))) = some r := H
    have A7 := Aside0.mk A70
    clear A70
    replace H := Option.bind_eq_some_iff.mp H
    obtain ⟨t386, A80, H⟩ := H
    replace H : (if t386 = true then ((xContains.f l0 a2).bind fun t387 => ((r01Contains.f k l0 a2).bind fun t388 => (if (t387 == t388) = true then ((l01awake.f k).bind fun t389 => (some t389)) else (some false)))) else (some false)) = some r := H
    have A8 := Aside0.mk A80
    clear A80
    by_cases c9 : t386 = true
    · subst c9
      have H1 : ((xContains.f l0 a2).bind fun t387 => ((r01Contains.f k l0 a2).bind fun t388 => (if (t387 == t388) = true then ((l01awake.f k).bind fun t389 => (some t389)) else (some false)))) = some r := by rw [if_pos rfl] at H; exact H
      clear H
      have H := H1
      clear H1
      replace H := Option.bind_eq_some_iff.mp H
      obtain ⟨t387, A100, H⟩ := H
      replace H : ((r01Contains.f k l0 a2).bind fun t388 => (if (t387 == t388) = true then ((l01awake.f k).bind fun t389 => (some t389)) else (some false))) = some r := H
      have A10 := Aside0.mk A100
      clear A100
      replace H := Option.bind_eq_some_iff.mp H
      obtain ⟨t388, A110, H⟩ := H
      replace H : (if (t387 == t388) = true then ((l01awake.f k).bind fun t389 => (some t389)) else (some false)) = some r := H
      have A11 := Aside0.mk A110
      clear A110
      by_cases c12 : (t387 == t388) = true
      · rw [if_pos c12] at H
        have c12b0 : (t387 == t388) = true := c12
        (try (have c12b1 : decide (t387 = t388) = true := by simpa using c12))
        (try (have c12b2 : (t387 == t388) = true := by simpa using c12))
        clear c12
        replace H := Option.bind_eq_some_iff.mp H
        obtain ⟨t389, A130, H⟩ := H
        replace H : (some t389) = some r := H
        have A13 := Aside0.mk A130
        clear A130
        obtain rfl := Option.some.inj H
        go_enter Try.func5, Try.ntmps5
        go_wp2_with (first | ((with_reducible refine gate_callee (f := 12) rfl ?_); refine goesL_ (some 8) rfl rfl Try.func12 (by kernel_rfl) rfl #[.slice A0 l0.length c0, .slice none 0 0] rfl (by (try simp only [List.map_toArray, List.map_cons, List.map_nil]); first | done | rfl | (simp only [List.length_drop, List.length_take]; rfl)) ?_; (refine (l01few.calls _ _ l0 _ _ ([] : List (S40)) true _ ?side1 ?side2 ?side3 ?side4 A4.out).mono ?_); (case side1 => repeat (first | exact HR0.out | (with_reducible refine Kd.C_alloc ?_ _) | (with_reducible refine Kd.C_drewN ?_ _) | (with_reducible refine Kd.C_drew ?_))); (case side2 => exact HC0.out); (case side3 => exact Kd.C_nil _ _); (case side4 => exact Nat.le_refl _); rintro e w' ⟨rfl, ⟨nd, rfl⟩⟩; refine ⟨_, rfl, ?_⟩) | ((with_reducible refine gate_callee (f := 19) rfl ?_); refine goesL_ (some 13) rfl rfl Try.func19 (by kernel_rfl) rfl #[.slice A0 l0.length c0, .int .i64 a1] rfl (by (try simp only [List.map_toArray, List.map_cons, List.map_nil]); first | done | rfl | (simp only [List.length_drop, List.length_take]; rfl)) ?_; (with_reducible refine (xComplement.calls _ _ l0 a1 t380 _ ?side1 ?side2 A6.out).mono ?_); (case side1 => repeat (first | exact HR0.out | (with_reducible refine Kd.C_alloc ?_ _) | (with_reducible refine Kd.C_drewN ?_ _) | (with_reducible refine Kd.C_drew ?_))); (case side2 => exact HC0.out); rintro e w14 ⟨v381, rfl, ho0, hb⟩; refine ⟨_, rfl, ?_⟩; have n0_ := Aside0.mk (Kd.R_lower ho0 (below_size (by repeat (first | (with_reducible first | exact HB.out | apply below_alloc | apply pw_below_drewN | apply below_drew1) | exact HB.out)))); have n1_ := Aside0.mk (below_step (by repeat (first | (with_reducible first | exact HB.out | apply below_alloc | apply pw_below_drewN | apply below_drew1) | exact HB.out)) hb); clear HB; have HO382 := n0_; have HB := n1_; clear n0_ n1_; (try clear hb); (try clear hb2); (try clear hk); (try clear hi); (try clear ho0)) | ((with_reducible refine gate_callee (f := 20) rfl ?_); refine goesL_ (some 16) rfl rfl Try.func20 (by kernel_rfl) rfl #[.slice A0 l0.length c0, .int .i64 a1] rfl (by (try simp only [List.map_toArray, List.map_cons, List.map_nil]); first | done | rfl | (simp only [List.length_drop, List.length_take]; rfl)) ?_; (with_reducible refine (r01Complement.calls _ _ l0 a1 t383 _ ?side1 ?side2 A7.out).mono ?_); (case side1 => repeat (first | exact (Kd.C_below HR0.out HB.out) | (with_reducible refine Kd.C_alloc ?_ _) | (with_reducible refine Kd.C_drewN ?_ _) | (with_reducible refine Kd.C_drew ?_))); (case side2 => exact HC0.out); rintro e w15 ⟨v384, rfl, ho0, hb⟩; refine ⟨_, rfl, ?_⟩; have n0_ := Aside0.mk (Kd.R_elder' (by (with_reducible repeat (first | apply Kd.R_alloc | apply Kd.R_drewN | apply Kd.R_drew)); exact HO382.out) (Kd.R_base ho0) hb); have n1_ := Aside0.mk (Kd.R_lower (Kd.R_new' ho0 (Kd.R_lt (by (with_reducible repeat (first | apply Kd.R_alloc | apply Kd.R_drewN | apply Kd.R_drew)); exact HO382.out))) (below_size (by repeat (first | (with_reducible first | exact HB.out | apply below_alloc | apply pw_below_drewN | apply below_drew1) | exact HB.out)))); have n2_ := Aside0.mk (below_step (by repeat (first | (with_reducible first | exact HB.out | apply below_alloc | apply pw_below_drewN | apply below_drew1) | exact HB.out)) hb); clear HO382; clear HB; have HO382 := n0_; have HO385 := n1_; have HB := n2_; clear n0_ n1_ n2_; (try clear hb); (try clear hb2); (try clear hk); (try clear hi); (try clear ho0); obtain ⟨Ao16, co16, eo16⟩ := Kd.R_slice HO382.out; subst eo16; obtain ⟨Ao17, co17, eo17⟩ := Kd.R_slice HO385.out; subst eo17) | ((with_reducible refine gate_callee (f := 18) rfl ?_); refine goesL_ (some 17) rfl rfl Try.func18 (by kernel_rfl) rfl #[.slice Ao16 t380.length co16, .slice Ao17 t383.length co17] rfl (by (try simp only [List.map_toArray, List.map_cons, List.map_nil]); first | done | rfl | (simp only [List.length_drop, List.length_take]; rfl)) ?_; (with_reducible refine (r01Same.calls k _ _ t380 _ _ t383 true _ ?side1 ?side2 ?side3 ?side4 A8.out).mono ?_); (case side1 => repeat (first | exact (Kd.R_reads' HO382.out).2.2 | (with_reducible refine Kd.C_alloc ?_ _) | (with_reducible refine Kd.C_drewN ?_ _) | (with_reducible refine Kd.C_drew ?_))); (case side2 => exact (Kd.R_reads' HO382.out).2.1); (case side3 => repeat (first | exact (Kd.R_reads' HO385.out).2.2 | (with_reducible refine Kd.C_alloc ?_ _) | (with_reducible refine Kd.C_drewN ?_ _) | (with_reducible refine Kd.C_drew ?_))); (case side4 => exact (Kd.R_reads' HO385.out).2.1); rintro e w' ⟨rfl, ⟨nd, rfl⟩⟩; refine ⟨_, rfl, ?_⟩) | (go_at_call 21; (with_reducible refine (xContains.calls _ _ l0 a2 t387 _ ?side1 ?side2 A10.out).mono ?_); (case side1 => repeat (first | exact (Kd.C_below HR0.out (by repeat (first | (with_reducible first | exact HB.out | apply below_alloc | apply pw_below_drewN | apply below_drew1) | exact HB.out))) | (with_reducible refine Kd.C_alloc ?_ _) | (with_reducible refine Kd.C_drewN ?_ _) | (with_reducible refine Kd.C_drew ?_))); (case side2 => exact HC0.out); rintro e w18 ⟨rfl, hb⟩; have n0_ := Aside0.mk (Kd.R_below (by (with_reducible repeat (first | apply Kd.R_alloc | apply Kd.R_drewN | apply Kd.R_drew)); exact HO382.out) hb); have n1_ := Aside0.mk (Kd.R_below (by (with_reducible repeat (first | apply Kd.R_alloc | apply Kd.R_drewN | apply Kd.R_drew)); exact HO385.out) hb); have n2_ := Aside0.mk (below_step (by repeat (first | (with_reducible first | exact HB.out | apply below_alloc | apply pw_below_drewN | apply below_drew1) | exact HB.out)) hb); clear HO382; clear HO385; clear HB; have HO382 := n0_; have HO385 := n1_; have HB := n2_; clear n0_ n1_ n2_; (try clear hb); (try clear hb2); (try clear hk); (try clear hi)) | (go_at_call 22; (with_reducible refine (r01Contains.calls k _ _ l0 a2 t388 _ ?side1 ?side2 A11.out).mono ?_); (case side1 => repeat (first | exact (Kd.C_below HR0.out HB.out) | (with_reducible refine Kd.C_alloc ?_ _) | (with_reducible refine Kd.C_drewN ?_ _) | (with_reducible refine Kd.C_drew ?_))); (case side2 => exact HC0.out); rintro e w19 ⟨rfl, hb⟩; have n0_ := Aside0.mk (Kd.R_below (by (with_reducible repeat (first | apply Kd.R_alloc | apply Kd.R_drewN | apply Kd.R_drew)); exact HO382.out) hb); have n1_ := Aside0.mk (Kd.R_below (by (with_reducible repeat (first | apply Kd.R_alloc | apply Kd.R_drewN | apply Kd.R_drew)); exact HO385.out) hb); have n2_ := Aside0.mk (below_step (by repeat (first | (with_reducible first | exact HB.out | apply below_alloc | apply pw_below_drewN | apply below_drew1) | exact HB.out)) hb); clear HO382; clear HO385; clear HB; have HO382 := n0_; have HO385 := n1_; have HB := n2_; clear n0_ n1_ n2_; (try clear hb); (try clear hb2); (try clear hk); (try clear hi)) | (go_at_call 13; (with_reducible refine (l01awake.calls k  t389 _ A13.out).mono ?_); rintro e w20 ⟨rfl, hb⟩; have n0_ := Aside0.mk (Kd.R_below (by (with_reducible repeat (first | apply Kd.R_alloc | apply Kd.R_drewN | apply Kd.R_drew)); exact HO382.out) hb); have n1_ := Aside0.mk (Kd.R_below (by (with_reducible repeat (first | apply Kd.R_alloc | apply Kd.R_drewN | apply Kd.R_drew)); exact HO385.out) hb); have n2_ := Aside0.mk (below_step (by repeat (first | (with_reducible first | exact HB.out | apply below_alloc | apply pw_below_drewN | apply below_drew1) | exact HB.out)) hb); clear HO382; clear HO385; clear HB; have HO382 := n0_; have HO385 := n1_; have HB := n2_; clear n0_ n1_ n2_; (try clear hb); (try clear hb2); (try clear hk); (try clear hi)))
        go_ret
        exact ⟨by first | rfl | (simp [errW_none, errW_some] <;> rfl) | (simp [*, errW_none, errW_some] <;> rfl), by repeat (first | (with_reducible first | exact HB.out | apply below_alloc | apply pw_below_drewN | apply below_drew1) | exact HB.out)⟩
      · rw [if_neg c12] at H
        have c12b0 : (t387 == t388) = false := by simpa using c12
        (try (have c12b1 : decide (t387 = t388) = false := by simpa using c12))
        (try (have c12b2 : (t387 == t388) = false := by simpa using c12))
        (try (have c12b3 : ¬ (t387 = t388) := by simpa using c12))
        clear c12
        exact absurd ((Option.some.inj H).trans hT.out) (by decide)
    · replace c9 := Bool.eq_false_iff.mpr c9
      subst c9
      have H1 : (some false) = some r := by rw [if_neg (show ¬ (false = true) by decide)] at H; exact H
      clear H
      have H := H1
      clear H1
      exact absurd ((Option.some.inj H).trans hT.out) (by decide)
  · replace c5 := Bool.eq_false_iff.mpr c5
    subst c5
    have H1 : ((l01awake.f k).bind fun t379 => (some t379)) = some r := by rw [if_neg (show ¬ (false = true) by decide)] at H; exact H
    clear H
    have H := H1
    clear H1
    replace H := Option.bind_eq_some_iff.mp H
    obtain ⟨t379, A210, H⟩ := H
    replace H : (some t379) = some r := H
    have A21 := Aside0.mk A210
    clear A210
    obtain rfl := Option.some.inj H
    go_enter Try.func5, Try.ntmps5
    go_wp2_with (first | ((with_reducible refine gate_callee (f := 12) rfl ?_); refine goesL_ (some 8) rfl rfl Try.func12 (by kernel_rfl) rfl #[.slice A0 l0.length c0, .slice none 0 0] rfl (by (try simp only [List.map_toArray, List.map_cons, List.map_nil]); first | done | rfl | (simp only [List.length_drop, List.length_take]; rfl)) ?_; (refine (l01few.calls _ _ l0 _ _ ([] : List (S40)) false _ ?side1 ?side2 ?side3 ?side4 A4.out).mono ?_); (case side1 => repeat (first | exact HR0.out | (with_reducible refine Kd.C_alloc ?_ _) | (with_reducible refine Kd.C_drewN ?_ _) | (with_reducible refine Kd.C_drew ?_))); (case side2 => exact HC0.out); (case side3 => exact Kd.C_nil _ _); (case side4 => exact Nat.le_refl _); rintro e w' ⟨rfl, ⟨nd, rfl⟩⟩; refine ⟨_, rfl, ?_⟩) | ((with_reducible refine gate_callee (f := 13) rfl ?_); refine goesL_ (some 10) rfl rfl Try.func13 (by kernel_rfl) rfl #[] rfl (by (try simp only [List.map_toArray, List.map_cons, List.map_nil]); first | done | rfl | (simp only [List.length_drop, List.length_take]; rfl)) ?_; (with_reducible refine (l01awake.calls k  t379 _ A21.out).mono ?_); rintro e w22 ⟨rfl, hb⟩; refine ⟨_, rfl, ?_⟩; have n0_ := Aside0.mk (below_step (by repeat (first | (with_reducible first | exact HB.out | apply below_alloc | apply pw_below_drewN | apply below_drew1) | exact HB.out)) hb); clear HB; have HB := n0_; clear n0_; (try clear hb); (try clear hb2); (try clear hk); (try clear hi)))
    go_ret
    exact ⟨by first | rfl | (simp [errW_none, errW_some] <;> rfl) | (simp [*, errW_none, errW_some] <;> rfl), by repeat (first | (with_reducible first | exact HB.out | apply below_alloc | apply pw_below_drewN | apply below_drew1) | exact HB.out)⟩
end Go.Proofs.Yteeedheklnelkaa.P

namespace Go.Proofs.Yteeedheklnelkaa.P
open Go.RowKit Go.Proofs.YteeedheklnelkaaW.PrintWords Go.Proofs.YteeedheklnelkaaW.PrintLast Go.Proofs.YteeedheklnelkaaW.PrintMore
theorem few_eq (a b : List S40) : l01few.f a b = some (decide (a.length ≤ 20 ∧ b.length ≤ 20)) := by
  unfold l01few.f
  by_cases h : (a.length : Int) ≤ 20
  · rw [if_pos h]
    congr 1
    rw [decide_eq_decide]; omega
  · rw [if_neg h, decide_eq_false (by omega)]
theorem complements_true (l : List S40) (hr : ∀ e ∈ l, R64 e) (size x : Int) {k : Nat} (hk : 40000 ≤ k) : l01ExtentComplements.f k l size x = some true := by
  unfold l01ExtentComplements.f
  rw [few_eq, Option.bind_some]
  by_cases h : l.length ≤ 20 ∧ ([] : List S40).length ≤ 20
  · have hlen := canon_length (fun j => belowS size j && !inL l j)
    rw [decide_eq_true h, if_pos rfl, xComplement_eq l size (by omega), Option.bind_some, rComplement_eq l size (by omega) hr, Option.bind_some, same_eq _ (by omega) (by omega), Option.bind_some, if_pos rfl, xContains_eq l x (by omega), Option.bind_some, rContains_eq l x (by omega) hr (by omega), Option.bind_some, if_pos (by simp), awake_eq (by omega)]; rfl
  · rw [decide_eq_false h, if_neg (by decide), awake_eq (by omega)]; rfl
end Go.Proofs.Yteeedheklnelkaa.P
