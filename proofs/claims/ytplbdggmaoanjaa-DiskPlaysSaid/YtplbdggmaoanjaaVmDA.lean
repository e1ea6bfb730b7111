/- A small evaluator for the translated code, and the proof that what it computes the code does. -/
import Derived.Test.YtplbdggmaoanjaaVmAC
/-! Regions whose order is drawn, part 1: what an operation looks at. -/
namespace Go.Vm
open Go.RowKit

structure Eff where
  v : AV
  ob : List (Nat × Obj)
  lg : List Nat
  lf : List Nat
def Eff.app (u : Eff) (d : Option Tmp) (Γ : G) : G := ({ t := Γ.t, h := setAll u.ob Γ.h, lg := u.lg ++ Γ.lg, lf := u.lf ++ Γ.lf } : G).put d u.v

/-- Two states that are alike where the operation looks. -/
structure Agree (E : Env) (o : Oper) (Γ Γ' : G) : Prop where
  ev : ∀ x ∈ o.op.operands, Γ'.ev x = Γ.ev x
  len : Γ'.h.length = Γ.h.length
  h : ∀ id ∈ foot E Γ o, Γ'.h[id]? = Γ.h[id]?

/-- The operation does what it does wherever things are alike where it looks. -/
structure Loc {R : Type} (E : Env) (o : Oper) (Γ : G) (K : G → Option R) (r : R) (u : Eff) : Prop where
  here : K (u.app o.dst Γ) = some r
  ob : ∀ p ∈ u.ob, p.1 ∈ u.lg ++ u.lf
  cov : ∀ i ∈ u.lg ++ u.lf, i ∈ u.ob.map (·.1) ∨ Γ.h.length ≤ i
  there : ∀ Γ', Agree E o Γ Γ' → ∀ {R' : Type} (K' : G → Option R'), opx E Γ' o K' = K' (u.app o.dst Γ')

theorem setAll_local {I : List Nat} {R R' H' : List Obj} (hl : R'.length = H'.length) (hl2 : R.length = H'.length) (h1 : ∀ i ∈ I, R'[i]? = R[i]?) (h2 : ∀ i, i ∉ I → R'[i]? = H'[i]?) :
    R' = setAll (I.filterMap fun i => (R[i]?).map fun o => (i, o)) H' := by
  have key : ∀ (I : List Nat) (H : List Obj) (i : Nat), (setAll (I.filterMap fun i => (R[i]?).map fun o => (i, o)) H)[i]? = if i ∈ I ∧ i < R.length ∧ i < H.length then R[i]? else H[i]? := by
    intro I
    induction I with
    | nil => intro H i; simp [setAll]
    | cons a I ih =>
      intro H i
      cases ha : R[a]? with
      | none =>
        have hal : ¬ a < R.length := fun h => by rw [List.getElem?_eq_getElem h] at ha; cases ha
        simp only [List.filterMap_cons, ha, Option.map_none]
        rw [ih]
        by_cases e : i = a
        · subst e
          rw [if_neg (by omega), if_neg (by omega)]
        · simp only [List.mem_cons, e, false_or]
      | some o =>
        have hal : a < R.length := (List.getElem?_eq_some_iff.1 ha).1
        simp only [List.filterMap_cons, ha, Option.map_some, setAll]
        rw [ih, List.length_set, List.getElem?_set]
        by_cases e : i = a
        · subst e
          simp only [List.mem_cons, true_or, true_and, if_true, hal]
          by_cases hi : i < H.length
          · simp only [hi, if_true, and_true]
            split <;> simp [ha]
          · simp only [hi, if_false, and_false]
            exact (List.getElem?_eq_none (by omega)).symm
        · have e' : ¬ a = i := fun h => e h.symm
          simp only [List.mem_cons, e, false_or, e', if_false]
  apply List.ext_getElem?
  intro i
  rw [key]
  by_cases hi : i ∈ I
  · rw [h1 i hi]
    split
    · rfl
    · rename_i hn
      have : ¬ i < R.length := fun h => hn ⟨hi, h, by omega⟩
      rw [List.getElem?_eq_none (by omega), List.getElem?_eq_none (by omega)]
  · rw [if_neg (fun h => hi h.1)]
    exact h2 i hi

theorem cellIds_mem {c : Cell} {cs : List Cell} (hc : c ∈ cs) : ∀ i ∈ cellIds [c], i ∈ cellIds cs := by
  induction cs with
  | nil => cases hc
  | cons d r ih =>
    intro i hi
    have key : cellIds (d :: r) = cellIds [d] ++ cellIds r := by cases d <;> simp [cellIds]
    rw [key]
    rcases List.mem_cons.1 hc with rfl | hc
    · exact List.mem_append_left _ hi
    · exact List.mem_append_right _ (ih hc i hi)
theorem cellIds_append (a b : List Cell) : cellIds (a ++ b) = cellIds a ++ cellIds b := by
  induction a with
  | nil => rfl
  | cons c a ih => cases c <;> simp [cellIds, ih]
theorem ownIds_cellIds : ∀ (cs : List Cell), ∀ i ∈ ownIds cs, i ∈ cellIds cs
  | [], i, h => by cases h
  | c :: r, i, h => by
    have := ownIds_cellIds r i
    cases c <;> simp only [ownIds, cellIds, List.mem_cons] at h ⊢ <;> first | exact this h | exact .inr (this h) | (rcases h with h | h; exact .inl h; exact .inr (this h))
theorem cellIds_sub {a b : List Cell} (h : ∀ c ∈ a, c ∈ b) : ∀ i ∈ cellIds a, i ∈ cellIds b := by
  induction a with
  | nil => intro i hi; cases hi
  | cons c r ih =>
    intro i hi
    have key : cellIds (c :: r) = cellIds [c] ++ cellIds r := by cases c <;> simp [cellIds]
    rw [key] at hi
    rcases List.mem_append.1 hi with hi | hi
    · exact cellIds_mem (h c List.mem_cons_self) i hi
    · exact ih (fun x hx => h x (List.mem_cons_of_mem _ hx)) i hi

section
variable {H H' : List Obj} {R : Type}
theorem known_loc {c : Cell} (h : ∀ i ∈ cellIds [c], H'[i]? = H[i]?) : c.known H' = c.known H := by
  cases c <;> first | rfl | (simp only [Cell.known]; rw [h _ (by simp [cellIds])])
theorem cells_loc {v : AV} (h : ∀ i ∈ avIdsAll v, H'[i]? = H[i]?) : v.cells H' = v.cells H := by
  cases v with
  | c x => simp only [AV.cells]; rw [known_loc (fun i hi => h i hi)]
  | agg l => rfl
  | tup l => rfl
theorem cells_ids {v : AV} {cs : List Cell} (h : v.cells H = some cs) : ∀ i ∈ cellIds cs, i ∈ avIdsAll v := by
  cases v with
  | c x =>
    simp only [AV.cells] at h
    split at h
    · injection h with h; subst h; exact fun i hi => hi
    · cases h
  | agg l => injection h with h; subst h; exact fun i hi => hi
  | tup l => cases h
theorem sliceAs_loc {k : Kd} {c : Cell} (h : ∀ i ∈ cellIds [c], H'[i]? = H[i]?) : sliceAs H' k c = sliceAs H k c := by
  cases c <;> first | rfl | (simp only [sliceAs, rowAs]; rw [h _ (by simp [cellIds])])
theorem dec_loc : ∀ {k : Kd} {cs : List Cell}, (∀ i ∈ cellIds cs, H'[i]? = H[i]?) → dec H' k cs = dec H k cs
  | .unit, _, _ => rfl
  | .pair a b, cs, h => by
    simp only [dec]
    rw [dec_loc (k := a) h]
    split
    · rename_i x r hx
      rw [dec_loc (k := b) (fun i hi => h i (cellIds_sub (fun c hc => dec_rest hx c hc) i hi))]
    · rfl
  | .int _, _, _ => rfl
  | .bool, _, _ => rfl
  | .str, _, _ => rfl
  | .slice k, cs, h => by
    cases cs with
    | nil => rfl
    | cons c r =>
      simp only [dec, consD]
      rw [sliceAs_loc (fun i hi => h i (cellIds_mem List.mem_cons_self i hi))]
  | .ptr _, _, _ => rfl
  | .clo _ _, _, _ => rfl
where
  dec_rest : ∀ {k : Kd} {cs : List Cell} {x : k.T} {r : List Cell}, dec H k cs = some (x, r) → ∀ c ∈ r, c ∈ cs
  | .unit, cs, x, r, h => by injection h with h; injection h with _ h; subst h; exact fun c hc => hc
  | .pair a b, cs, x, r, h => by
    simp only [dec] at h
    split at h
    · rename_i y r1 h1
      split at h
      · rename_i z r2 h2
        injection h with h
        injection h with _ h
        subst h
        exact fun c hc => dec_rest h1 c (dec_rest h2 c hc)
      · cases h
    · cases h
  | .int k, cs, x, r, h => dec_rest1 h
  | .bool, cs, x, r, h => dec_rest1 h
  | .str, cs, x, r, h => dec_rest1 h
  | .slice k, cs, x, r, h => dec_rest1 h
  | .ptr k, cs, x, r, h => dec_rest1 h
  | .clo f k, cs, x, r, h => dec_rest1 h
  dec_rest1 {α : Type} {f : Cell → Option α} {cs : List Cell} {x : α} {r : List Cell} (h : consD f cs = some (x, r)) : ∀ c ∈ r, c ∈ cs := by
    cases cs with
    | nil => cases h
    | cons c0 r0 =>
      simp only [consD] at h
      split at h
      · injection h with h
        injection h with _ h
        subst h
        exact fun c hc => List.mem_cons_of_mem _ hc
      · cases h
theorem decAll_loc {k : Kd} {cs : List Cell} (h : ∀ i ∈ cellIds cs, H'[i]? = H[i]?) : decAll H' k cs = decAll H k cs := by
  unfold decAll
  rw [dec_loc h]
theorem decMany_loc {k : Kd} : ∀ {n : Nat} {cs : List Cell}, (∀ i ∈ cellIds cs, H'[i]? = H[i]?) → decMany H' k n cs = decMany H k n cs
  | 0, [], _ => rfl
  | 0, _ :: _, _ => rfl
  | n + 1, cs, h => by
    simp only [decMany]
    rw [dec_loc h]
    split
    · rename_i x r hx
      rw [decMany_loc (fun i hi => h i (cellIds_sub (fun c hc => dec_loc.dec_rest hx c hc) i hi))]
    · rfl
theorem srcAs_loc {k : Kd} {c : Cell} (h : ∀ i ∈ cellIds [c], H'[i]? = H[i]?) : srcAs H' k c = srcAs H k c := by
  cases c <;> first | rfl | exact sliceAs_loc h
theorem addOff_loc {n : Nat} {c : Cell} (h : ∀ i ∈ cellIds [c], H'[i]? = H[i]?) : addOff H' n c = addOff H n c := by
  cases c <;> first | rfl | (simp only [addOff]; rw [h _ (by simp [cellIds])])
theorem lenx_loc {v : AV} {K : Int → Option R} (h : ∀ i ∈ avIdsAll v, H'[i]? = H[i]?) : lenx H' v K = lenx H v K := by
  cases v with
  | c x => cases x <;> first | rfl | (simp only [lenx]; rw [h _ (by simp [avIdsAll, cellIds])])
  | agg l => rfl
  | tup l => rfl
theorem loadx_loc {n : Nat} {c : Cell} {K : List Cell → Option R} (h : ∀ i ∈ cellIds [c], H'[i]? = H[i]?) : loadx H' n c K = loadx H n c K := by
  cases c <;> first | rfl | (simp only [loadx]; rw [h _ (by simp [cellIds])])
theorem loadx_det {n : Nat} {c : Cell} {K : List Cell → Option R} {r : R} (h : loadx H n c K = some r) : ∃ cs, K cs = some r ∧ ∀ {R' : Type} (K' : List Cell → Option R'), loadx H n c K' = K' cs := by
  unfold loadx at h
  split at h
  · split at h
    · rename_i hob
      split at h
      · rename_i hc
        exact ⟨_, h, fun K' => by simp only [loadx, hob]; rw [if_pos hc]⟩
      · cases h
    · cases h
  · split at h
    · rename_i hc
      exact ⟨_, h, fun K' => by simp only [loadx]; rw [if_pos hc]⟩
    · cases h
  · split at h
    · rename_i hob
      split at h
      · rename_i hc
        obtain ⟨y, hy, h⟩ := Option.bind_eq_some_iff.1 h
        exact ⟨_, h, fun K' => by simp only [loadx, hob]; rw [if_pos hc, hy]; rfl⟩
      · cases h
    · cases h
  · cases h
theorem lenx_det {v : AV} {K : Int → Option R} {r : R} (h : lenx H v K = some r) : ∃ n, K n = some r ∧ ∀ {R' : Type} (K' : Int → Option R'), lenx H v K' = K' n := by
  unfold lenx at h
  split at h
  · exact ⟨_, h, fun K' => rfl⟩
  · exact ⟨_, h, fun K' => rfl⟩
  · exact ⟨_, h, fun K' => rfl⟩
  · split at h
    · rename_i hob
      split at h
      · rename_i hc
        exact ⟨_, h, fun K' => by simp only [lenx, hob]; rw [if_pos hc]⟩
      · cases h
    · cases h
  · cases h
theorem binop_det {op : BinOp} {x y : AV} {K : Cell → Option R} {r : R} (h : binop op x y K = some r) : ∃ c, K c = some r ∧ ∀ {R' : Type} (K' : Cell → Option R'), binop op x y K' = K' c := by
  unfold binop at h
  split at h
  · rename_i k a k' b
    split at h
    · rename_i hs
      unfold shiftOp at h
      split at h
      · split at h
        · cases h
        · rename_i hc
          exact ⟨_, h, fun K' => by simp only [binop, isShift, if_true, shiftOp]; rw [if_neg hc]⟩
      · split at h
        · cases h
        · rename_i hc
          exact ⟨_, h, fun K' => by simp only [binop, isShift, if_true, shiftOp]; rw [if_neg hc]⟩
      · cases h
    · rename_i hs
      split at h
      · rename_i p hp
        have key : ∃ c, K c = some r ∧ ∀ {R' : Type} (K' : Cell → Option R'), intOp op k a b K' = K' c := by
          unfold intOp at h
          split at h
          all_goals first
            | exact ⟨_, h, fun K' => rfl⟩
            | (split at h
               · cases h
               · rename_i hc
                 exact ⟨_, h, fun K' => by simp only [intOp]; rw [if_neg hc]⟩)
            | cases h
        obtain ⟨c, h1, h2⟩ := key
        exact ⟨c, h1, fun K' => by simp only [binop]; rw [if_neg hs, hp]; exact h2 K'⟩
      · cases h
  · split at h
    · split at h
      · cases h
      · rename_i hc
        exact ⟨_, h, fun K' => by simp only [binop]; rw [if_neg hc]⟩
    · exact ⟨_, h, fun K' => rfl⟩
    · exact ⟨_, h, fun K' => rfl⟩
    · cases h
  all_goals first
    | (split at h
       · exact ⟨_, h, fun K' => rfl⟩
       · exact ⟨_, h, fun K' => rfl⟩
       · cases h)
    | cases h
theorem slicex_det {lo hi : Option Int} {n : Nat} {K : Nat → Nat → Option R} {r : R} (h : slicex lo hi n K = some r) : ∃ a b, K a b = some r ∧ ∀ {R' : Type} (K' : Nat → Nat → Option R'), slicex lo hi n K' = K' a b := by
  unfold slicex at h
  split at h
  · split at h
    · rename_i hc
      split at h
      · split at h
        · rename_i hc2
          exact ⟨_, _, h, fun K' => by simp only [slicex]; rw [if_pos hc, if_pos hc2]⟩
        · cases h
      · exact ⟨_, _, h, fun K' => by simp only [slicex]; rw [if_pos hc]⟩
    · cases h
  · split at h
    · split at h
      · rename_i hc
        exact ⟨_, _, h, fun K' => by simp only [slicex]; rw [if_pos hc]⟩
      · cases h
    · exact ⟨_, _, h, fun K' => rfl⟩
end
end Go.Vm
