/- A small evaluator for the translated code, and the proof that what it computes the code does. -/
import Derived.Test.YtplbdggmaoanjaaVmDA
/-! Regions whose order is drawn, part 2: each operation, but for calls. -/
namespace Go.Vm
open Go.RowKit

section
variable {R : Type} {P : Program} {E : Env} {o : Oper} {Γ : G} {K : G → Option R} {r : R}

theorem mention_mem {x : Operand} (hx : x ∈ o.op.operands) : ∀ i ∈ avIdsAll (Γ.ev x), i ∈ mentions Γ o := by
  intro i hi
  unfold mentions
  exact List.mem_flatMap.2 ⟨x, by simpa using hx, hi⟩
/-- Operations whose foot is plain. -/
def plainFoot : Op → Bool
  | .call c => match c.callee with | .value _ => false | _ => true
  | .makeFunc _ _ _ => false
  | _ => true
theorem foot_plain (h : plainFoot o.op = true) : foot E Γ o = o.dst.toList ++ mentions Γ o := by
  unfold foot
  unfold plainFoot at h
  split
  · rename_i c hc
    rw [hc] at h
    split
    · rename_i hv
      simp only [hv, Bool.false_eq_true] at h
    · rfl
  · rename_i hc
    rw [hc] at h
    cases h
  · rfl
theorem Agree.men {Γ' : G} (hA : Agree E o Γ Γ') (hp : plainFoot o.op = true) {x : Operand} (hx : x ∈ o.op.operands) : ∀ i ∈ avIdsAll (Γ.ev x), Γ'.h[i]? = Γ.h[i]? :=
  fun i hi => hA.h i (by rw [foot_plain hp]; exact List.mem_append_right _ (mention_mem hx i hi))
theorem Agree.dst {Γ' : G} (hA : Agree E o Γ Γ') (hp : plainFoot o.op = true) {d : Nat} (hd : o.dst = some d) : Γ'.h[d]? = Γ.h[d]? :=
  hA.h d (by rw [foot_plain hp, hd]; simp)

theorem loc_val {v : AV} (h1 : K (Γ.put o.dst v) = some r) (h2 : ∀ Γ', Agree E o Γ Γ' → ∀ {R' : Type} (K' : G → Option R'), opx E Γ' o K' = K' (Γ'.put o.dst v)) : ∃ u, Loc E o Γ K r u :=
  ⟨⟨v, [], [], []⟩, h1, by simp, by simp, h2⟩

theorem loc_move {x : Operand} (ho : o.op = .move x ∨ o.op = .assign x) (hK : opx E Γ o K = some r) : ∃ u, Loc E o Γ K r u := by
  have hx : x ∈ o.op.operands := by rcases ho with ho | ho <;> simp [ho, Op.operands]
  have : opx E Γ o K = K (Γ.put o.dst (Γ.ev x)) := by rcases ho with ho | ho <;> simp only [opx, ho]
  rw [this] at hK
  refine loc_val hK fun Γ' hA R' K' => ?_
  have e := hA.ev x hx
  rcases ho with ho | ho <;> simp only [opx, ho, e]

theorem loc_pick {c x y : Operand} (ho : o.op = .pick c x y) (hK : opx E Γ o K = some r) : ∃ u, Loc E o Γ K r u := by
  simp only [opx, ho] at hK
  split at hK
  · rename_i t ht
    have key : ∀ Γ', Agree E o Γ Γ' → ∀ {R' : Type} (K' : G → Option R'), opx E Γ' o K' = K' (Γ'.put o.dst (cond t (Γ.ev x) (Γ.ev y))) := by
      intro Γ' hA R' K'
      have e1 := hA.ev c (by simp [ho, Op.operands])
      have e2 := hA.ev x (by simp [ho, Op.operands])
      have e3 := hA.ev y (by simp [ho, Op.operands])
      simp only [opx, ho, e1, e2, e3, ht]
      cases t <;> rfl
    refine loc_val (v := cond t (Γ.ev x) (Γ.ev y)) ?_ key
    cases t <;> exact hK
  · cases hK

theorem loc_binOp {op : BinOp} {t ty : TypeId} {x y : Operand} (ho : o.op = .binOp op t x y ty) (hK : opx E Γ o K = some r) : ∃ u, Loc E o Γ K r u := by
  simp only [opx, ho] at hK
  split at hK
  · cases hK
  · rename_i hc
    obtain ⟨c, h1, h2⟩ := binop_det hK
    refine loc_val h1 fun Γ' hA R' K' => ?_
    have e1 := hA.ev x (by simp [ho, Op.operands])
    have e2 := hA.ev y (by simp [ho, Op.operands])
    simp only [opx, ho, e1, e2]
    rw [if_neg hc, h2]

theorem loc_unOp {op : UnOp} {t : TypeId} {x : Operand} (ho : o.op = .unOp op t x) (hK : opx E Γ o K = some r) : ∃ u, Loc E o Γ K r u := by
  simp only [opx, ho] at hK
  split at hK
  · rename_i hx
    refine loc_val hK fun Γ' hA R' K' => ?_
    have e1 := hA.ev x (by simp [ho, Op.operands])
    simp only [opx, ho, e1, hx]
  · rename_i hx
    refine loc_val hK fun Γ' hA R' K' => ?_
    have e1 := hA.ev x (by simp [ho, Op.operands])
    simp only [opx, ho, e1, hx]
  · cases hK

theorem loc_convert {s d : TypeId} {x : Operand} (ho : o.op = .convert s d x) (hK : opx E Γ o K = some r) : ∃ u, Loc E o Γ K r u := by
  simp only [opx, ho] at hK
  split at hK
  · rename_i i1 i hs hd
    split at hK
    · rename_i hi hx
      refine loc_val hK fun Γ' hA R' K' => ?_
      have e1 := hA.ev x (by simp [ho, Op.operands])
      simp only [opx, ho, e1, hs, hd, hi, hx]
    · rename_i hi hx
      refine loc_val hK fun Γ' hA R' K' => ?_
      have e1 := hA.ev x (by simp [ho, Op.operands])
      simp only [opx, ho, e1, hs, hd, hi, hx]
    · cases hK
  · cases hK

theorem loc_nilCheck {x : Operand} (ho : o.op = .nilCheck x) (hK : opx E Γ o K = some r) : ∃ u, Loc E o Γ K r u := by
  simp only [opx, ho] at hK
  split at hK
  · rename_i hx
    refine loc_val hK fun Γ' hA R' K' => ?_
    have e1 := hA.ev x (by simp [ho, Op.operands])
    simp only [opx, ho, e1, hx]
  · rename_i hx
    refine loc_val hK fun Γ' hA R' K' => ?_
    have e1 := hA.ev x (by simp [ho, Op.operands])
    simp only [opx, ho, e1, hx]
  · cases hK

theorem loc_load {t : TypeId} {x : Operand} (ho : o.op = .load t x) (hK : opx E Γ o K = some r) : ∃ u, Loc E o Γ K r u := by
  simp only [opx, ho] at hK
  split at hK
  · rename_i i p hi hp
    obtain ⟨cs, h1, h2⟩ := loadx_det hK
    split at h1
    · rename_i v hv
      refine loc_val h1 fun Γ' hA R' K' => ?_
      have e1 := hA.ev x (by simp [ho, Op.operands])
      simp only [opx, ho, e1, hi, hp]
      rw [loadx_loc (H := Γ.h) (fun j hj => hA.men (by rw [ho]; rfl) (x := x) (by simp [ho, Op.operands]) j (by rw [hp]; exact hj)), h2, hv]
    · cases h1
  · cases hK

theorem loc_fieldAddr {s : TypeId} {x : Operand} {f : Nat} (ho : o.op = .fieldAddr s x f) (hK : opx E Γ o K = some r) : ∃ u, Loc E o Γ K r u := by
  simp only [opx, ho] at hK
  split at hK
  · rename_i i p hi hp
    split at hK
    · rename_i offs hd
      split at hK
      · rename_i n m hf
        split at hK
        · rename_i q hq
          refine loc_val hK fun Γ' hA R' K' => ?_
          have e1 := hA.ev x (by simp [ho, Op.operands])
          simp only [opx, ho, e1, hi, hp, hd, hf]
          rw [addOff_loc (H := Γ.h) (fun j hj => hA.men (by rw [ho]; rfl) (x := x) (by simp [ho, Op.operands]) j (by rw [hp]; exact hj)), hq]
        · cases hK
      · cases hK
    · cases hK
  · cases hK

theorem loc_indexAddr {t : TypeId} {x ix : Operand} (ho : o.op = .indexAddr t x ix) (hK : opx E Γ o K = some r) : ∃ u, Loc E o Γ K r u := by
  simp only [opx, ho] at hK
  split at hK
  · rename_i k l ik j hx hi
    split at hK
    · rename_i hs
      obtain ⟨y, hy, hK⟩ := Option.bind_eq_some_iff.1 hK
      refine loc_val hK fun Γ' hA R' K' => ?_
      have e1 := hA.ev x (by simp [ho, Op.operands])
      have e2 := hA.ev ix (by simp [ho, Op.operands])
      simp only [opx, ho, e1, e2, hx, hi]
      rw [if_pos hs, hy]
      rfl
    · cases hK
  · rename_i id ver ik j hx hi
    split at hK
    · rename_i hob
      split at hK
      · rename_i hs
        obtain ⟨y, hy, hK⟩ := Option.bind_eq_some_iff.1 hK
        refine loc_val hK fun Γ' hA R' K' => ?_
        have e1 := hA.ev x (by simp [ho, Op.operands])
        have e2 := hA.ev ix (by simp [ho, Op.operands])
        have e3 := hA.men (by rw [ho]; rfl) (x := x) (by simp [ho, Op.operands]) id (by rw [hx]; simp [avIdsAll, cellIds])
        simp only [opx, ho, e1, e2, hx, hi, e3, hob]
        rw [if_pos hs, hy]
        rfl
      · cases hK
    · cases hK
  · cases hK

theorem loc_index {t : TypeId} {x ix : Operand} (ho : o.op = .index t x ix) (hK : opx E Γ o K = some r) : ∃ u, Loc E o Γ K r u := by
  simp only [opx, ho] at hK
  split at hK
  · rename_i s ik j hx hi
    split at hK
    · rename_i hs
      obtain ⟨y, hy, hK⟩ := Option.bind_eq_some_iff.1 hK
      refine loc_val hK fun Γ' hA R' K' => ?_
      have e1 := hA.ev x (by simp [ho, Op.operands])
      have e2 := hA.ev ix (by simp [ho, Op.operands])
      simp only [opx, ho, e1, e2, hx, hi]
      rw [if_pos hs, hy]
      rfl
    · cases hK
  · cases hK

theorem optInt_loc {Γ' : G} {l : Option Operand} (h : ∀ x, l = some x → Γ'.ev x = Γ.ev x) : optInt Γ' l = optInt Γ l := by
  cases l with
  | none => rfl
  | some x => simp only [optInt]; rw [h x rfl]

theorem loc_slice {t : TypeId} {x : Operand} {lo hi mx : Option Operand} (ho : o.op = .slice t x lo hi mx) (hK : opx E Γ o K = some r) : ∃ u, Loc E o Γ K r u := by
  simp only [opx, ho] at hK
  have e1 : ∀ Γ', Agree E o Γ Γ' → Γ'.ev x = Γ.ev x ∧ optInt Γ' lo = optInt Γ lo ∧ optInt Γ' hi = optInt Γ hi := fun Γ' hA =>
    ⟨hA.ev x (by simp [ho, Op.operands]), optInt_loc fun y hy => hA.ev y (by simp [ho, Op.operands, hy]), optInt_loc fun y hy => hA.ev y (by simp [ho, Op.operands, hy])⟩
  split at hK
  · rename_i l2 h2 h3 h4
    split at hK
    · rename_i s hx
      split at hK
      · rename_i hs
        obtain ⟨p, q, h5, h6⟩ := slicex_det hK
        refine loc_val h5 fun Γ' hA R' K' => ?_
        obtain ⟨a1, a2, a3⟩ := e1 Γ' hA
        simp only [opx, ho, a1, a2, a3, h3, h4, hx]
        rw [if_pos hs, h6]
      · cases hK
    · rename_i k l hx
      split at hK
      · rename_i hs
        obtain ⟨p, q, h5, h6⟩ := slicex_det hK
        refine loc_val h5 fun Γ' hA R' K' => ?_
        obtain ⟨a1, a2, a3⟩ := e1 Γ' hA
        simp only [opx, ho, a1, a2, a3, h3, h4, hx]
        rw [if_pos hs, h6]
      · cases hK
    · cases hK
  · cases hK

theorem fillx_loc {Γ' : G} {place : Nat → Option (Nat × Nat)} : ∀ {parts : List (Nat × Operand)} {cs : List Cell}, (∀ p ∈ parts, Γ'.ev p.2 = Γ.ev p.2 ∧ ∀ i ∈ avIdsAll (Γ.ev p.2), Γ'.h[i]? = Γ.h[i]?) → fillx Γ' place parts cs = fillx Γ place parts cs
  | [], _, _ => rfl
  | (i, x) :: r, cs, h => by
    obtain ⟨h1, h2⟩ := h (i, x) List.mem_cons_self
    have h3 := cells_loc (H := Γ.h) h2
    dsimp only at h1 h3
    simp only [fillx]
    rw [h1, h3]
    cases place i with
    | none => rfl
    | some q =>
      obtain ⟨off, size⟩ := q
      cases (Γ.ev x).cells Γ.h with
      | none => rfl
      | some vs =>
        dsimp only
        rw [fillx_loc (cs := setCells cs off vs) fun p hp => h p (List.mem_cons_of_mem _ hp)]
theorem setCells_ids : ∀ (vs cs : List Cell) (o : Nat), ∀ i ∈ cellIds (setCells cs o vs), i ∈ cellIds cs ∨ i ∈ cellIds vs
  | [], _, _, i, h => .inl h
  | v :: r, cs, o, i, h => by
    simp only [setCells] at h
    have key : cellIds (v :: r) = cellIds [v] ++ cellIds r := by cases v <;> simp [cellIds]
    rw [key]
    rcases setCells_ids r _ _ i h with h | h
    · have : ∀ (cs : List Cell) (o : Nat), i ∈ cellIds (cs.set o v) → i ∈ cellIds cs ∨ i ∈ cellIds [v] := by
        intro cs
        induction cs with
        | nil => intro o h; exact .inl h
        | cons c cs ih =>
          intro o h
          have k1 : ∀ (d : Cell) (l : List Cell), cellIds (d :: l) = cellIds [d] ++ cellIds l := by intro d l; cases d <;> simp [cellIds]
          cases o with
          | zero =>
            rw [List.set_cons_zero, k1] at h
            rw [k1 c]
            rcases List.mem_append.1 h with h | h
            · exact .inr h
            · exact .inl (List.mem_append_right _ h)
          | succ o =>
            rw [List.set_cons_succ, k1] at h
            rw [k1 c]
            rcases List.mem_append.1 h with h | h
            · exact .inl (List.mem_append_left _ h)
            · rcases ih o h with h | h
              · exact .inl (List.mem_append_right _ h)
              · exact .inr h
      rcases this cs o h with h | h
      · exact .inl h
      · exact .inr (List.mem_append_left _ h)
    · exact .inr (List.mem_append_right _ h)
theorem fillx_ids {place : Nat → Option (Nat × Nat)} : ∀ {parts : List (Nat × Operand)} {cs ds : List Cell}, fillx Γ place parts cs = some ds → ∀ i ∈ cellIds ds, i ∈ cellIds cs ∨ ∃ p ∈ parts, i ∈ avIdsAll (Γ.ev p.2)
  | [], cs, ds, h, i, hi => by injection h with h; subst h; exact .inl hi
  | (j, x) :: r, cs, ds, h, i, hi => by
    simp only [fillx] at h
    split at h
    · rename_i off size vs hp hv
      split at h
      · rcases fillx_ids h i hi with h1 | ⟨p, hp, h1⟩
        · rcases setCells_ids vs cs off i h1 with h1 | h1
          · exact .inl h1
          · exact .inr ⟨(j, x), List.mem_cons_self, cells_ids hv i h1⟩
        · exact .inr ⟨p, List.mem_cons_of_mem _ hp, h1⟩
      · cases h
    · cases h

theorem loc_build {t : TypeId} {parts : Array (Nat × Operand)} (ho : o.op = .build t parts) (hK : opx E Γ o K = some r) : ∃ u, Loc E o Γ K r u := by
  simp only [opx, ho] at hK
  split at hK
  · rename_i i hi
    split at hK
    · rename_i offs hd
      split at hK
      · rename_i cs hcs
        refine loc_val hK fun Γ' hA R' K' => ?_
        have e1 := fillx_loc (Γ := Γ) (Γ' := Γ') (place := fun j => offs[j]?) (parts := parts.toList) (cs := i.zero) (fun p hp => by
          have hm : p.2 ∈ o.op.operands := by simp only [ho, Op.operands]; simp; exact ⟨p.1, by simpa using hp⟩
          exact ⟨hA.ev p.2 hm, hA.men (by rw [ho]; rfl) hm⟩)
        simp only [opx, ho, hi, hd, e1, hcs]
      · cases hK
    · cases hK
  · cases hK

theorem loc_extract {x : Operand} {j : Nat} (ho : o.op = .extract x j) (hK : opx E Γ o K = some r) : ∃ u, Loc E o Γ K r u := by
  simp only [opx, ho] at hK
  split at hK
  · rename_i l hx
    split at hK
    · rename_i b cs hl
      split at hK
      · rename_i v hv
        refine loc_val hK fun Γ' hA R' K' => ?_
        have e1 := hA.ev x (by simp [ho, Op.operands])
        simp only [opx, ho, e1, hx, hl, hv]
      · cases hK
    · cases hK
  · cases hK

/-! ### Operations that turn objects -/
theorem loc_obj {v : AV} {id : Nat} {ob : Obj} (h1 : K ((Γ.obj id ob).put o.dst v) = some r) (h2 : ∀ Γ', Agree E o Γ Γ' → ∀ {R' : Type} (K' : G → Option R'), opx E Γ' o K' = K' ((Γ'.obj id ob).put o.dst v)) : ∃ u, Loc E o Γ K r u :=
  ⟨⟨v, [(id, ob)], [id], []⟩, h1, by simp, by simp, h2⟩
/-- What is read for good, then an object turned. -/
def frzL (ids : List Nat) (H : List Obj) : List (Nat × Obj) := ids.filterMap fun i => ((fzAll ids H)[i]?).map fun o => (i, o)
theorem fz_loc {ids : List Nat} {H H' : List Obj} (hl : H'.length = H.length) (h : ∀ i ∈ ids, H'[i]? = H[i]?) : fzAll ids H' = setAll (frzL ids H) H' := by
  refine setAll_local (by rw [fzAll_len]) (by rw [fzAll_len, hl]) (fun i hi => ?_) (fun i hi => ?_)
  · rw [fzAll_get, fzAll_get, if_pos hi, if_pos hi, h i hi]
  · rw [fzAll_get, if_neg hi]
theorem frzL_ids {ids : List Nat} {H : List Obj} : ∀ p ∈ frzL ids H, p.1 ∈ ids := by
  intro p hp
  obtain ⟨i, hi, h⟩ := List.mem_filterMap.1 hp
  obtain ⟨o, _, rfl⟩ := Option.map_eq_some_iff.1 h
  exact hi
theorem frzL_cov {ids : List Nat} {H : List Obj} : ∀ i ∈ ids, i ∈ (frzL ids H).map (·.1) ∨ H.length ≤ i := by
  intro i hi
  by_cases h : i < H.length
  · left
    have hl : i < (fzAll ids H).length := by rw [fzAll_len]; exact h
    exact List.mem_map.2 ⟨(i, (fzAll ids H)[i]), List.mem_filterMap.2 ⟨i, hi, by rw [List.getElem?_eq_getElem hl]; rfl⟩, rfl⟩
  · exact .inr (by omega)
theorem setAll_append (a b : List (Nat × Obj)) (H : List Obj) : setAll (a ++ b) H = setAll b (setAll a H) := by
  induction a generalizing H with
  | nil => rfl
  | cons p a ih => obtain ⟨i, ob⟩ := p; simp only [List.cons_append, setAll]; exact ih _

theorem loc_fz {v : AV} {ids : List Nat} (h1 : K ((Γ.fz ids).put o.dst v) = some r) (hids : ∀ Γ', Agree E o Γ Γ' → ∀ i ∈ ids, Γ'.h[i]? = Γ.h[i]?)
    (h2 : ∀ Γ', Agree E o Γ Γ' → ∀ {R' : Type} (K' : G → Option R'), opx E Γ' o K' = K' ((Γ'.fz ids).put o.dst v)) : ∃ u, Loc E o Γ K r u := by
  have key : ∀ Γ' : G, Γ'.h.length = Γ.h.length → (∀ i ∈ ids, Γ'.h[i]? = Γ.h[i]?) → (Eff.mk v (frzL ids Γ.h) [] ids).app o.dst Γ' = (Γ'.fz ids).put o.dst v := by
    intro Γ' hl h
    unfold Eff.app G.fz
    rw [fz_loc hl h]
    rfl
  refine ⟨⟨v, frzL ids Γ.h, [], ids⟩, ?_, fun p hp => List.mem_append_right _ (frzL_ids p hp), fun i hi => frzL_cov i hi, fun Γ' hA R' K' => ?_⟩
  · rw [key Γ rfl (fun _ _ => rfl)]; exact h1
  · rw [key Γ' hA.len (hids Γ' hA)]; exact h2 Γ' hA K'
theorem loc_fzobj {v : AV} {ids : List Nat} {id : Nat} {ob : Obj} (h1 : K (((Γ.fz ids).obj id ob).put o.dst v) = some r) (hids : ∀ Γ', Agree E o Γ Γ' → ∀ i ∈ ids, Γ'.h[i]? = Γ.h[i]?)
    (h2 : ∀ Γ', Agree E o Γ Γ' → ∀ {R' : Type} (K' : G → Option R'), opx E Γ' o K' = K' (((Γ'.fz ids).obj id ob).put o.dst v)) : ∃ u, Loc E o Γ K r u := by
  have key : ∀ Γ' : G, Γ'.h.length = Γ.h.length → (∀ i ∈ ids, Γ'.h[i]? = Γ.h[i]?) → (Eff.mk v (frzL ids Γ.h ++ [(id, ob)]) [id] ids).app o.dst Γ' = ((Γ'.fz ids).obj id ob).put o.dst v := by
    intro Γ' hl h
    unfold Eff.app G.obj G.fz
    rw [setAll_append, fz_loc hl h]
    rfl
  refine ⟨⟨v, frzL ids Γ.h ++ [(id, ob)], [id], ids⟩, ?_, fun p hp => ?_, fun i hi => ?_, fun Γ' hA R' K' => ?_⟩
  · rw [key Γ rfl (fun _ _ => rfl)]; exact h1
  · rcases List.mem_append.1 hp with hp | hp
    · exact List.mem_append_right _ (frzL_ids p hp)
    · simp only [List.mem_singleton] at hp; subst hp; exact List.mem_append_left _ List.mem_cons_self
  · simp only [List.map_append, List.mem_append]
    rcases List.mem_append.1 hi with hi | hi
    · simp only [List.mem_singleton] at hi; subst hi; exact .inl (.inr (by simp))
    · rcases frzL_cov (H := Γ.h) i hi with h | h
      · exact .inl (.inl h)
      · exact .inr h
  · rw [key Γ' hA.len (hids Γ' hA)]; exact h2 Γ' hA K'

theorem loc_box {t : TypeId} {x : Operand} (ho : o.op = .box t x) (hK : opx E Γ o K = some r) : ∃ u, Loc E o Γ K r u := by
  simp only [opx, ho] at hK
  split at hK
  · rename_i d i cs hd hi hc
    split at hK
    · rename_i hs
      split at hK
      · rename_i hno
        have h1 : K ((Γ.obj d (.box t cs false)).put o.dst (.c (.ptr d 0))) = some r := by rw [hd]; exact hK
        refine loc_obj h1 fun Γ' hA R' K' => ?_
        have e1 := hA.ev x (by simp [ho, Op.operands])
        have e2 := hA.dst (by rw [ho]; rfl) hd
        simp only [opx, ho, hd, hi, e1]
        rw [cells_loc (H := Γ.h) (hA.men (by rw [ho]; rfl) (x := x) (by simp [ho, Op.operands])), hc]
        simp only [hs, if_true, e2, hno]
      · cases hK
    · cases hK
  · cases hK

theorem loc_alloc {t : TypeId} (ho : o.op = .alloc t) (hK : opx E Γ o K = some r) : ∃ u, Loc E o Γ K r u := by
  simp only [opx, ho] at hK
  split at hK
  · rename_i d i hd hi
    split at hK
    · rename_i hno
      have h1 : K ((Γ.obj d (.box t i.zero false)).put o.dst (.c (.ptr d 0))) = some r := by rw [hd]; exact hK
      refine loc_obj h1 fun Γ' hA R' K' => ?_
      have e2 := hA.dst (by rw [ho]; rfl) hd
      simp only [opx, ho, hd, hi, e2, hno]
    · cases hK
  · cases hK

theorem loc_store {t : TypeId} {x y : Operand} (ho : o.op = .store t x y) (hK : opx E Γ o K = some r) : ∃ u, Loc E o Γ K r u := by
  simp only [opx, ho] at hK
  have mx : ∀ Γ', Agree E o Γ Γ' → Γ'.ev x = Γ.ev x ∧ Γ'.ev y = Γ.ev y ∧ (∀ i ∈ avIdsAll (Γ.ev x), Γ'.h[i]? = Γ.h[i]?) ∧ ∀ i ∈ avIdsAll (Γ.ev y), Γ'.h[i]? = Γ.h[i]? := fun Γ' hA =>
    ⟨hA.ev x (by simp [ho, Op.operands]), hA.ev y (by simp [ho, Op.operands]), hA.men (by rw [ho]; rfl) (by simp [ho, Op.operands]), hA.men (by rw [ho]; rfl) (by simp [ho, Op.operands])⟩
  split at hK
  · rename_i i p vs hi hp hvs
    split at hK
    · rename_i hsz
      unfold storex at hK
      split at hK
      · rename_i id off
        split at hK
        · rename_i t' cs hob
          split at hK
          · rename_i hle
            refine loc_obj hK fun Γ' hA R' K' => ?_
            obtain ⟨a1, a2, a3, a4⟩ := mx Γ' hA
            simp only [opx, ho, hi, a1, a2, hp]
            rw [cells_loc (H := Γ.h) a4, hvs]
            simp only
            rw [if_pos hsz]
            simp only [storex]
            rw [a3 id (by rw [hp]; simp [avIdsAll, cellIds]), hob]
            simp only
            rw [if_pos hle]
          · cases hK
        · cases hK
      · rename_i id ver j off
        split at hK
        · rename_i e k l ver' hob
          split at hK
          · rename_i hc
            obtain ⟨z, hz, hK⟩ := Option.bind_eq_some_iff.1 hK
            split at hK
            · rename_i q hq
              have hcs : ∀ Γ', Agree E o Γ Γ' → ∀ i ∈ cellIds vs, Γ'.h[i]? = Γ.h[i]? := fun Γ' hA i hi => (mx Γ' hA).2.2.2 i (cells_ids hvs i hi)
              refine loc_fzobj hK (fun Γ' hA i hi => hcs Γ' hA i (ownIds_cellIds _ i hi)) fun Γ' hA R' K' => ?_
              obtain ⟨a1, a2, a3, a4⟩ := mx Γ' hA
              simp only [opx, ho, hi, a1, a2, hp]
              rw [cells_loc (H := Γ.h) a4, hvs]
              simp only
              rw [if_pos hsz]
              simp only [storex]
              rw [a3 id (by rw [hp]; simp [avIdsAll, cellIds]), hob]
              simp only
              rw [if_pos hc, hz]
              simp only [Option.bind_some]
              rw [decAll_loc (H := Γ.h) (fun i hi => by
                rcases setCells_ids vs _ off i hi with h | h
                · exact absurd h (enc_noids k z i)
                · exact hcs Γ' hA i h), hq]
            · cases hK
          · cases hK
        · cases hK
      · cases hK
    · cases hK
  · cases hK
where
  enc_noids : ∀ (k : Kd) (x : k.T) (i : Nat), i ∉ cellIds (enc k x)
  | .int _, _, _ => by simp [enc, cellIds]
  | .bool, _, _ => by simp [enc, cellIds]
  | .str, _, _ => by simp [enc, cellIds]
  | .slice _, _, _ => by simp [enc, cellIds]
  | .ptr _, _, _ => by simp [enc, cellIds]
  | .clo _ _, _, _ => by simp [enc, cellIds]
  | .unit, _, _ => by simp [enc, cellIds]
  | .pair a b, x, i => by
    simp only [enc, cellIds_append, List.mem_append, not_or]
    exact ⟨enc_noids a x.1 i, enc_noids b x.2 i⟩

theorem zero_noids {vs : List Value} {cs : List Cell} (h : zeroEq vs cs = true) : cellIds cs = [] := by
  induction vs generalizing cs with
  | nil => cases cs with | nil => rfl | cons _ _ => simp [zeroEq] at h
  | cons v vs ih =>
    cases cs with
    | nil => rfl
    | cons c cs =>
      unfold zeroEq at h
      split at h
      · simp_all
      all_goals first
        | (rename_i e1 e2; cases e1; cases e2; simp only [Bool.and_eq_true] at h; simp only [cellIds]; exact ih h.2)
        | (rename_i e1 e2; cases e1; cases e2; simp only [cellIds]; exact ih h)
        | cases h
theorem rep_noids {z : List Cell} (h : cellIds z = []) : ∀ n, cellIds (repCells z n) = []
  | 0 => rfl
  | n + 1 => by simp only [repCells, cellIds_append, h, rep_noids h n, List.append_nil]
theorem TyIs.noids {P : Program} {t : TypeId} {i : TI} (h : TyIs P t i) : cellIds i.zero = [] := by
  obtain ⟨_, _, _, _, _, _, _, _, _, _, h8, _⟩ := h.ex
  exact zero_noids h8

theorem loc_buildSlice (hE : EnvTy P E) {t : TypeId} {n : Nat} {parts : Array (Nat × Operand)} (ho : o.op = .buildSlice t n parts) (hK : opx E Γ o K = some r) : ∃ u, Loc E o Γ K r u := by
  simp only [opx, ho] at hK
  split at hK
  · rename_i d i hd hi
    split at hK
    · rename_i e hde
      split at hK
      · rename_i ie hie
        split at hK
        · rename_i hs
          split at hK
          · rename_i cs hcs
            split at hK
            · rename_i l hl
              have hz : cellIds (repCells ie.zero n) = [] := rep_noids ((hE.ty e ie hie).noids) n
              have hop : ∀ Γ', Agree E o Γ Γ' → ∀ p ∈ parts.toList, Γ'.ev p.2 = Γ.ev p.2 ∧ ∀ i ∈ avIdsAll (Γ.ev p.2), Γ'.h[i]? = Γ.h[i]? := by
                intro Γ' hA p hp
                have hm : p.2 ∈ o.op.operands := by simp only [ho, Op.operands]; simp; exact ⟨p.1, by simpa using hp⟩
                exact ⟨hA.ev p.2 hm, hA.men (by rw [ho]; rfl) hm⟩
              have hcid : ∀ Γ', Agree E o Γ Γ' → ∀ i ∈ cellIds cs, Γ'.h[i]? = Γ.h[i]? := by
                intro Γ' hA i hi
                rcases fillx_ids hcs i hi with h | ⟨p, hp, h⟩
                · rw [hz] at h; cases h
                · exact (hop Γ' hA p hp).2 i h
              have pre : ∀ Γ', Agree E o Γ Γ' → fillx Γ' (fun j => some (j * ie.size, ie.size)) parts.toList (repCells ie.zero n) = some cs ∧ decMany Γ'.h ie.kd n cs = some l := fun Γ' hA =>
                ⟨(fillx_loc (hop Γ' hA)).trans hcs, (decMany_loc (H := Γ.h) (hcid Γ' hA)).trans hl⟩
              cases hown : E.own d with
              | true =>
                rw [hown] at hK
                simp only [cond_true] at hK
                split at hK
                · rename_i hno
                  have h1 : K (((Γ.fz (ownIds cs)).obj d (.row e ie.kd l 0 false)).put o.dst (.c (.own d 0))) = some r := by rw [hd]; exact hK
                  refine loc_fzobj h1 (fun Γ' hA i hi => hcid Γ' hA i (ownIds_cellIds _ i hi)) fun Γ' hA R' K' => ?_
                  obtain ⟨a1, a2⟩ := pre Γ' hA
                  have a3 := hA.dst (by rw [ho]; rfl) hd
                  simp only [opx, ho, hd, hi, hde, hie]
                  rw [if_pos hs, a1]
                  simp only [a2, hown, cond_true, a3, hno]
                · cases hK
              | false =>
                rw [hown] at hK
                simp only [cond_false] at hK
                have h1 : K ((Γ.fz (ownIds cs)).put o.dst (.c (.sl ie.kd l))) = some r := by rw [hd]; exact hK
                refine loc_fz h1 (fun Γ' hA i hi => hcid Γ' hA i (ownIds_cellIds _ i hi)) fun Γ' hA R' K' => ?_
                obtain ⟨a1, a2⟩ := pre Γ' hA
                simp only [opx, ho, hd, hi, hde, hie]
                rw [if_pos hs, a1]
                simp only [a2, hown, cond_false]
            · cases hK
          · cases hK
        · cases hK
      · cases hK
    · cases hK
  · cases hK

theorem loc_makeSlice (hE : EnvTy P E) {t : TypeId} {n c : Operand} (ho : o.op = .makeSlice t n c) (hK : opx E Γ o K = some r) : ∃ u, Loc E o Γ K r u := by
  simp only [opx, ho] at hK
  split at hK
  · rename_i d i ik nn ik' cc hd hi hn hc
    split at hK
    · rename_i e hde
      split at hK
      · rename_i ie hie
        split at hK
        · rename_i z hz hno
          split at hK
          · rename_i hs
            split at hK
            · rename_i hs2
              have h1 : K ((Γ.obj d (.row e ie.kd (List.replicate nn.toNat z) 0 false)).put o.dst (.c (.own d 0))) = some r := by rw [hd]; exact hK
              refine loc_obj h1 fun Γ' hA R' K' => ?_
              have e1 := hA.ev n (by simp [ho, Op.operands])
              have e2 := hA.ev c (by simp [ho, Op.operands])
              have e3 := hA.dst (by rw [ho]; rfl) hd
              have hz0 : cellIds ie.zero = [] := (hE.ty e ie hie).noids
              simp only [opx, ho, hd, hi, e1, e2, hn, hc, hde, hie]
              rw [decAll_loc (H := Γ.h) (fun i hi => by rw [hz0] at hi; cases hi), hz, e3, hno]
              simp only
              rw [if_pos hs, if_pos hs2]
            · cases hK
          · cases hK
        · cases hK
      · cases hK
    · cases hK
  · cases hK
end
end Go.Vm
