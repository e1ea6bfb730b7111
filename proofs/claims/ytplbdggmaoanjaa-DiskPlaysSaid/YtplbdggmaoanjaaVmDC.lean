/- A small evaluator for the translated code, and the proof that what it computes the code does. -/
import Derived.Test.YtplbdggmaoanjaaVmDB
/-! Regions whose order is drawn, part 3: append, function values, calls. -/
namespace Go.Vm
open Go.RowKit

section
variable {R : Type} {P : Program} {E : Env} {o : Oper} {Γ : G} {K : G → Option R} {r : R}

theorem call_operand {c : Call} (ho : o.op = .call c) {x : Operand} (hx : x ∈ c.args) : x ∈ o.op.operands := by
  simp only [ho, Op.operands, Call.operands]
  exact Array.mem_append.2 (.inr hx)

theorem loc_append {c : Call} {e : TypeId} {bytes : Nat} {kd : Kd} {d : Nat} {s x : Operand} {cs cx : Cell} (ho : o.op = .call c) (hb : plainFoot o.op = true) (hs0 : s ∈ c.args) (hx0 : x ∈ c.args) (hd : o.dst = some d) (es : Γ.ev s = .c cs) (ex : Γ.ev x = .c cx)
    (hK : appendx Γ e bytes kd d cs cx K = some r)
    (hop : ∀ Γ', Agree E o Γ Γ' → ∀ {R' : Type} (K' : G → Option R'), opx E Γ' o K' = appendx Γ' e bytes kd d cs cx K') : ∃ u, Loc E o Γ K r u := by
  have ms : ∀ Γ', Agree E o Γ Γ' → ∀ i ∈ cellIds [cs], Γ'.h[i]? = Γ.h[i]? := fun Γ' hA i hi => hA.men hb (call_operand ho hs0) i (by rw [es]; exact hi)
  have mx : ∀ Γ', Agree E o Γ Γ' → ∀ i ∈ cellIds [cx], Γ'.h[i]? = Γ.h[i]? := fun Γ' hA i hi => hA.men hb (call_operand ho hx0) i (by rw [ex]; exact hi)
  unfold appendx at hK
  split at hK
  · rename_i id ver
    split at hK
    · rename_i e' k l ver' fz hob
      split at hK
      · rename_i hc
        split at hK
        · rename_i m hm
          split at hK
          · rename_i hsz
            have h1 : K (((Γ.fz (ownIds [cx])).obj id (.row e k (l ++ m) (ver + 1) fz)).put o.dst (.c (.own id (ver + 1)))) = some r := by rw [hd]; exact hK
            refine loc_fzobj h1 (fun Γ' hA i hi => mx Γ' hA i (ownIds_cellIds _ i hi)) fun Γ' hA R' K' => ?_
            rw [hop Γ' hA K']
            simp only [appendx]
            rw [ms Γ' hA id (by simp [cellIds]), hob]
            dsimp only
            rw [if_pos hc, srcAs_loc (H := Γ.h) (mx Γ' hA), hm]
            dsimp only
            rw [if_pos hsz, hd]
          · cases hK
        · cases hK
      · cases hK
    · cases hK
  · split at hK
    · rename_i hno
      split at hK
      · rename_i m hm
        split at hK
        · rename_i hsz
          have h1 : K (((Γ.fz (ownIds [cx])).obj d (.row e kd m 0 false)).put o.dst (.c (.own d 0))) = some r := by rw [hd]; exact hK
          refine loc_fzobj h1 (fun Γ' hA i hi => mx Γ' hA i (ownIds_cellIds _ i hi)) fun Γ' hA R' K' => ?_
          rw [hop Γ' hA K']
          simp only [appendx]
          rw [hA.dst hb hd, hno]
          dsimp only
          rw [srcAs_loc (H := Γ.h) (mx Γ' hA), hm]
          dsimp only
          rw [if_pos hsz, hd]
        · cases hK
      · cases hK
    · cases hK
  · cases hK

/-! ### Function values -/
theorem objCells_loc {H H' : List Obj} {id : Nat} (h : H'[id]? = H[id]?) : objCells H' id = objCells H id := by unfold objCells; rw [h]
theorem caps_loc {Γ' : G} : ∀ {l : List Operand}, (∀ x ∈ l, Γ'.ev x = Γ.ev x ∧ (∀ i ∈ avIdsAll (Γ.ev x), Γ'.h[i]? = Γ.h[i]? ∧ ∀ j ∈ cellIds (objCells Γ.h i), Γ'.h[j]? = Γ.h[j]?)) → caps Γ' E l = caps Γ E l
  | [], _ => rfl
  | x :: r, h => by
    obtain ⟨h1, h2⟩ := h x List.mem_cons_self
    have ih := caps_loc (l := r) fun y hy => h y (List.mem_cons_of_mem _ hy)
    simp only [caps]
    rw [h1, ih]
    split
    · rename_i id hx
      rw [hx] at h2
      obtain ⟨h3, h4⟩ := h2 id (by simp [avIdsAll, cellIds])
      rw [h3]
      split
      · rename_i t cs fz hob
        split
        · rename_i i hi
          rw [decAll_loc (H := Γ.h) (fun j hj => h4 j (by simp only [objCells, hob]; exact hj))]
        · rfl
      · rfl
    · rfl
    · rfl
theorem caps_ids : ∀ {l : List Operand} {k : Kd} {z : k.T} {ids : List Nat}, caps Γ E l = some ⟨k, z, ids⟩ → ∀ i ∈ ids, ∃ x ∈ l, i ∈ avIdsAll (Γ.ev x) ∨ ∃ j ∈ avIdsAll (Γ.ev x), i ∈ cellIds (objCells Γ.h j)
  | [], k, z, ids, h => by
    simp only [caps, Option.some.injEq, Sigma.mk.injEq] at h
    obtain ⟨rfl, h⟩ := h
    have h := eq_of_heq h
    injection h with _ h
    subst h
    intro i hi
    cases hi
  | x :: r, k, z, ids, h => by
    simp only [caps] at h
    split at h
    · rename_i id hx
      split at h
      · rename_i t cs fz hob
        split at h
        · rename_i ti hti
          split at h
          · rename_i y hy
            split at h
            · rename_i k2 z2 ids2 h2
              simp only [Option.some.injEq, Sigma.mk.injEq] at h
              obtain ⟨rfl, h⟩ := h
              have h := eq_of_heq h
              injection h with _ h
              subst h
              intro i hi
              simp only [List.cons_append, List.mem_cons, List.mem_append] at hi
              rcases hi with hi | hi | hi
              · subst hi
                exact ⟨x, List.mem_cons_self, .inl (by rw [hx]; simp [avIdsAll, cellIds])⟩
              · exact ⟨x, List.mem_cons_self, .inr ⟨id, by rw [hx]; simp [avIdsAll, cellIds], by simp only [objCells, hob]; exact ownIds_cellIds _ i hi⟩⟩
              · obtain ⟨y, hy, h3⟩ := caps_ids h2 i hi
                exact ⟨y, List.mem_cons_of_mem _ hy, h3⟩
            · cases h
          · cases h
        · cases h
      · cases h
    · split at h
      · rename_i k2 z2 ids2 h2
        simp only [Option.some.injEq, Sigma.mk.injEq] at h
        obtain ⟨rfl, h⟩ := h
        have h := eq_of_heq h
        injection h with _ h
        subst h
        intro i hi
        obtain ⟨y, hy, h3⟩ := caps_ids h2 i hi
        exact ⟨y, List.mem_cons_of_mem _ hy, h3⟩
      · cases h
    · cases h

theorem loc_makeFunc {fn : Fn} {first cs : Array Operand} (ho : o.op = .makeFunc fn first cs) (hK : opx E Γ o K = some r) : ∃ u, Loc E o Γ K r u := by
  simp only [opx, ho] at hK
  split at hK
  · rename_i f hf
    split at hK
    · rename_i k x ids hc
      have hop : ∀ y ∈ cs.toList, y ∈ o.op.operands := fun y hy => by
        simp only [ho, Op.operands]
        exact Array.mem_append.2 (.inr (by simpa using hy))
      have hfoot : ∀ y ∈ cs.toList, ∀ i ∈ avIdsAll (Γ.ev y), i ∈ foot E Γ o ∧ ∀ j ∈ cellIds (objCells Γ.h i), j ∈ foot E Γ o := by
        intro y hy i hi
        have hm := mention_mem (hop y hy) i hi
        have hf : foot E Γ o = mentions Γ o ++ deepIds Γ (mentions Γ o) := by unfold foot; rw [ho]
        rw [hf]
        exact ⟨List.mem_append_left _ hm, fun j hj => List.mem_append_right _ (List.mem_flatMap.2 ⟨i, hm, hj⟩)⟩
      refine loc_fz hK (fun Γ' hA i hi => ?_) fun Γ' hA R' K' => ?_
      · obtain ⟨y, hy, h3⟩ := caps_ids hc i hi
        rcases h3 with h3 | ⟨j, hj, h3⟩
        · exact hA.h i (hfoot y hy i h3).1
        · exact hA.h i ((hfoot y hy j hj).2 i h3)
      · have e1 := caps_loc (E := E) (Γ := Γ) (Γ' := Γ') (l := cs.toList) fun y hy => ⟨hA.ev y (hop y hy), fun i hi => ⟨hA.h i (hfoot y hy i hi).1, fun j hj => hA.h j ((hfoot y hy i hi).2 j hj)⟩⟩
        simp only [opx, ho, hf, e1, hc]
    · cases hK
  · cases hK

/-! ### Calls -/
section
variable {H H' HE : List Obj} {dom : List (Nat × Nat)}
theorem unCell_loc {c : Cell} (h : ∀ i ∈ cellIds [c], H'[i]? = H[i]?) : unCell dom H' c = unCell dom H c := by
  cases c <;> first | rfl | (simp only [unCell]; rw [h _ (by simp [cellIds])])
theorem unCells_loc {l : List Cell} (h : ∀ i ∈ cellIds l, H'[i]? = H[i]?) : l.map (unCell dom H') = l.map (unCell dom H) :=
  List.map_congr_left fun c hc => unCell_loc fun i hi => h i (cellIds_mem hc i hi)
theorem unAV_loc {v : AV} (h : ∀ i ∈ avIdsAll v, H'[i]? = H[i]?) : unAV dom H' v = unAV dom H v := by
  cases v with
  | c x => simp only [unAV]; rw [unCell_loc h]
  | agg l => simp only [unAV]; rw [unCells_loc h]
  | tup l => rfl
theorem unObj_loc {ob : Obj} (h : ∀ t cs fz, ob = .box t cs fz → ∀ i ∈ cellIds cs, H'[i]? = H[i]?) : unObj dom H' ob = unObj dom H ob := by
  cases ob with
  | no => rfl
  | box t cs fz => simp only [unObj]; rw [unCells_loc (h t cs fz rfl)]
  | row _ _ _ _ _ => rfl
theorem aOf_snd {f a : Nat} (h : aOf dom f = some a) : a ∈ dom.map (·.2) := List.mem_map_of_mem (f := (·.2)) (aOf_mem h)
theorem unHeap_loc {n : Nat} (h1 : ∀ a ∈ dom.map (·.2), H'[a]? = H[a]?) (h2 : ∀ a ∈ dom.map (·.2), ∀ i ∈ cellIds (objCells H a), H'[i]? = H[i]?) : unHeap dom H' n = unHeap dom H n := by
  unfold unHeap
  refine List.map_congr_left fun f _ => ?_
  split
  · rename_i a ha
    rw [h1 a (aOf_snd ha)]
    split
    · rename_i ob hob
      exact unObj_loc fun t cs fz e i hi => h2 a (aOf_snd ha) i (by simp only [objCells, hob, e]; exact hi)
    · rfl
  · rfl
theorem unReads_loc {args : List AV} (h1 : ∀ a ∈ dom.map (·.2), H'[a]? = H[a]?) : unReads dom H' args = unReads dom H args := by
  unfold unReads
  congr 1
  have : ∀ l : List (Nat × Nat), (∀ p ∈ l, p ∈ dom) → (l.flatMap fun p => objCells H' p.2) = l.flatMap fun p => objCells H p.2 := by
    intro l
    induction l with
    | nil => intro _; rfl
    | cons p l ih =>
      intro hl
      rw [List.flatMap_cons, List.flatMap_cons, ih fun q hq => hl q (List.mem_cons_of_mem _ hq), objCells_loc (h1 p.2 (List.mem_map_of_mem (f := (·.2)) (hl p List.mem_cons_self)))]
  rw [this dom fun _ h => h]
theorem unIds_sub : ∀ {cs : List Cell}, ∀ i ∈ unIds dom cs, i ∈ cellIds cs
  | [], i, h => by cases h
  | c :: r, i, h => by
    have ih := unIds_sub (cs := r) i
    cases c with
    | own id ver =>
      simp only [unIds, List.mem_append, cellIds, List.mem_cons] at h ⊢
      rcases h with h | h
      · split at h
        · cases h
        · simp only [List.mem_singleton] at h; exact .inl h
      · exact .inr (ih h)
    | ptr _ _ => simp only [cellIds, List.mem_cons]; exact .inr (ih h)
    | eptr _ _ _ _ => simp only [cellIds, List.mem_cons]; exact .inr (ih h)
    | _ => exact ih h
theorem unReads_sub {args : List AV} : ∀ i ∈ unReads dom H args, (∃ v ∈ args, i ∈ avIdsAll v) ∨ ∃ a ∈ dom.map (·.2), i ∈ cellIds (objCells H a) := by
  intro i hi
  unfold unReads at hi
  rcases List.mem_append.1 hi with hi | hi
  · left
    have h1 := unIds_sub i hi
    have : ∀ l : List AV, i ∈ cellIds (l.flatMap avCellsAll) → ∃ v ∈ l, i ∈ avIdsAll v := by
      intro l
      induction l with
      | nil => intro h; cases h
      | cons v l ih =>
        intro h
        rw [List.flatMap_cons, cellIds_append] at h
        rcases List.mem_append.1 h with h | h
        · refine ⟨v, List.mem_cons_self, ?_⟩
          cases v with
          | c x => exact h
          | agg l => exact h
          | tup l => cases h
        · obtain ⟨v', h2, h3⟩ := ih h
          exact ⟨v', List.mem_cons_of_mem _ h2, h3⟩
    exact this _ h1
  · right
    have h1 := unIds_sub i hi
    have : ∀ l : List (Nat × Nat), i ∈ cellIds (l.flatMap fun p => objCells H p.2) → ∃ p ∈ l, i ∈ cellIds (objCells H p.2) := by
      intro l
      induction l with
      | nil => intro h; cases h
      | cons p l ih =>
        intro h
        rw [List.flatMap_cons, cellIds_append] at h
        rcases List.mem_append.1 h with h | h
        · exact ⟨p, List.mem_cons_self, h⟩
        · obtain ⟨q, h2, h3⟩ := ih h
          exact ⟨q, List.mem_cons_of_mem _ h2, h3⟩
    obtain ⟨p, h2, h3⟩ := this _ h1
    exact ⟨p.2, List.mem_map_of_mem (f := (·.2)) h2, h3⟩
theorem curVer_loc {a : Nat} (h : H'[a]? = H[a]?) : curVer H' a = curVer H a := by unfold curVer; rw [h]
theorem reCell_loc (h1 : ∀ a ∈ dom.map (·.2), H'[a]? = H[a]?) {c : Cell} : reCell dom H' c = reCell dom H c := by
  cases c with
  | own f v =>
    simp only [reCell]
    split
    · rename_i a ha; rw [curVer_loc (h1 a (aOf_snd ha))]
    · rfl
  | eptr f v i off =>
    simp only [reCell]
    split
    · rename_i a ha; rw [curVer_loc (h1 a (aOf_snd ha))]
    · rfl
  | _ => rfl
theorem reAV_loc (h1 : ∀ a ∈ dom.map (·.2), H'[a]? = H[a]?) {v : AV} : reAV dom H' v = reAV dom H v := by
  cases v with
  | c x => simp only [reAV, reCell_loc h1]
  | agg l => simp only [reAV]; rw [List.map_congr_left fun c _ => reCell_loc h1]
  | tup l => rfl
theorem resAV_loc (h1 : ∀ a ∈ dom.map (·.2), H'[a]? = H[a]?) {l : List AV} : resAV dom H' l = resAV dom H l := by
  match l with
  | [] => rfl
  | [v] => exact reAV_loc h1
  | a :: b :: r =>
    simp only [resAV]
    rw [List.map_congr_left fun v _ => by rw [reAV_loc h1]]
theorem reObj_loc (h1 : ∀ a ∈ dom.map (·.2), H'[a]? = H[a]?) {a : Nat} (ha : a ∈ dom.map (·.2)) {ob : Obj} : reObj dom H' a ob = reObj dom H a ob := by
  cases ob with
  | no => rfl
  | box t cs fz => simp only [reObj]; rw [List.map_congr_left fun c _ => reCell_loc h1]
  | row e k l ver fz => simp only [reObj]; rw [curVer_loc (h1 a ha)]
theorem domOk_loc (hl : H'.length = H.length) (h1 : ∀ a ∈ dom.map (·.2), H'[a]? = H[a]?) {HS HE : List Obj} : domOk dom H' HS HE = domOk dom H HS HE := by
  unfold domOk
  rw [hl]
  congr 1
  have : ∀ l : List (Nat × Nat), (∀ p ∈ l, p ∈ dom) → l.all (fun p => (match HS[p.1]? with | some .no => isNo H' p.2 | _ => true) && decide (p.2 < H.length)) = l.all (fun p => (match HS[p.1]? with | some .no => isNo H p.2 | _ => true) && decide (p.2 < H.length)) := by
    intro l
    induction l with
    | nil => intro _; rfl
    | cons p l ih =>
      intro hp
      simp only [List.all_cons]
      rw [ih fun q hq => hp q (List.mem_cons_of_mem _ hq)]
      unfold isNo
      rw [h1 p.2 (List.mem_map_of_mem (f := (·.2)) (hp p List.mem_cons_self))]
  exact this dom fun _ h => h

/-- What stands behind a call, place by place. -/
def backAt (dom : List (Nat × Nat)) (rds ids : List Nat) (HE H : List Obj) : List Obj := restore ids (fzAll rds H) HE dom (copyBack dom H HE dom (fzAll rds H))
theorem backAt_len {rds ids : List Nat} : (backAt dom rds ids HE H).length = H.length := by unfold backAt; rw [restore_len, copyBack_len, fzAll_len]
theorem backAt_in {HS : List Obj} {rds ids : List Nat} (hd : DomIs dom H HS HE) {f a : Nat} (hm : (f, a) ∈ dom) :
    (backAt dom rds ids HE H)[a]? = (match keptOb ids (fzAll rds H) HE f a with | some o' => some o' | none => match HE[f]? with | some .no => (fzAll rds H)[a]? | some o => some (reObj dom H a o) | none => (fzAll rds H)[a]?) := by
  unfold backAt
  rw [restore_in hd.n2 hm (by rw [copyBack_len, fzAll_len]; exact hd.lt f a hm), copyBack_in hd.n2 hm (by rw [fzAll_len]; exact hd.lt f a hm)]
  rfl
theorem backAt_out {rds ids : List Nat} {a : Nat} (h : a ∉ dom.map (·.2)) : (backAt dom rds ids HE H)[a]? = (fzAll rds H)[a]? := by
  unfold backAt
  rw [restore_out h, copyBack_out h]
theorem turned_loc {rds ids : List Nat} (h1 : ∀ a ∈ dom.map (·.2), (fzAll rds H')[a]? = (fzAll rds H)[a]?) : turned ids (fzAll rds H') HE dom = turned ids (fzAll rds H) HE dom := by
  have : ∀ l : List (Nat × Nat), (∀ p ∈ l, p ∈ dom) → turned ids (fzAll rds H') HE l = turned ids (fzAll rds H) HE l := by
    intro l
    induction l with
    | nil => intro _; rfl
    | cons p l ih =>
      intro hp
      obtain ⟨f, a⟩ := p
      simp only [turned]
      rw [ih fun q hq => hp q (List.mem_cons_of_mem _ hq), h1 a (List.mem_map_of_mem (f := (·.2)) (hp _ List.mem_cons_self))]
  exact this dom fun _ h => h
theorem turned_sub {ids : List Nat} {H1 : List Obj} : ∀ {l : List (Nat × Nat)}, ∀ i ∈ turned ids H1 HE l, i ∈ l.map (·.2)
  | (f, a) :: r, i, h => by
    simp only [turned, List.mem_append] at h
    rcases h with h | h
    · simp only [List.map_cons, List.mem_cons]
      left
      split at h
      · cases h
      · split at h
        · cases h
        · simpa using h
      · cases h
    · simp only [List.map_cons, List.mem_cons]
      exact .inr (turned_sub i h)
def newFz (dom : List (Nat × Nat)) (rds ids : List Nat) (HE H : List Obj) : List Nat := (dom.map (·.2)).filter fun a => isFz (backAt dom rds ids HE H) a && !isFz H a

theorem backAt_kept {HS : List Obj} {rds ids : List Nat} (hd : DomIs dom H HS HE) (hr : ∀ i ∈ rds, i ∉ dom.map (·.2)) {i : Nat} (h1 : i ∉ turned ids (fzAll rds H) HE dom) (h2 : i ∉ newFz dom rds ids HE H) (h3 : i ∉ rds) : (backAt dom rds ids HE H)[i]? = H[i]? := by
  have hfz : (fzAll rds H)[i]? = H[i]? := by rw [fzAll_get, if_neg h3]
  by_cases hin : i ∈ dom.map (·.2)
  · obtain ⟨⟨f, a⟩, hm, e⟩ := List.mem_map.1 hin
    dsimp only at e
    subst e
    have hb := backAt_in (rds := rds) (ids := ids) hd hm
    have hn' : a ∉ (match HE[f]? with | some .no => [] | some o => (match keepOb ids f o (fzAll rds H)[a]? with | some _ => [] | none => [a]) | none => []) := fun hh => h1 (turned_mem hm hh)
    cases hk : keptOb ids (fzAll rds H) HE f a with
    | some o' =>
      rw [hk] at hb
      dsimp only at hb
      unfold keptOb at hk
      split at hk
      · rename_i ob ho
        obtain ⟨_, h5⟩ := keepOb_some hk
        rw [hfz] at h5
        have flag : ∀ fz fz0 : Bool, isFz (backAt dom rds ids HE H) a = (fz0 || fz) → isFz H a = fz → (fz0 || fz) = fz := by
          intro fz fz0 e1 e2
          cases fz with
          | true => simp
          | false =>
            cases fz0 with
            | false => rfl
            | true => exact absurd (List.mem_filter.2 ⟨hin, by rw [e1, e2]; rfl⟩) h2
        rcases h5 with ⟨t0, cs0, fz0, t, cs, fz, _, h6, rfl⟩ | ⟨e0, k0, l0, fz0, e, k, l, ver, fz, _, h6, rfl⟩
        · rw [flag fz fz0 (by simp [isFz, hb]) (by simp [isFz, h6])] at hb
          rw [hb, h6]
        · rw [flag fz fz0 (by simp [isFz, hb]) (by simp [isFz, h6])] at hb
          rw [hb, h6]
      · cases hk
    | none =>
      rw [hk] at hb
      dsimp only at hb
      rw [hb]
      unfold keptOb at hk
      cases ho : HE[f]? with
      | none => exact hfz
      | some ob =>
        rw [ho] at hn' hk
        cases ob with
        | no => exact hfz
        | box t cs fz => dsimp only at hn' hk; rw [hk] at hn'; simp at hn'
        | row e k l v fz => dsimp only at hn' hk; rw [hk] at hn'; simp at hn'
  · rw [backAt_out hin]
    exact hfz

theorem backAt_loc {HS : List Obj} {rds ids : List Nat} (hl : H'.length = H.length) (hd : DomIs dom H HS HE) (hr : ∀ i ∈ rds, i ∉ dom.map (·.2)) (h1 : ∀ a ∈ dom.map (·.2), H'[a]? = H[a]?) (h2 : ∀ a ∈ rds, H'[a]? = H[a]?) :
    turned ids (fzAll rds H') HE dom = turned ids (fzAll rds H) HE dom ∧ newFz dom rds ids HE H' = newFz dom rds ids HE H ∧
      backAt dom rds ids HE H' = setAll ((turned ids (fzAll rds H) HE dom ++ (newFz dom rds ids HE H ++ rds)).filterMap fun i => ((backAt dom rds ids HE H)[i]?).map fun o => (i, o)) H' := by
  have hd' : DomIs dom H' HS HE := ⟨hd.n1, hd.n2, hd.back, fun f a hm hs => by rw [h1 a (List.mem_map_of_mem (f := (·.2)) hm)]; exact hd.no f a hm hs, fun f a hm => by rw [hl]; exact hd.lt f a hm⟩
  have hfz : ∀ a ∈ dom.map (·.2), (fzAll rds H')[a]? = (fzAll rds H)[a]? := by
    intro a ha
    have hn : a ∉ rds := fun hh => hr a hh ha
    rw [fzAll_get, fzAll_get, if_neg hn, if_neg hn, h1 a ha]
  have ht := turned_loc (HE := HE) (ids := ids) hfz
  have hb : ∀ a ∈ dom.map (·.2), (backAt dom rds ids HE H')[a]? = (backAt dom rds ids HE H)[a]? := by
    intro a ha
    obtain ⟨⟨f, a'⟩, hm, e⟩ := List.mem_map.1 ha
    dsimp only at e
    subst e
    rw [backAt_in hd' hm, backAt_in hd hm]
    have hk : keptOb ids (fzAll rds H') HE f a' = keptOb ids (fzAll rds H) HE f a' := by unfold keptOb; rw [hfz a' ha]
    rw [hk, hfz a' ha]
    split
    · rfl
    · split
      · rfl
      · rw [reObj_loc h1 ha]
      · rfl
  have hn : newFz dom rds ids HE H' = newFz dom rds ids HE H := by
    unfold newFz
    refine List.filter_congr fun a ha => ?_
    unfold isFz
    rw [hb a ha, h1 a ha]
  refine ⟨ht, hn, setAll_local (by rw [backAt_len]) (by rw [backAt_len, hl]) (fun i hi => ?_) (fun i hi => ?_)⟩
  · by_cases hin : i ∈ dom.map (·.2)
    · exact hb i hin
    · rw [backAt_out hin, backAt_out hin]
      simp only [List.mem_append] at hi
      rcases hi with hi | hi | hi
      · exact absurd (turned_sub i hi) hin
      · exact absurd (List.mem_filter.1 hi).1 hin
      · rw [fzAll_get, fzAll_get, if_pos hi, if_pos hi, h2 i hi]
  · simp only [List.mem_append, not_or] at hi
    exact backAt_kept hd' hr (by rw [ht]; exact hi.1) (by rw [hn]; exact hi.2.1) hi.2.2
end

theorem altK_ex {X : Type} {K : (s : Shape) → s.kd.T → Option X} {x : X} : ∀ {l : List Shape} {z : AltT l}, altK l z K = some x → ∃ s, ∃ y : s.kd.T, K s y = some x ∧ ∀ {X' : Type} (K' : (s : Shape) → s.kd.T → Option X'), altK l z K' = K' s y
  | [s], z, h => ⟨s, z, h, fun K' => rfl⟩
  | s :: t :: r, .inl z, h => ⟨s, z, h, fun K' => rfl⟩
  | s :: t :: r, .inr z, h => altK_ex (l := t :: r) (z := z) h

theorem pickC_sub {f : FuncId} {args : List AV} {F : FnI} {dom : List (Nat × Nat)} : ∀ {l : List (Nat × List (Nat × Nat))}, pickC E Γ f args l = some (F, dom) → ∃ p ∈ l, p.2 = dom
  | [(v, d)], h => by
    simp only [pickC] at h
    split at h
    · injection h with h
      injection h with h1 h2
      exact ⟨_, List.mem_cons_self, h2⟩
    · cases h
  | (v, d) :: p :: r, h => by
    have rest : pickC E Γ f args (p :: r) = some (F, dom) → ∃ q ∈ (v, d) :: p :: r, q.2 = dom := fun h => by
      obtain ⟨q, h1, h2⟩ := pickC_sub h
      exact ⟨q, List.mem_cons_of_mem _ h1, h2⟩
    simp only [pickC] at h
    split at h
    · split at h
      · injection h with h
        injection h with h1 h2
        exact ⟨_, List.mem_cons_self, h2⟩
      · exact rest h
    · exact rest h
theorem pickC_loc {Γ' : G} {f : FuncId} {args : List AV} : ∀ {l : List (Nat × List (Nat × Nat))}, (∀ p ∈ l, ∀ n, unHeap p.2 Γ'.h n = unHeap p.2 Γ.h n) → (∀ p ∈ l, args.map (unAV p.2 Γ'.h) = args.map (unAV p.2 Γ.h)) → pickC E Γ' f args l = pickC E Γ f args l
  | [], _, _ => rfl
  | [(v, d)], _, _ => rfl
  | (v, d) :: p :: r, h1, h2 => by
    have ih : pickC E Γ' f args (p :: r) = pickC E Γ f args (p :: r) := pickC_loc (l := p :: r) (fun q hq => h1 q (List.mem_cons_of_mem _ hq)) (fun q hq => h2 q (List.mem_cons_of_mem _ hq))
    have e1 := h1 (v, d) List.mem_cons_self
    have e2 := h2 (v, d) List.mem_cons_self
    dsimp only at e1 e2
    simp only [pickC]
    split
    · rename_i F hF
      rw [e1, e2, ih]
    · exact ih

theorem loc_callx {c : Call} {f : FuncId} {args : List AV} (ho : o.op = .call c) (hv : ∃ x, c.callee = .value x) (hargs : ∀ v ∈ args, ∀ i ∈ avIdsAll v, i ∈ mentions Γ o)
    (hK : callx E Γ f args o.dst K = some r) (hop : ∀ Γ', Agree E o Γ Γ' → ∀ {R' : Type} (K' : G → Option R'), opx E Γ' o K' = callx E Γ' f args o.dst K') : ∃ u, Loc E o Γ K r u := by
  have hfoot : foot E Γ o = mentions Γ o ++ (domIds E o ++ deepIds Γ (domIds E o)) := by
    obtain ⟨x, hx⟩ := hv
    unfold foot
    rw [ho]
    dsimp only
    rw [hx]
  have a1 : ∀ Γ', Agree E o Γ Γ' → ∀ p ∈ E.cand (o.dst.getD 0), ∀ a ∈ p.2.map (·.2), Γ'.h[a]? = Γ.h[a]? ∧ ∀ i ∈ cellIds (objCells Γ.h a), Γ'.h[i]? = Γ.h[i]? := by
    intro Γ' hA p hp a ha
    have h1 : a ∈ domIds E o := List.mem_flatMap.2 ⟨p, hp, ha⟩
    exact ⟨hA.h a (by rw [hfoot]; exact List.mem_append_right _ (List.mem_append_left _ h1)), fun i hi => hA.h i (by rw [hfoot]; exact List.mem_append_right _ (List.mem_append_right _ (List.mem_flatMap.2 ⟨a, h1, hi⟩)))⟩
  have a2 : ∀ Γ', Agree E o Γ Γ' → ∀ v ∈ args, ∀ i ∈ avIdsAll v, Γ'.h[i]? = Γ.h[i]? := fun Γ' hA v hv i hi => hA.h i (by rw [hfoot]; exact List.mem_append_left _ (hargs v hv i hi))
  unfold callx at hK
  split at hK
  · cases hK
  · rename_i F dom hF
    obtain ⟨p, hp, rfl⟩ := pickC_sub hF
    simp only at hK
    split at hK
    · rename_i hen
      obtain ⟨x, hx, hK⟩ := Option.bind_eq_some_iff.1 hK
      obtain ⟨z, hz, hK⟩ := Option.bind_eq_some_iff.1 hK
      obtain ⟨s, y, hK, halt⟩ := altK_ex hK
      split at hK
      · rename_i hdo
        have hd := dom_is hdo
        have hr : ∀ i ∈ unReads p.2 Γ.h args, i ∉ p.2.map (·.2) := by
          intro i hi
          refine fOf_none.1 ?_
          unfold unReads at hi
          rcases List.mem_append.1 hi with hi | hi <;> exact unIds_out hi
        have hrd : ∀ Γ', Agree E o Γ Γ' → ∀ i ∈ unReads p.2 Γ.h args, Γ'.h[i]? = Γ.h[i]? := by
          intro Γ' hA i hi
          rcases unReads_sub i hi with ⟨v, hv, h⟩ | ⟨a, ha, h⟩
          · exact a2 Γ' hA v hv i h
          · exact (a1 Γ' hA p hp a ha).2 i h
        have key : ∀ Γ', Agree E o Γ Γ' → Γ'.back p.2 (unReads p.2 Γ.h args) s.ids (endH F x s y) =
            { t := Γ'.t, h := setAll ((turned s.ids (fzAll (unReads p.2 Γ.h args) Γ.h) (endH F x s y) p.2 ++ (newFz p.2 (unReads p.2 Γ.h args) s.ids (endH F x s y) Γ.h ++ unReads p.2 Γ.h args)).filterMap fun i => ((backAt p.2 (unReads p.2 Γ.h args) s.ids (endH F x s y) Γ.h)[i]?).map fun o => (i, o)) Γ'.h,
              lg := turned s.ids (fzAll (unReads p.2 Γ.h args) Γ.h) (endH F x s y) p.2 ++ Γ'.lg, lf := (newFz p.2 (unReads p.2 Γ.h args) s.ids (endH F x s y) Γ.h ++ unReads p.2 Γ.h args) ++ Γ'.lf } := by
          intro Γ' hA
          obtain ⟨e1, e2, e3⟩ := backAt_loc (HE := endH F x s y) (ids := s.ids) hA.len hd hr (fun a ha => (a1 Γ' hA p hp a ha).1) (hrd Γ' hA)
          unfold G.back
          rw [← e3, e1]
          have e2' := e2
          unfold newFz backAt at e2'
          rw [e2']
          rw [List.append_assoc]
          rfl
        have hself : Agree E o Γ Γ := ⟨fun _ _ => rfl, rfl, fun _ _ => rfl⟩
        refine ⟨⟨resAV p.2 Γ.h (s.outs y), (turned s.ids (fzAll (unReads p.2 Γ.h args) Γ.h) (endH F x s y) p.2 ++ (newFz p.2 (unReads p.2 Γ.h args) s.ids (endH F x s y) Γ.h ++ unReads p.2 Γ.h args)).filterMap fun i => ((backAt p.2 (unReads p.2 Γ.h args) s.ids (endH F x s y) Γ.h)[i]?).map fun o => (i, o), turned s.ids (fzAll (unReads p.2 Γ.h args) Γ.h) (endH F x s y) p.2, newFz p.2 (unReads p.2 Γ.h args) s.ids (endH F x s y) Γ.h ++ unReads p.2 Γ.h args⟩, ?_, ?_, ?_, fun Γ' hA R' K' => ?_⟩
        · show K (G.put _ o.dst _) = some r
          rw [key Γ hself] at hK
          exact hK
        · intro q hq
          obtain ⟨i, hi, h⟩ := List.mem_filterMap.1 hq
          obtain ⟨_, _, rfl⟩ := Option.map_eq_some_iff.1 h
          exact hi
        · intro i hi
          by_cases hlt : i < Γ.h.length
          · left
            have hl : i < (backAt p.2 (unReads p.2 Γ.h args) s.ids (endH F x s y) Γ.h).length := by rw [backAt_len]; exact hlt
            exact List.mem_map.2 ⟨(i, (backAt p.2 (unReads p.2 Γ.h args) s.ids (endH F x s y) Γ.h)[i]), List.mem_filterMap.2 ⟨i, hi, by rw [List.getElem?_eq_getElem hl]; rfl⟩, rfl⟩
          · exact .inr (by omega)
        · rw [hop Γ' hA K']
          have hdom1 := fun a ha => (a1 Γ' hA p hp a ha).1
          have hdom2 := fun a ha => (a1 Γ' hA p hp a ha).2
          have e1 : ∀ n, unHeap p.2 Γ'.h n = unHeap p.2 Γ.h n := fun n => unHeap_loc hdom1 hdom2
          have e2 : args.map (unAV p.2 Γ'.h) = args.map (unAV p.2 Γ.h) := List.map_congr_left fun v hv => unAV_loc (a2 Γ' hA v hv)
          have e3 : pickC E Γ' f args (E.cand (o.dst.getD 0)) = some (F, p.2) := by
            rw [← hF]
            refine pickC_loc (fun q hq n => unHeap_loc (fun a ha => (a1 Γ' hA q hq a ha).1) (fun a ha => (a1 Γ' hA q hq a ha).2)) fun q hq => List.map_congr_left fun v hv => unAV_loc (a2 Γ' hA v hv)
          have e4 : unReads p.2 Γ'.h args = unReads p.2 Γ.h args := unReads_loc hdom1
          unfold callx
          rw [e3]
          simp only
          rw [e1, e2, if_pos hen, hx]
          simp only [Option.bind_some]
          rw [hz]
          simp only [Option.bind_some]
          rw [halt, domOk_loc hA.len hdom1, if_pos hdo, e4, key Γ' hA, resAV_loc hdom1]
          rfl
      · cases hK
    · cases hK

theorem loc_call (hE : EnvTy P E) {c : Call} (ho : o.op = .call c)  (hK : opx E Γ o K = some r) : ∃ u, Loc E o Γ K r u := by
  obtain ⟨callee, args, argTypes⟩ := c
  simp only [opx, ho] at hK
  split at hK
  · rename_i x
    split at hK
    · rename_i f k y hx
      refine loc_callx (args := args.toList.map Γ.ev ++ (enc k y).map AV.c) ho ⟨x, rfl⟩ ?_ hK ?_
      · intro v hv i hi
        rcases List.mem_append.1 hv with hv | hv
        · obtain ⟨z, hz, rfl⟩ := List.mem_map.1 hv
          exact mention_mem (call_operand ho (by simpa using hz)) i hi
        · obtain ⟨z, hz, rfl⟩ := List.mem_map.1 hv
          exact absurd (cellIds_mem hz i hi) (loc_store.enc_noids k y i)
      · intro Γ' hA R' K'
        have e1 := hA.ev x (by simp only [ho, Op.operands, Call.operands]; simp)
        have e2 : args.toList.map Γ'.ev = args.toList.map Γ.ev := List.map_congr_left fun z hz => hA.ev z (call_operand ho (by simpa using hz))
        simp only [opx, ho, e1, e2, hx]
    · cases hK
  · split at hK
    · rename_i x t e1 e2
      split at hK
      · rename_i hty
        obtain ⟨n, h1, h2⟩ := lenx_det hK
        have hx : x ∈ args := by rw [← Array.mem_toList_iff, e1]; simp
        refine loc_val h1 fun Γ' hA R' K' => ?_
        have e3 := hA.ev x (call_operand ho hx)
        simp only [opx, ho, e1, e2, e3]
        rw [if_pos hty, lenx_loc (H := Γ.h) (hA.men (by rw [ho]; rfl) (call_operand ho hx)), h2]
      · cases hK
    · cases hK
  · split at hK
    · rename_i s x t t' d e1 e2 hd
      split at hK
      · rename_i hty
        split at hK
        · rename_i i cs cx hi es ex
          split at hK
          · rename_i e hde
            split at hK
            · rename_i ie hie
              split at hK
              · rename_i hsz
                have hs : s ∈ args := by rw [← Array.mem_toList_iff, e1]; simp
                have hx : x ∈ args := by rw [← Array.mem_toList_iff, e1]; simp
                refine loc_append ho (by rw [ho]; rfl) hs hx hd es ex hK fun Γ' hA R' K' => ?_
                have e3 := hA.ev s (call_operand ho hs)
                have e4 := hA.ev x (call_operand ho hx)
                simp only [opx, ho, e1, e2, hd, e3, e4, es, ex, hi, hde, hie]
                rw [if_pos hty, if_pos hsz]
              · cases hK
            · cases hK
          · cases hK
        · cases hK
      · cases hK
    · cases hK
  · split at hK
    · rename_i x y e1
      split at hK
      · rename_i k p k' q hx hy
        split at hK
        · rename_i w hw
          have hxm : x ∈ args := by rw [← Array.mem_toList_iff, e1]; simp
          have hym : y ∈ args := by rw [← Array.mem_toList_iff, e1]; simp
          refine loc_val hK fun Γ' hA R' K' => ?_
          have e3 := hA.ev x (call_operand ho hxm)
          have e4 := hA.ev y (call_operand ho hym)
          simp only [opx, ho, e1, e3, e4, hx, hy, hw]
        · cases hK
      · cases hK
    · cases hK
  · cases hK

theorem loc_op (hE : EnvTy P E) (hK : opx E Γ o K = some r) : ∃ u, Loc E o Γ K r u := by
  cases ho : o.op with
  | move x => exact loc_move (.inl ho) hK
  | assign x => exact loc_move (.inr ho) hK
  | pick c x y => exact loc_pick ho hK
  | binOp op t x y ty => exact loc_binOp ho hK
  | unOp op t x => exact loc_unOp ho hK
  | convert s d x => exact loc_convert ho hK
  | nilCheck x => exact loc_nilCheck ho hK
  | box t x => exact loc_box ho hK
  | alloc t => exact loc_alloc ho hK
  | load t x => exact loc_load ho hK
  | store t x y => exact loc_store ho hK
  | fieldAddr s x f => exact loc_fieldAddr ho hK
  | indexAddr t x ix => exact loc_indexAddr ho hK
  | index t x ix => exact loc_index ho hK
  | slice t x lo hi mx => exact loc_slice ho hK
  | build t parts => exact loc_build ho hK
  | buildSlice t n parts => exact loc_buildSlice hE ho hK
  | makeSlice t n c => exact loc_makeSlice hE ho hK
  | extract x j => exact loc_extract ho hK
  | makeFunc fn first cs => exact loc_makeFunc ho hK
  | call c => exact loc_call hE ho hK
  | _ => simp only [opx, ho] at hK; cases hK

/-! ### Guarded operations -/
structure AgreeS (E : Env) (all : Array Oper) (o : Oper) (Γ Γ' : G) : Prop where
  a : Agree E o Γ Γ'
  g : ∀ j want d, o.guard = some (j, want) → (all[j]?).bind (·.dst) = some d → Γ'.t[d]? = Γ.t[d]?

theorem put_same' {Γ : G} {d : Nat} {v : AV} (h : Γ.t[d]? = some v) : Γ.put (some d) v = Γ := by
  obtain ⟨t, hh, lg, lf⟩ := Γ
  simp only [G.put, G.mk.injEq, and_true]
  apply List.ext_getElem?
  intro i
  rw [List.getElem?_set]
  split
  · rename_i e
    subst e
    simp only at h
    rw [h, if_pos (List.getElem?_eq_some_iff.1 h).1]
  · rfl

theorem stx_loc (hE : EnvTy P E) {all : Array Oper} (hK : stx E all o Γ K = some r) : ∃ u : Eff, K (u.app o.dst Γ) = some r ∧ ((∀ p ∈ u.ob, p.1 ∈ u.lg ++ u.lf) ∧ ∀ i ∈ u.lg ++ u.lf, i ∈ u.ob.map (·.1) ∨ Γ.h.length ≤ i) ∧ ∀ Γ', AgreeS E all o Γ Γ' → ∀ {R' : Type} (K' : G → Option R'), stx E all o Γ' K' = K' (u.app o.dst Γ') := by
  unfold stx at hK
  split at hK
  · rename_i hg
    obtain ⟨u, h1, h2, h2', h3⟩ := loc_op hE hK
    exact ⟨u, h1, ⟨h2, h2'⟩, fun Γ' hA R' K' => by simp only [stx, hg]; exact h3 Γ' hA.a K'⟩
  · rename_i j want hg
    split at hK
    · rename_i d hd
      split at hK
      · rename_i b hb
        have hps := put_same' hb
        have run : opx E Γ o K = some r → (b == want) = true → ∃ u : Eff, K (u.app o.dst Γ) = some r ∧ ((∀ p ∈ u.ob, p.1 ∈ u.lg ++ u.lf) ∧ ∀ i ∈ u.lg ++ u.lf, i ∈ u.ob.map (·.1) ∨ Γ.h.length ≤ i) ∧ ∀ Γ', AgreeS E all o Γ Γ' → ∀ {R' : Type} (K' : G → Option R'), stx E all o Γ' K' = K' (u.app o.dst Γ') := by
          intro hK hw
          obtain ⟨u, h1, h2, h2', h3⟩ := loc_op hE hK
          refine ⟨u, h1, ⟨h2, h2'⟩, fun Γ' hA R' K' => ?_⟩
          have e1 : Γ'.t[d]? = some (.c (.bool b)) := (hA.g j want d hg hd).trans hb
          have e2 := put_same' e1
          simp only [stx, hg, hd, e1]
          cases b <;> cases want <;> first | (cases hw; done) | (simp only [cond_true, cond_false, e2]; exact h3 Γ' hA.a K')
        have skip : K (Γ.put o.dst (.c .undef)) = some r → (b == want) = false → ∃ u : Eff, K (u.app o.dst Γ) = some r ∧ ((∀ p ∈ u.ob, p.1 ∈ u.lg ++ u.lf) ∧ ∀ i ∈ u.lg ++ u.lf, i ∈ u.ob.map (·.1) ∨ Γ.h.length ≤ i) ∧ ∀ Γ', AgreeS E all o Γ Γ' → ∀ {R' : Type} (K' : G → Option R'), stx E all o Γ' K' = K' (u.app o.dst Γ') := by
          intro hK hw
          refine ⟨⟨.c .undef, [], [], []⟩, hK, ⟨by simp, by simp⟩, fun Γ' hA R' K' => ?_⟩
          have e1 : Γ'.t[d]? = some (.c (.bool b)) := (hA.g j want d hg hd).trans hb
          have e2 := put_same' e1
          simp only [stx, hg, hd, e1]
          cases b <;> cases want <;> first | (cases hw; done) | (simp only [cond_true, cond_false, e2]; rfl)
        cases b <;> cases want <;> simp only [cond_true, cond_false, hps] at hK
        · exact run hK rfl
        · exact skip hK rfl
        · exact skip hK rfl
        · exact run hK rfl
      · rename_i hb
        refine ⟨⟨.c .undef, [], [], []⟩, hK, ⟨by simp, by simp⟩, fun Γ' hA R' K' => ?_⟩
        have e1 : Γ'.t[d]? = some (.c .undef) := (hA.g j want d hg hd).trans hb
        simp only [stx, hg, hd, e1]
        rfl
      · cases hK
    · cases hK
end
end Go.Vm
