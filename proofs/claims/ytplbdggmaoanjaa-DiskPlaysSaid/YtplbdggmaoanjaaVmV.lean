/- A small evaluator for the translated code, and the proof that what it computes the code does. -/
import Derived.Test.YtplbdggmaoanjaaVmU
/-! Soundness, part 18: calls. -/
namespace Go.Vm
open Go.RowKit

/-- What a call gives back: one value, or a tuple. -/
def ResR (R : AV → Value → Prop) : List AV → Value → Prop
  | [av], v => R av v
  | l, v => ∃ us, v = .tuple us ∧ All2 R l us.toList

/-- What a function is known to do. -/
structure FnOk (P : Program) (f : FuncId) (F : FnI) : Prop where
  si : F.si.ok { t := [], h := List.replicate F.n .no, lg := [], lf := [] } = true
  body : ∃ fn, P.funcs[f]? = some fn ∧ fn.body.isSome = true ∧ fn.name ≠ "runtime.NumGoroutine"
  call : ∀ x z, F.F x = some z → ∀ (C : Ctx) (w : World) (g : Gh) (vals : Array Value), Inv C w g (startH F x) → All2 (AVR w g (startH F x)) (F.si.outs x) vals.toList →
    Calls P f vals w fun e w' => ∃ v, e = .returned v ∧ ∃ s y, AltIs F.so z s y ∧ ∃ g', Inv C w' g' (endH F x s y) ∧ Ext w g (startH F x) w' g' (endH F x s y) ∧ ResR (AVR w' g' (endH F x s y)) (s.outs y) v ∧
      ∀ id, id ∉ s.ids → Live g (startH F x) id → w'.heap[g.bl id]? = w.heap[g.bl id]?

theorem altK_some {R : Type} {K : (s : Shape) → s.kd.T → Option R} {r : R} : ∀ {l : List Shape} {z : AltT l}, altK l z K = some r → ∀ {s : Shape} {y : s.kd.T}, AltIs l z s y → K s y = some r
  | [s], z, h, s', y, ⟨e, e2⟩ => by
    subst e
    subst e2
    exact h
  | s :: t :: l, .inl z, h, s', y, h2 => by
    obtain ⟨e, e2⟩ := h2
    subst e
    subst e2
    exact h
  | s :: t :: l, .inr z, h, s', y, h2 => altK_some (l := t :: l) h h2

theorem fOf_aOf : ∀ {dom : List (Nat × Nat)} {a f : Nat}, (dom.map (·.1)).Nodup → fOf dom a = some f → aOf dom f = some a
  | (f0, a0) :: r, a, f, hn, h => by
    simp only [List.map_cons, List.nodup_cons] at hn
    simp only [fOf] at h
    simp only [aOf]
    split at h
    · rename_i e
      injection h with h
      subst e h
      rw [if_pos rfl]
    · have h1 := fOf_aOf hn.2 h
      have : f ∈ r.map (·.1) := by
        have : ∀ {r : List (Nat × Nat)} {a f : Nat}, aOf r f = some a → f ∈ r.map (·.1) := by
          intro r
          induction r with
          | nil => intro a f h; cases h
          | cons p r ih =>
            intro a f h
            simp only [aOf] at h
            split at h
            · rename_i e; simp [e]
            · have := ih h
              simp only [List.map_cons, List.mem_cons]
              exact .inr this
        exact this h1
      rw [if_neg (fun e => hn.1 (by rw [e]; exact this))]
      exact h1
theorem aOf_fOf : ∀ {dom : List (Nat × Nat)} {a f : Nat}, (dom.map (·.2)).Nodup → aOf dom f = some a → fOf dom a = some f
  | (f0, a0) :: r, a, f, hn, h => by
    simp only [List.map_cons, List.nodup_cons] at hn
    simp only [aOf] at h
    simp only [fOf]
    split at h
    · rename_i e
      injection h with h
      subst e h
      rw [if_pos rfl]
    · have h1 := aOf_fOf hn.2 h
      have : a ∈ r.map (·.2) := by
        have : ∀ {r : List (Nat × Nat)} {a f : Nat}, aOf r f = some a → a ∈ r.map (·.2) := by
          intro r
          induction r with
          | nil => intro a f h; cases h
          | cons p r ih =>
            intro a f h
            simp only [aOf] at h
            split at h
            · injection h with h; simp [h]
            · have := ih h
              simp only [List.map_cons, List.mem_cons]
              exact .inr this
        exact this h
      rw [if_neg (fun e => hn.1 (by rw [e]; exact this))]
      exact h1
theorem aOf_mem : ∀ {dom : List (Nat × Nat)} {a f : Nat}, aOf dom f = some a → (f, a) ∈ dom
  | (f0, a0) :: r, a, f, h => by
    simp only [aOf] at h
    split at h
    · rename_i e
      injection h with h
      subst e h
      exact List.mem_cons_self
    · exact List.mem_cons_of_mem _ (aOf_mem h)
theorem aOf_in : ∀ {dom : List (Nat × Nat)} {a f : Nat}, (dom.map (·.1)).Nodup → (f, a) ∈ dom → aOf dom f = some a
  | (f0, a0) :: r, a, f, hn, h => by
    simp only [List.map_cons, List.nodup_cons] at hn
    simp only [aOf]
    rcases List.mem_cons.1 h with h | h
    · injection h with h1 h2
      subst h1 h2
      rw [if_pos rfl]
    · rw [if_neg (fun e => hn.1 (by rw [e]; exact List.mem_map_of_mem (f := (·.1)) h))]
      exact aOf_in hn.2 h
theorem fOf_none : ∀ {dom : List (Nat × Nat)} {a : Nat}, fOf dom a = none ↔ a ∉ dom.map (·.2)
  | [], a => by simp [fOf]
  | (f0, a0) :: r, a => by
    simp only [fOf, List.map_cons, List.mem_cons, not_or]
    by_cases e : a0 = a
    · simp [e]
    · rw [if_neg e, fOf_none]
      exact ⟨fun h => ⟨fun e' => e e'.symm, h⟩, fun h => h.2⟩

/-- A call's own view: what is there is what may be turned. -/
theorem Inv.reset {C : Ctx} {w : World} {g : Gh} {H : List Obj} (h : Inv C w g H) : Inv { w0 := w, S0 := g.St, own := fun b => ∃ f, Live g H f ∧ g.bl f = b } w g H :=
  ⟨⟨rfl, rfl, rfl, Nat.le_refl _, fun _ _ _ => rfl⟩, fun _ _ h => h, fun _ _ h => .inl h, h.lt, h.obj, fun id hl => ⟨.inr ⟨id, hl, rfl⟩, (h.new id hl).2⟩, h.apart, h.box, h.row⟩
/-- No objects at all. -/
theorem Inv.none {C : Ctx} {w : World} {g : Gh} {H : List Obj} (h : Inv C w g H) (n : Nat) : Inv C w g (List.replicate n .no) := by
  have hno : ∀ (id : Nat) (ob : Obj), (List.replicate n Obj.no)[id]? = some ob → ob = Obj.no := by
    intro id ob hob
    rw [List.getElem?_replicate] at hob
    split at hob
    · injection hob with hob; exact hob.symm
    · cases hob
  have hl : ∀ id, ¬ Live g (List.replicate n Obj.no) id := by
    rintro id (⟨_, _, _, h1⟩ | ⟨_, _, _, _, _, h1, _⟩) <;> (have := hno _ _ h1; cases this)
  refine ⟨h.below, h.sub, h.old, h.lt, fun id ob hob => ?_, fun id hh => absurd hh (hl id), fun i j hi => absurd hi (hl i), fun id t cs fz h1 => ?_, fun id e k l ver fz h1 => ?_⟩
  · rw [hno _ _ hob]; trivial
  · have := hno _ _ h1; cases this
  · have := hno _ _ h1; cases this

section
variable {C : Ctx} {w w' : World} {g g' : Gh} {H : List Obj} {dom : List (Nat × Nat)}

/-- The caller's objects, as the callee counts them. -/
def Gh.un (g : Gh) (dom : List (Nat × Nat)) : Gh :=
  { St := g.St, bl := fun f => match aOf dom f with | some a => g.bl a | none => 0, rv := fun f => match aOf dom f with | some a => g.rv a | none => nilSlice }

theorem unHeap_get {n f : Nat} {o : Obj} (h : (unHeap dom H n)[f]? = some o) (hne : o ≠ .no) : ∃ a o', aOf dom f = some a ∧ H[a]? = some o' ∧ o = unObj dom H o' := by
  unfold unHeap at h
  rw [List.getElem?_map] at h
  cases hf : (List.range n)[f]? with
  | none => rw [hf] at h; cases h
  | some f' =>
    have : f' = f := by
      rw [List.getElem?_range (by have := (List.getElem?_eq_some_iff.1 hf).1; simpa using this)] at hf
      injection hf with hf; exact hf.symm
    subst this
    rw [hf] at h
    simp only [Option.map_some, Option.some.injEq] at h
    split at h
    · rename_i a ha
      split at h
      · rename_i o' ho
        exact ⟨a, o', ha, ho, h.symm⟩
      · exact absurd h.symm hne
    · exact absurd h.symm hne
theorem unHeap_in {n f a : Nat} {o : Obj} (ha : aOf dom f = some a) (ho : H[a]? = some o) (hf : f < n) : (unHeap dom H n)[f]? = some (unObj dom H o) := by
  unfold unHeap
  rw [List.getElem?_map, List.getElem?_range hf]
  simp [ha, ho]
theorem unHeap_len (n : Nat) : (unHeap dom H n).length = n := by simp [unHeap]

theorem unIds_mem {c : Cell} {cs : List Cell} (hc : c ∈ cs) : ∀ i ∈ unIds dom [c], i ∈ unIds dom cs := by
  induction cs with
  | nil => cases hc
  | cons d r ih =>
    intro i hi
    have key : unIds dom (d :: r) = unIds dom [d] ++ unIds dom r := by cases d <;> simp [unIds]
    rw [key]
    rcases List.mem_cons.1 hc with rfl | hc
    · exact List.mem_append_left _ hi
    · exact List.mem_append_right _ (ih hc i hi)

theorem unCell_ok (hobj : ∀ id ob, H[id]? = some ob → ObjOk w g H id ob) (hd1 : (dom.map (·.1)).Nodup) {n : Nat} (hdn : ∀ p ∈ dom, p.1 < n) {rds : List Nat} (hfull : Full g H rds) {c : Cell} {v : Value} (hv : VR w g H c v) (hr : ∀ i ∈ unIds dom [c], i ∈ rds) :
    VR w (g.un dom) (unHeap dom H n) (unCell dom H c) v := by
  cases c with
  | own id ver =>
    obtain ⟨e, k, l, ver', fz, h1, h2, h3⟩ := hv
    simp only [unCell, h1]
    split
    · rename_i hver
      split
      · rename_i f hf
        have ha := fOf_aOf hd1 hf
        refine ⟨e, k, l, 0, fz, unHeap_in ha h1 (hdn _ (aOf_mem ha)), Nat.le_refl _, fun _ => ?_⟩
        simp only [Gh.un, ha]
        exact h3 hver
      · rename_i hf
        show RdV w g.St (.slice k) [v] l
        rw [h3 hver]
        exact row_reads (hobj _ _ h1) (fun hn o ho => hfull id (hr id (by simp [unIds, hf])) e k l ver' fz h1 hn o ho)
    · trivial
  | ptr id off =>
    obtain ⟨⟨t, cs, fz, h1⟩, h2⟩ := hv
    simp only [unCell]
    split
    · rename_i f hf
      have ha := fOf_aOf hd1 hf
      refine ⟨⟨t, _, fz, unHeap_in ha h1 (hdn _ (aOf_mem ha))⟩, ?_⟩
      simp only [Gh.un, ha]
      exact h2
    · trivial
  | eptr id ver i off =>
    obtain ⟨e, k, l, ver', fz, h1, h2, h3⟩ := hv
    simp only [unCell, h1]
    split
    · rename_i hver
      split
      · rename_i f hf
        have ha := fOf_aOf hd1 hf
        refine ⟨e, k, l, 0, fz, unHeap_in ha h1 (hdn _ (aOf_mem ha)), Nat.le_refl _, fun _ => ?_⟩
        simp only [Gh.un, ha]
        exact h3 hver
      · trivial
    · trivial
  | junk => trivial
  | undef => exact hv
  | int _ _ => exact hv
  | bool _ => exact hv
  | str _ => exact hv
  | sl k l => exact hv
  | rptr k x off => exact hv
  | clo f k x => exact hv
  | nils => exact hv
  | nilp => exact hv

theorem unAV_ok (hobj : ∀ id ob, H[id]? = some ob → ObjOk w g H id ob) (hd1 : (dom.map (·.1)).Nodup) {n : Nat} (hdn : ∀ p ∈ dom, p.1 < n) {rds : List Nat} (hfull : Full g H rds) {av : AV} {v : Value} (hv : AVR w g H av v) (hr : ∀ i ∈ unIds dom (avCellsAll av), i ∈ rds) :
    AVR w (g.un dom) (unHeap dom H n) (unAV dom H av) v := by
  cases av with
  | c x => exact unCell_ok hobj hd1 hdn hfull hv hr
  | agg l =>
    obtain ⟨us, e, h1⟩ := hv
    refine ⟨us, e, ?_⟩
    have : ∀ (l : List Cell) (us : List Value), All2 (VC w g H) l us → (∀ i ∈ unIds dom l, i ∈ rds) → All2 (VC w (g.un dom) (unHeap dom H n)) (l.map (unCell dom H)) us := by
      intro l us h
      induction h with
      | nil => intro _; exact .nil
      | cons h0 _ ih =>
        rename_i c v l' us' _
        intro hr
        have key : unIds dom (c :: l') = unIds dom [c] ++ unIds dom l' := by cases c <;> simp [unIds]
        rw [key] at hr
        exact .cons ⟨unCell_ok hobj hd1 hdn hfull h0.1 (fun i hi => hr i (List.mem_append_left _ hi)), h0.2⟩ (ih fun i hi => hr i (List.mem_append_right _ hi))
    exact this _ _ h1 hr
  | tup l => trivial
end
end Go.Vm
