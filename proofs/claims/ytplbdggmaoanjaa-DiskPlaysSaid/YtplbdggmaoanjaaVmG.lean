/- A small evaluator for the translated code, and the proof that what it computes the code does. -/
import Derived.Test.YtplbdggmaoanjaaVmF
/-! Soundness, part 5: types; one operation. -/
namespace Go.Vm
open Go.RowKit

/-! ### Types -/
def isAggD : TypeDesc → Bool
  | .struct _ | .array _ _ => true
  | _ => false
def zeroEq : List Value → List Cell → Bool
  | [], [] => true
  | .int k n :: vs, .int k' n' :: cs => k == k' && n == n' && zeroEq vs cs
  | .bool b :: vs, .bool b' :: cs => b == b' && zeroEq vs cs
  | .string s :: vs, .str s' :: cs => s.toList == s'.toList && s.size == 0 && s'.size == 0 && zeroEq vs cs
  | .slice none 0 0 :: vs, .nils :: cs => zeroEq vs cs
  | .pointer none :: vs, .nilp :: cs => zeroEq vs cs
  | _, _ => false
def fieldsOk (P : Program) : List Field → List (Nat × Nat) → Bool
  | [], [] => true
  | f :: fs, (n, m) :: ns => f.offset == n && (match P.info? f.type with | some i => i.size != 0 && i.size == m | none => false) && fieldsOk P fs ns
  | _, _ => false
def descOk (P : Program) : TypeDesc → TD → Bool
  | .slice e, .slice e' => e == e'
  | .struct fs, .struct offs => fieldsOk P fs.toList offs
  | .int k, .int k' => k == k'
  | .bool, .bool => true
  | .string, .str => true
  | .array n e, .array n' e' => n == n' && e == e'
  | .pointer e, .ptr e' => e == e'
  | _, .other => true
  | _, _ => false
def tyOk (P : Program) (t : TypeId) (i : TI) : Bool :=
  match P.info? t, P.underlying t with
  | some ti, some d => ti.size == i.size && ti.bytes == i.bytes && isAggD d == i.agg && descOk P d i.d &&
      (match ti.zero with | some z => zeroEq z.cells.toList i.zero && z.cells.size == i.size | none => false)
  | _, _ => false

structure TyIs (P : Program) (t : TypeId) (i : TI) : Prop where
  ex : ∃ ti d z, P.info? t = some ti ∧ P.underlying t = some d ∧ ti.size = i.size ∧ ti.bytes = i.bytes ∧ isAggD d = i.agg ∧ descOk P d i.d = true ∧ ti.zero = some z ∧ zeroEq z.cells.toList i.zero = true ∧ z.cells.size = i.size

theorem tyOk_is {P : Program} {t : TypeId} {i : TI} (h : tyOk P t i = true) : TyIs P t i := by
  unfold tyOk at h
  split at h
  · rename_i ti d h1 h2
    simp only [Bool.and_eq_true, beq_iff_eq] at h
    obtain ⟨⟨⟨⟨h3, h4⟩, h5⟩, h6⟩, h7⟩ := h
    split at h7
    · rename_i z hz
      simp only [Bool.and_eq_true, beq_iff_eq] at h7
      exact ⟨ti, d, z, h1, h2, h3, h4, h5, h6, hz, h7.1, h7.2⟩
    · cases h7
  · cases h

theorem TyIs.slice {P : Program} {t : TypeId} {i : TI} {e : TypeId} (h : TyIs P t i) (hd : i.d = .slice e) : P.underlying t = some (.slice e) := by
  obtain ⟨ti, d, z, h1, h2, _, _, _, h6, _⟩ := h.ex
  rw [hd] at h6
  cases d <;> simp only [descOk, Bool.false_eq_true, beq_iff_eq] at h6
  rw [h2, h6]
theorem TyIs.int {P : Program} {t : TypeId} {i : TI} {k : IntKind} (h : TyIs P t i) (hd : i.d = .int k) : P.underlying t = some (.int k) := by
  obtain ⟨ti, d, z, h1, h2, _, _, _, h6, _⟩ := h.ex
  rw [hd] at h6
  cases d <;> simp only [descOk, Bool.false_eq_true, beq_iff_eq] at h6
  rw [h2, h6]
theorem TyIs.bool {P : Program} {t : TypeId} {i : TI} (h : TyIs P t i) (hd : i.d = .bool) : P.underlying t = some .bool := by
  obtain ⟨ti, d, z, h1, h2, _, _, _, h6, _⟩ := h.ex
  rw [hd] at h6
  cases d <;> simp only [descOk, Bool.false_eq_true] at h6
  exact h2
theorem TyIs.str {P : Program} {t : TypeId} {i : TI} (h : TyIs P t i) (hd : i.d = .str) : P.underlying t = some .string := by
  obtain ⟨ti, d, z, h1, h2, _, _, _, h6, _⟩ := h.ex
  rw [hd] at h6
  cases d <;> simp only [descOk, Bool.false_eq_true] at h6
  exact h2
theorem TyIs.ptr {P : Program} {t : TypeId} {i : TI} {e : TypeId} (h : TyIs P t i) (hd : i.d = .ptr e) : P.underlying t = some (.pointer e) := by
  obtain ⟨ti, d, z, h1, h2, _, _, _, h6, _⟩ := h.ex
  rw [hd] at h6
  cases d <;> simp only [descOk, Bool.false_eq_true, beq_iff_eq] at h6
  rw [h2, h6]
theorem fieldsOk_get {P : Program} : ∀ (fs : List Field) (ns : List (Nat × Nat)), fieldsOk P fs ns = true → ∀ (f n m : Nat), ns[f]? = some (n, m) → ∃ x, fs[f]? = some x ∧ x.offset = n ∧ ∃ i, P.info? x.type = some i ∧ i.size ≠ 0 ∧ i.size = m
  | [], [], _, f, n, m, h => by simp at h
  | [], _ :: _, h, _, _, _, _ => by simp [fieldsOk] at h
  | _ :: _, [], h, _, _, _, _ => by simp [fieldsOk] at h
  | x :: fs, (p, q) :: ns, h, f, n, m, hn => by
    simp only [fieldsOk, Bool.and_eq_true, beq_iff_eq] at h
    cases f with
    | zero =>
      simp only [List.getElem?_cons_zero, Option.some.injEq, Prod.mk.injEq] at hn
      refine ⟨x, rfl, by rw [h.1.1, hn.1], ?_⟩
      have h2 := h.1.2
      split at h2
      · rename_i i hi
        simp only [Bool.and_eq_true, bne_iff_ne, ne_eq, beq_iff_eq] at h2
        exact ⟨i, hi, h2.1, by rw [h2.2, hn.2]⟩
      · cases h2
    | succ f => exact fieldsOk_get fs ns h.2 f n m (by simpa using hn)
theorem fieldsOk_places {P : Program} : ∀ (fs : List Field) (ns : List (Nat × Nat)), fieldsOk P fs ns = true → fs.mapM (fun f => (P.info? f.type).map fun i => (f.offset, i.size)) = some ns
  | [], [], _ => rfl
  | [], _ :: _, h => by simp [fieldsOk] at h
  | _ :: _, [], h => by simp [fieldsOk] at h
  | x :: fs, (p, q) :: ns, h => by
    simp only [fieldsOk, Bool.and_eq_true, beq_iff_eq] at h
    have h2 := h.1.2
    split at h2
    · rename_i i hi
      simp only [Bool.and_eq_true, bne_iff_ne, ne_eq, beq_iff_eq] at h2
      rw [List.mapM_cons, fieldsOk_places fs ns h.2, hi]
      simp [h.1.1, h2.2]
    · cases h2
theorem TyIs.struct {P : Program} {t : TypeId} {i : TI} {offs : List (Nat × Nat)} (h : TyIs P t i) (hd : i.d = .struct offs) : ∃ fs, P.underlying t = some (.struct fs) ∧ fieldsOk P fs.toList offs = true := by
  obtain ⟨ti, d, z, h1, h2, _, _, _, h6, _⟩ := h.ex
  rw [hd] at h6
  cases d <;> simp only [descOk, Bool.false_eq_true] at h6
  exact ⟨_, h2, h6⟩
theorem TyIs.field {P : Program} {t : TypeId} {i : TI} {offs : List (Nat × Nat)} {f n m : Nat} (h : TyIs P t i) (hd : i.d = .struct offs) (hf : offs[f]? = some (n, m)) :
    ∃ fs x ti, P.underlying t = some (.struct fs) ∧ fs[f]? = some x ∧ x.offset = n ∧ P.info? x.type = some ti ∧ ti.size ≠ 0 := by
  obtain ⟨fs, h2, h6⟩ := h.struct hd
  obtain ⟨x, h7, h8, i', h9, h10, _⟩ := fieldsOk_get _ _ h6 f n m hf
  exact ⟨_, x, i', h2, by simpa using h7, h8, h9, h10⟩

theorem zeroEq_ok (w : World) (g : Gh) (H : List Obj) : ∀ (vs : List Value) (cs : List Cell), zeroEq vs cs = true → All2 (VC w g H) cs vs
  | [], [], _ => .nil
  | [], _ :: _, h => by simp [zeroEq] at h
  | v :: vs, [], h => by unfold zeroEq at h; split at h <;> simp_all
  | v :: vs, c :: cs, h => by
    unfold zeroEq at h
    split at h
    · simp_all
    · rename_i e1 e2
      cases e1; cases e2
      simp only [Bool.and_eq_true, beq_iff_eq] at h
      obtain ⟨⟨rfl, rfl⟩, h⟩ := h
      exact .cons ⟨rfl, rfl⟩ (zeroEq_ok w g H _ _ h)
    · rename_i e1 e2
      cases e1; cases e2
      simp only [Bool.and_eq_true, beq_iff_eq] at h
      obtain ⟨rfl, h⟩ := h
      exact .cons ⟨rfl, rfl⟩ (zeroEq_ok w g H _ _ h)
    · rename_i s _ s' _ e1 e2
      cases e1; cases e2
      simp only [Bool.and_eq_true, beq_iff_eq] at h
      refine .cons ⟨?_, rfl⟩ (zeroEq_ok w g H _ _ h.2)
      have : s = s' := by
        have h1 := h.1.1.2
        have h2 := h.1.2
        cases s with | mk a => cases s' with | mk b =>
          have ha : a = #[] := Array.eq_empty_of_size_eq_zero h1
          have hb : b = #[] := Array.eq_empty_of_size_eq_zero h2
          rw [ha, hb]
      rw [this]
      rfl
    · rename_i e1 e2
      cases e1; cases e2
      exact .cons ⟨rfl, rfl⟩ (zeroEq_ok w g H _ _ h)
    · rename_i e1 e2
      cases e1; cases e2
      exact .cons ⟨rfl, rfl⟩ (zeroEq_ok w g H _ _ h)
    · cases h

/-! ### What a part of the way leaves as it was -/
structure Tr (D : List Nat) (g : Gh) (Γ : G) (w : World) (g' : Gh) (Γ' : G) (w' : World) : Prop where
  ext : Ext w g Γ.h w' g' Γ'.h
  t : ∀ s : Nat, s ∉ D → Γ'.t[s]? = Γ.t[s]?
  tl : Γ'.t.length = Γ.t.length
  h : ∀ id : Nat, id ∉ Γ'.lg → Γ'.h[id]? = Γ.h[id]? ∨ (id ∈ Γ'.lf ∧ Γ'.h[id]? = (Γ.h[id]?).map Obj.frz)
  lg : ∀ id ∈ Γ.lg, id ∈ Γ'.lg
  lf : ∀ id ∈ Γ.lf, id ∈ Γ'.lf
  kept : ∀ id : Nat, id ∉ Γ'.lg → Live g Γ.h id → w'.heap[g.bl id]? = w.heap[g.bl id]?

section
variable {D D' : List Nat} {g g1 g2 : Gh} {Γ Γ1 Γ2 : G} {w w1 w2 : World}
theorem Tr.refl (D : List Nat) (g : Gh) (Γ : G) (w : World) : Tr D g Γ w g Γ w := ⟨Ext.refl _ _ _, fun _ _ => rfl, rfl, fun _ _ => .inl rfl, fun _ h => h, fun _ h => h, fun _ _ _ => rfl⟩
theorem Tr.mono (h : Tr D g Γ w g1 Γ1 w1) (hs : ∀ x ∈ D, x ∈ D') : Tr D' g Γ w g1 Γ1 w1 := ⟨h.ext, fun s hn => h.t s (fun hh => hn (hs s hh)), h.tl, h.h, h.lg, h.lf, h.kept⟩
/-- What was not turned is live still, in its place. -/
theorem Tr.live (h : Tr D g Γ w g1 Γ1 w1) {id : Nat} (hn : id ∉ Γ1.lg) (hl : Live g Γ.h id) : Live g1 Γ1.h id ∧ g1.bl id = g.bl id := by
  rcases hl with ⟨t, cs, fz, h1⟩ | ⟨e, k, l, ver, fz, h1, h2⟩
  · obtain ⟨o', h3, ⟨cs', fz', rfl⟩, h4⟩ := h.ext.later _ _ h1
    exact ⟨.inl ⟨_, _, _, h3⟩, h4⟩
  · obtain ⟨o', h3, e', k', l', ver', fz', rfl, h4⟩ := h.ext.later _ _ h1
    have hv : ver' = ver := by
      rcases h.h id hn with a | ⟨_, a⟩ <;> (rw [h3, h1] at a; simp only [Option.map_some, Obj.frz, Option.some.injEq, Obj.row.injEq] at a; exact a.2.2.2.1)
    rcases h4 with ⟨_, _, _, h5, h6⟩ | h4
    · exact ⟨.inr ⟨_, _, _, _, _, h3, by rw [h5]; exact h2⟩, h6⟩
    · omega
theorem Tr.trans (h : Tr D g Γ w g1 Γ1 w1) (k : Tr D g1 Γ1 w1 g2 Γ2 w2) : Tr D g Γ w g2 Γ2 w2 := by
  refine ⟨h.ext.trans k.ext, fun s hn => (k.t s hn).trans (h.t s hn), k.tl.trans h.tl, fun id hn => ?_, fun id hi => k.lg id (h.lg id hi), fun id hi => k.lf id (h.lf id hi), fun id hn hl => ?_⟩
  rotate_left
  · obtain ⟨h1, h2⟩ := h.live (fun hh => hn (k.lg id hh)) hl
    have := k.kept id hn h1
    rw [h2] at this
    exact this.trans (h.kept id (fun hh => hn (k.lg id hh)) hl)
  have hn1 : id ∉ Γ1.lg := fun hh => hn (k.lg id hh)
  rcases h.h id hn1 with a | ⟨a1, a2⟩
  · rcases k.h id hn with b | ⟨b1, b2⟩
    · exact .inl (b.trans a)
    · exact .inr ⟨b1, by rw [b2, a]⟩
  · rcases k.h id hn with b | ⟨b1, b2⟩
    · exact .inr ⟨k.lf id a1, by rw [b, a2]⟩
    · refine .inr ⟨b1, ?_⟩
      rw [b2, a2]
      cases Γ.h[id]? <;> simp [Obj.frz_frz]
theorem Tr.put (h : Tr D g Γ w g1 Γ1 w1) (d : Option Tmp) (v : AV) : Tr (d.toList ++ D) g Γ w g1 (Γ1.put d v) w1 := by
  cases d with
  | none => exact h
  | some d =>
    refine ⟨h.ext, fun s hn => ?_, by show (Γ1.t.set d v).length = _; rw [List.length_set]; exact h.tl, h.h, h.lg, h.lf, h.kept⟩
    show (Γ1.t.set d v)[s]? = _
    rw [List.getElem?_set, if_neg (fun e => hn (by simp [e]))]
    exact h.t s (fun hh => hn (by simp [hh]))
theorem Tr.obj {id : Nat} {o : Obj} (hx : Ext w g Γ.h w1 g1 (Γ.h.set id o)) (hk : ∀ j, j ≠ id → Live g Γ.h j → w1.heap[g.bl j]? = w.heap[g.bl j]?) : Tr D g Γ w g1 (Γ.obj id o) w1 :=
  ⟨hx, fun _ _ => rfl, rfl, fun j hn => .inl (by
    show (Γ.h.set id o)[j]? = _
    rw [List.getElem?_set, if_neg (fun e => hn (by simp [G.obj, e]))]), fun j hj => by simp [G.obj, hj], fun _ h => h, fun j hn hl => hk j (fun e => hn (by simp [G.obj, e])) hl⟩
theorem Tr.fz (ids : List Nat) : Tr D g Γ w (g.fz Γ.h ids) (Γ.fz ids) w :=
  ⟨Ext.fz w g Γ.h ids, fun _ _ => rfl, rfl, fun j _ => by
    show (fzAll ids Γ.h)[j]? = _ ∨ (_ ∧ (fzAll ids Γ.h)[j]? = _)
    rw [fzAll_get]
    by_cases hj : j ∈ ids
    · rw [if_pos hj]
      exact .inr ⟨by simp [G.fz, hj], rfl⟩
    · rw [if_neg hj]
      exact .inl rfl, fun _ h => h, fun j hj => by simp [G.fz, hj], fun _ _ _ => rfl⟩
end

/-- The operation is carried out as it is told. -/
def Goes {R : Type} (P : Program) (C : Ctx) (o : Oper) (g : Gh) (Γ : G) (a : Act) (w : World) (K : G → Option R) (r : R) : Prop :=
  ∀ (next : Act → World → Prop) (Q : Exit → Act → World → Prop), (∀ g' Γ' a' w', K Γ' = some r → Rel C g' Γ' a' w' → Tr o.dst.toList g Γ w g' Γ' w' → next a' w') → o.wp P a w next Q

section
variable {R : Type} {P : Program} {C : Ctx} {E : Env} {o : Oper} {g g' : Gh} {Γ Γ1 : G} {a : Act} {w w' : World} {K : G → Option R} {r : R}

theorem goes_value {av : AV} {v : Value} (hrun : (execOp a.eval o).run P w = .ok (.value v) w') (hrel : Rel C g' Γ1 a w') (hv : AVR w' g' Γ1.h av v) (htr : Tr [] g Γ w g' Γ1 w') (hK : K (Γ1.put o.dst av) = some r) :
    Goes P C o g Γ a w K r := by
  intro next Q hn
  unfold Oper.wp
  rw [hrun]
  exact hn g' _ _ w' hK (hrel.put hv o.dst) ((htr.put o.dst av).mono (by simp))

theorem goes_same {av : AV} {v : Value} (hrel : Rel C g Γ a w) (hrun : (execOp a.eval o).run P w = .ok (.value v) w) (hv : AVR w g Γ.h av v) (hK : K (Γ.put o.dst av) = some r) :
    Goes P C o g Γ a w K r := goes_value hrun hrel hv (Tr.refl _ _ _ _) hK

theorem goes_move {x : Operand} (h : Rel C g Γ a w) (ho : o.op = .move x ∨ o.op = .assign x) (hK : K (Γ.put o.dst (Γ.ev x)) = some r) : Goes P C o g Γ a w K r := by
  refine goes_same h (v := a.eval x) ?_ (h.ev x) hK
  rcases ho with ho | ho <;> simp [execOp, ho]

theorem goes_pick {c x y : Operand} (h : Rel C g Γ a w) (ho : o.op = .pick c x y) (hK : opx E Γ o K = some r) : Goes P C o g Γ a w K r := by
  simp only [opx, ho] at hK
  split at hK
  · rename_i b hb
    have hc := h.ev c
    rw [hb] at hc
    have hc' : a.eval c = .bool b := hc
    cases b
    · refine goes_same h (v := a.eval y) ?_ (h.ev y) hK
      simp [execOp, ho, hc', asBool]
    · refine goes_same h (v := a.eval x) ?_ (h.ev x) hK
      simp [execOp, ho, hc', asBool]
  · cases hK
end
end Go.Vm
