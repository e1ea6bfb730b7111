/- A small evaluator for the translated code, and the proof that what it computes the code does. -/
import Derived.Test.YtplbdggmaoanjaaVmB
/-! Soundness, part 1: temporaries, operands, readings. -/
namespace Go.Vm
open Go.RowKit

section
variable {C : Ctx} {g : Gh} {Γ : G} {a : Act} {w : World}

theorem setIfInBounds_toList {α : Type} (xs : Array α) (i : Nat) (v : α) : (xs.setIfInBounds i v).toList = xs.toList.set i v := by
  simp [Array.toList_setIfInBounds]

theorem Rel.put (h : Rel C g Γ a w) {av : AV} {v : Value} (hv : AVR w g Γ.h av v) (d : Option Tmp) : Rel C g (Γ.put d av) (a.put d v) w := by
  cases d with
  | none => exact h
  | some d =>
    refine ⟨h.inv, ?_, h.defers⟩
    show All2 (AVR w g Γ.h) (Γ.t.set d av) (a.tmps.setIfInBounds d v).toList
    rw [setIfInBounds_toList]
    exact h.t.set hv d

theorem VR_const (w : World) (g : Gh) (H : List Obj) (v : Value) : VR w g H (constCell v) v := by
  unfold constCell
  split <;> simp only [VR, nilSlice]
  · rename_i f
    simp only [RdV]
    exact ⟨#[], rfl, rfl⟩
theorem one_const {v : Value} (h : constCell v ≠ .junk) : v.oneCell' = true := by
  unfold constCell at h
  split at h <;> first | rfl | exact absurd rfl h

theorem Rel.tmp (h : Rel C g Γ a w) {t : Nat} {v : AV} (hv : Γ.t[t]? = some v) : AVR w g Γ.h v (a.eval (.tmp t)) := by
  obtain ⟨u, hu, hr⟩ := h.t.get t v hv
  have : a.eval (.tmp t) = u := by
    simp only [Act.eval]
    have : a.tmps[t]? = some u := by simpa using hu
    simp [Array.getD_eq_getD_getElem?, this]
  rw [this]
  exact hr

theorem All2_const (w : World) (g : Gh) (H : List Obj) : ∀ (l : List Value), allOne l = true → All2 (VC w g H) (l.map constCell) l
  | [], _ => .nil
  | v :: r, h => by
    simp only [allOne, Bool.and_eq_true] at h
    exact .cons ⟨VR_const w g H v, h.1⟩ (All2_const w g H r h.2)

theorem AVR_const (w : World) (g : Gh) (H : List Obj) (v : Value) : AVR w g H (constAV v) v := by
  cases v with
  | agg vs =>
    show AVR w g H (if allOne vs.toList then _ else _) _
    split
    · rename_i h
      exact ⟨vs, rfl, All2_const w g H _ h⟩
    · exact trivial
  | bool b => exact VR_const w g H (.bool b)
  | int k n => exact VR_const w g H (.int k n)
  | float k n => exact VR_const w g H (.float k n)
  | complex k x y => exact VR_const w g H (.complex k x y)
  | string s => exact VR_const w g H (.string s)
  | pointer p => exact VR_const w g H (.pointer p)
  | slice p n c => exact VR_const w g H (.slice p n c)
  | map r => exact VR_const w g H (.map r)
  | chan r => exact VR_const w g H (.chan r)
  | func f x y => exact VR_const w g H (.func f x y)
  | nilFunc => exact VR_const w g H .nilFunc
  | iface t v => exact VR_const w g H (.iface t v)
  | nilIface => exact VR_const w g H .nilIface
  | tuple vs => exact VR_const w g H (.tuple vs)

theorem Rel.ev (h : Rel C g Γ a w) (x : Operand) : AVR w g Γ.h (Γ.ev x) (a.eval x) := by
  cases x with
  | tmp t =>
    show AVR w g Γ.h (match Γ.t[t]? with | some v => v | none => .c .junk) _
    cases hv : Γ.t[t]? with
    | none => exact trivial
    | some v => exact h.tmp hv
  | const v => exact AVR_const w g Γ.h v
  | global n => exact trivial
  | func f =>
    show VR w g Γ.h (.clo f .unit ()) _
    simp only [VR, RdV, Act.eval]
    exact ⟨#[], rfl, rfl⟩
end

/-! ### Decoding -/
theorem ikEq_some {a b : IntKind} {p : PLift (a = b)} (_ : ikEq a b = some p) : a = b := p.down

/-- The rows that are named are wholly stable. -/
def Full (g : Gh) (H : List Obj) (ids : List Nat) : Prop :=
  ∀ id ∈ ids, ∀ e k l ver fz, H[id]? = some (.row e k l ver fz) → g.rv id ≠ nilSlice → ∀ o, o < l.length * k.size → g.St (g.bl id) o

theorem Full.mono {g : Gh} {H : List Obj} {ids ids' : List Nat} (h : Full g H ids) (hs : ∀ x ∈ ids', x ∈ ids) : Full g H ids' := fun id hid => h id (hs id hid)

section
variable {w : World} {g : Gh} {H : List Obj}

/-- A row that is wholly stable reads as a slice. -/
theorem row_reads {e : TypeId} {k : Kd} {l : List k.T} {v : Value} {b : Nat} (h : RowOk w g.St v b e k l) (hf : v ≠ nilSlice → ∀ o, o < l.length * k.size → g.St b o) : RdV w g.St (.slice k) [v] l := by
  rcases h with ⟨rfl, rfl⟩ | ⟨cap, cur, rfl, hb, h1, h2, h3, h4⟩
  · simp only [RdV]
    exact ⟨none, 0, rfl, Nat.le_refl _, fun h => absurd h (by simp)⟩
  · simp only [RdV]
    refine ⟨some ⟨b, 0, none⟩, cap, rfl, h1, fun h0 => ⟨b, 0, rfl, fun i hi => ?_⟩⟩
    obtain ⟨us, hu, hc⟩ := h4 i hi
    refine ⟨us, hu, fun j hj => ?_⟩
    have hlen : us.length = k.size := hu.len
    have hlt : i * k.size + j < l.length * k.size := by
      have : (i + 1) * k.size ≤ l.length * k.size := Nat.mul_le_mul_right _ (by omega)
      rw [Nat.add_mul, Nat.one_mul] at this
      omega
    refine ⟨by rw [Nat.zero_add]; exact hf (by simp [nilSlice]) _ hlt, ?_⟩
    simp only [World.cell?, hb, Nat.zero_add]
    simpa using hc j hj

theorem sliceAs_ok (hobj : ∀ id ob, H[id]? = some ob → ObjOk w g H id ob) {k : Kd} {c : Cell} {v : Value} {l : List k.T} (hv : VR w g H c v) (h : sliceAs H k c = some l) (hf : Full g H (ownIds [c])) : RdV w g.St (.slice k) [v] l := by
  unfold sliceAs at h
  split at h
  · obtain ⟨rfl, rfl⟩ := Kd.castL_some h
    exact hv
  · injection h with h
    subst h
    simp only [VR] at hv
    subst hv
    simp only [RdV]
    exact ⟨none, 0, rfl, Nat.le_refl _, fun h => absurd h (by simp)⟩
  · rename_i id ver
    unfold rowAs at h
    split at h
    · rename_i e k' l' ver' fz hh
      split at h
      · rename_i hver
        obtain ⟨rfl, rfl⟩ := Kd.castL_some h
        obtain ⟨e2, k2, l2, ver2, fz2, h2, _, h3⟩ := hv
        rw [hh] at h2
        cases h2
        have hvv := h3 hver
        subst hvv
        exact row_reads (hobj id _ hh) (fun hne o ho => hf id (by simp [ownIds]) _ _ _ _ _ hh hne o ho)
      · cases h
    · cases h
  · cases h

theorem ownIds_append : ∀ (a b : List Cell), ownIds (a ++ b) = ownIds a ++ ownIds b
  | [], b => rfl
  | c :: a, b => by
    cases c <;> simp [ownIds, ownIds_append a b]

theorem ownIds_cons_mem {x : Nat} {c : Cell} {r : List Cell} : x ∈ ownIds (c :: r) ↔ x ∈ ownIds [c] ∨ x ∈ ownIds r := by
  rw [show c :: r = [c] ++ r from rfl, ownIds_append]
  simp

theorem cons_ok {k : Kd} {f : Cell → Option k.T} {cs : List Cell} {vs : List Value} {x : k.T} {r : List Cell} (h : All2 (VC w g H) cs vs) (hd : consD f cs = some (x, r))
    (hc : ∀ v, ∀ c, cs.head? = some c → VR w g H c v → f c = some x → RdV w g.St k [v] x) :
    ∃ us vs', vs = us ++ vs' ∧ RdV w g.St k us x ∧ All2 (VC w g H) r vs' ∧ (∀ y ∈ ownIds r, y ∈ ownIds cs) := by
  cases h with
  | nil => cases hd
  | cons h0 hr =>
    rename_i c v cs vs
    simp only [consD] at hd
    cases hy : f c with
    | none => rw [hy] at hd; cases hd
    | some y =>
      rw [hy] at hd
      injection hd with hd
      injection hd with hx hrr
      subst hx hrr
      exact ⟨[v], vs, rfl, hc v c rfl h0.1 hy, hr, fun y hy => ownIds_cons_mem.2 (.inr hy)⟩

/-- What is decoded reads so; the rest stands behind it. -/
theorem dec_ok (hobj : ∀ id ob, H[id]? = some ob → ObjOk w g H id ob) : ∀ (k : Kd) (cs : List Cell) (vs : List Value) (x : k.T) (r : List Cell), All2 (VC w g H) cs vs → dec H k cs = some (x, r) → Full g H (ownIds cs) →
    ∃ us vs', vs = us ++ vs' ∧ RdV w g.St k us x ∧ All2 (VC w g H) r vs' ∧ (∀ y ∈ ownIds r, y ∈ ownIds cs)
  | .unit, cs, vs, x, r, h, hd, _ => by
    simp only [dec, Option.some.injEq, Prod.mk.injEq] at hd
    obtain ⟨_, rfl⟩ := hd
    exact ⟨[], vs, rfl, by simp only [RdV], h, fun _ h => h⟩
  | .pair p q, cs, vs, x, r, h, hd, hf => by
    unfold dec at hd
    split at hd
    · rename_i x1 r1 h1
      split at hd
      · rename_i y1 r2 h2
        injection hd with hd
        injection hd with hx hr
        subst hr
        obtain ⟨us, vs1, rfl, hu, hr1, hs1⟩ := dec_ok hobj p cs vs x1 r1 h h1 hf
        obtain ⟨us2, vs2, rfl, hu2, hr2, hs2⟩ := dec_ok hobj q r1 vs1 y1 r2 hr1 h2 (hf.mono hs1)
        refine ⟨us ++ us2, vs2, by simp, ?_, hr2, fun y hy => hs1 y (hs2 y hy)⟩
        subst hx
        simp only [RdV]
        exact ⟨us, us2, rfl, hu, hu2⟩
      · cases hd
    · cases hd
  | .int ik, cs, vs, x, r, h, hd, _ => by
    refine cons_ok (k := .int ik) h (f := decInt ik) (by unfold dec at hd; exact hd) fun v c hh hv hc => ?_
    unfold decInt at hc
    split at hc
    · split at hc
      · rename_i p hp
        have := ikEq_some hp
        subst this
        injection hc with hc
        subst hc
        simp only [VR] at hv
        subst hv
        simp only [RdV]
      · cases hc
    · cases hc
  | .bool, cs, vs, x, r, h, hd, _ => by
    refine cons_ok (k := .bool) h (f := decBool) (by unfold dec at hd; exact hd) fun v c hh hv hc => ?_
    unfold decBool at hc
    split at hc
    · injection hc with hc
      subst hc
      simp only [VR] at hv
      subst hv
      simp only [RdV]
    · cases hc
  | .str, cs, vs, x, r, h, hd, _ => by
    refine cons_ok (k := .str) h (f := decStr) (by unfold dec at hd; exact hd) fun v c hh hv hc => ?_
    unfold decStr at hc
    split at hc
    · injection hc with hc
      subst hc
      simp only [VR] at hv
      subst hv
      simp only [RdV]
    · cases hc
  | .slice k, cs, vs, x, r, h, hd, hf => by
    refine cons_ok (k := .slice k) h (f := sliceAs H k) (by unfold dec at hd; exact hd) fun v c hh hv hc => ?_
    cases cs with
    | nil => cases hh
    | cons c0 r0 =>
      injection hh with hh
      subst hh
      exact sliceAs_ok hobj hv hc (hf.mono fun y hy => ownIds_cons_mem.2 (.inl hy))
  | .ptr k, cs, vs, x, r, h, hd, _ => by
    refine cons_ok (k := .ptr k) h (f := decPtr k) (by unfold dec at hd; exact hd) fun v c hh hv hc => ?_
    unfold decPtr at hc
    split at hc
    · split at hc
      · rename_i h0
        subst h0
        obtain ⟨rfl, rfl⟩ := Kd.cast_some hc
        simp only [VR] at hv
        simp only [RdV]
        obtain ⟨b, o, us, rfl, h1, h2⟩ := hv
        exact ⟨b, o, us, rfl, h1, h2⟩
      · cases hc
    · cases hc
  | .clo f k, cs, vs, x, r, h, hd, _ => by
    refine cons_ok (k := .clo f k) h (f := decClo f k) (by unfold dec at hd; exact hd) fun v c hh hv hc => ?_
    unfold decClo at hc
    split at hc
    · split at hc
      · rename_i h0
        subst h0
        obtain ⟨rfl, rfl⟩ := Kd.cast_some hc
        exact hv
      · cases hc
    · cases hc

theorem decAll_ok (hobj : ∀ id ob, H[id]? = some ob → ObjOk w g H id ob) {k : Kd} {cs : List Cell} {vs : List Value} {x : k.T} (h : All2 (VC w g H) cs vs) (hd : decAll H k cs = some x) (hf : Full g H (ownIds cs)) : RdV w g.St k vs x := by
  unfold decAll at hd
  split at hd
  · rename_i x' hd'
    injection hd with hd
    subst hd
    obtain ⟨us, vs', rfl, hu, hr, _⟩ := dec_ok hobj k cs vs x' [] h hd' hf
    cases hr
    simpa using hu
  · cases hd

/-- What is encoded holds of the values. -/
theorem enc_ok : ∀ (k : Kd) (x : k.T) (vs : List Value), RdV w g.St k vs x → All2 (VC w g H) (enc k x) vs
  | .int ik, x, vs, h => by
    simp only [RdV] at h
    subst h
    exact .cons ⟨rfl, rfl⟩ .nil
  | .bool, x, vs, h => by
    simp only [RdV] at h
    subst h
    exact .cons ⟨rfl, rfl⟩ .nil
  | .str, x, vs, h => by
    simp only [RdV] at h
    subst h
    exact .cons ⟨rfl, rfl⟩ .nil
  | .slice k, x, vs, h => by
    have h0 := h
    simp only [RdV] at h0
    obtain ⟨A, c, rfl, _⟩ := h0
    exact .cons ⟨h, rfl⟩ .nil
  | .ptr k, x, vs, h => by
    simp only [RdV] at h
    obtain ⟨b, o, us, rfl, h1, h2⟩ := h
    exact .cons ⟨⟨b, o, us, rfl, h1, h2⟩, rfl⟩ .nil
  | .clo f k, x, vs, h => by
    have h0 := h
    simp only [RdV] at h0
    obtain ⟨caps, rfl, _⟩ := h0
    exact .cons ⟨h, rfl⟩ .nil
  | .unit, x, vs, h => by
    simp only [RdV] at h
    subst h
    exact .nil
  | .pair p q, x, vs, h => by
    simp only [RdV] at h
    obtain ⟨us, us', rfl, h1, h2⟩ := h
    exact (enc_ok p x.1 us h1).append (enc_ok q x.2 us' h2)

theorem enc_len : ∀ (k : Kd) (x : k.T), (enc k x).length = k.size
  | .int _, _ => rfl
  | .bool, _ => rfl
  | .str, _ => rfl
  | .slice _, _ => rfl
  | .ptr _, _ => rfl
  | .clo _ _, _ => rfl
  | .unit, _ => rfl
  | .pair p q, x => by simp [enc, Kd.size, enc_len p, enc_len q]

theorem enc_own : ∀ (k : Kd) (x : k.T), ownIds (enc k x) = []
  | .int _, _ => rfl
  | .bool, _ => rfl
  | .str, _ => rfl
  | .slice _, _ => rfl
  | .ptr _, _ => rfl
  | .clo _ _, _ => rfl
  | .unit, _ => rfl
  | .pair p q, x => by simp [enc, ownIds_append, enc_own p, enc_own q]
end
end Go.Vm
