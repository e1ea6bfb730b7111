/- A small evaluator for the translated code, and the proof that what it computes the code does. -/
import Derived.Test.YtplbdggmaoanjaaVmC
/-! Soundness, part 2: what is read for good; new objects; stores. -/
namespace Go.Vm
open Go.RowKit

def Obj.frz : Obj → Obj
  | .row e k l ver _ => .row e k l ver true
  | .box t cs _ => .box t cs true
  | .no => .no
theorem Obj.frz_frz (o : Obj) : o.frz.frz = o.frz := by cases o <;> rfl

theorem fz1_get (H : List Obj) (id i : Nat) : (fz1 H id)[i]? = if i = id then (H[i]?).map Obj.frz else H[i]? := by
  unfold fz1
  cases hh : H[id]? with
  | none =>
    simp only
    split
    · rename_i e; subst e; rw [hh]; rfl
    · rfl
  | some o =>
    cases o with
    | no =>
      simp only
      split
      · rename_i e; subst e; rw [hh]; rfl
      · rfl
    | box t cs fz =>
      simp only [List.getElem?_set]
      by_cases e : i = id
      · subst e
        have hlt := (List.getElem?_eq_some_iff.1 hh).1
        rw [if_pos rfl, if_pos hlt, if_pos rfl, hh]
        rfl
      · rw [if_neg (fun h => e h.symm), if_neg e]
    | row e' k l ver fz =>
      simp only [List.getElem?_set]
      by_cases e : i = id
      · subst e
        have hlt := (List.getElem?_eq_some_iff.1 hh).1
        rw [if_pos rfl, if_pos hlt, if_pos rfl, hh]
        rfl
      · rw [if_neg (fun h => e h.symm), if_neg e]

theorem fzAll_get : ∀ (ids : List Nat) (H : List Obj) (i : Nat), (fzAll ids H)[i]? = if i ∈ ids then (H[i]?).map Obj.frz else H[i]?
  | [], H, i => by simp [fzAll]
  | id :: r, H, i => by
    simp only [fzAll]
    rw [fzAll_get r, fz1_get]
    by_cases e : i = id
    · subst e
      simp only [if_true, List.mem_cons, true_or]
      split
      · cases H[i]? <;> simp [Obj.frz_frz]
      · rfl
    · simp [e]

theorem fzAll_row {ids : List Nat} {H : List Obj} {i : Nat} {e : TypeId} {k : Kd} {l : List k.T} {ver : Nat} {fz : Bool} (h : (fzAll ids H)[i]? = some (.row e k l ver fz)) :
    ∃ fz', H[i]? = some (.row e k l ver fz') ∧ (fz' = true → fz = true) ∧ (i ∈ ids → fz = true) := by
  rw [fzAll_get] at h
  split at h
  · cases hh : H[i]? with
    | none => rw [hh] at h; cases h
    | some o =>
      rw [hh] at h
      cases o with
      | no => cases h
      | box t cs fz => cases h
      | row e' k' l' ver' fz' =>
        simp only [Option.map_some, Obj.frz, Option.some.injEq, Obj.row.injEq] at h
        obtain ⟨rfl, rfl, h1, rfl, rfl⟩ := h
        have := eq_of_heq h1
        subst this
        exact ⟨fz', rfl, fun _ => rfl, fun _ => rfl⟩
  · rename_i hn
    exact ⟨fz, h, fun h => h, fun hi => absurd hi hn⟩
theorem fzAll_box {ids : List Nat} {H : List Obj} {i : Nat} {t : TypeId} {cs : List Cell} {fz : Bool} (h : (fzAll ids H)[i]? = some (.box t cs fz)) :
    ∃ fz', H[i]? = some (.box t cs fz') ∧ (fz' = true → fz = true) ∧ (i ∈ ids → fz = true) := by
  rw [fzAll_get] at h
  split at h
  · cases hh : H[i]? with
    | none => rw [hh] at h; cases h
    | some o =>
      rw [hh] at h
      cases o with
      | no => cases h
      | row _ _ _ _ _ => cases h
      | box t' cs' fz' =>
        simp only [Option.map_some, Obj.frz, Option.some.injEq, Obj.box.injEq] at h
        obtain ⟨rfl, rfl, rfl⟩ := h
        exact ⟨fz', rfl, fun _ => rfl, fun _ => rfl⟩
  · rename_i hn
    exact ⟨fz, h, fun h => h, fun hi => absurd hi hn⟩
theorem fzAll_some {ids : List Nat} {H : List Obj} {i : Nat} {o : Obj} (h : H[i]? = some o) : (fzAll ids H)[i]? = some (if i ∈ ids then o.frz else o) := by
  rw [fzAll_get, h]
  split <;> rfl

/-- The stable cells, once these objects are read for good. -/
def stOf (g : Gh) (H : List Obj) (ids : List Nat) (b o : Nat) : Prop :=
  g.St b o ∨ ∃ id ∈ ids, b = g.bl id ∧
    ((∃ e k l ver fz, H[id]? = some (Obj.row e k l ver fz) ∧ g.rv id ≠ nilSlice ∧ o < l.length * k.size) ∨ (∃ t cs fz, H[id]? = some (.box t cs fz) ∧ o < cs.length))
def Gh.fz (g : Gh) (H : List Obj) (ids : List Nat) : Gh := { St := stOf g H ids, bl := g.bl, rv := g.rv }

section
variable {C : Ctx} {g : Gh} {H : List Obj} {w : World}

theorem Live.fz {ids : List Nat} {id : Nat} : Live (g.fz H ids) (fzAll ids H) id ↔ Live g H id := by
  constructor
  · rintro (⟨t, cs, fz, h⟩ | ⟨e, k, l, ver, fz, h, hn⟩)
    · obtain ⟨fz', h', _⟩ := fzAll_box h
      exact .inl ⟨t, cs, fz', h'⟩
    · obtain ⟨fz', h', _⟩ := fzAll_row h
      exact .inr ⟨e, k, l, ver, fz', h', hn⟩
  · rintro (⟨t, cs, fz, h⟩ | ⟨e, k, l, ver, fz, h, hn⟩)
    · have := fzAll_some (ids := ids) h
      split at this
      · exact .inl ⟨t, cs, true, this⟩
      · exact .inl ⟨t, cs, fz, this⟩
    · have := fzAll_some (ids := ids) h
      split at this
      · exact .inr ⟨e, k, l, ver, true, this, hn⟩
      · exact .inr ⟨e, k, l, ver, fz, this, hn⟩

theorem Ext.fz (w : World) (g : Gh) (H : List Obj) (ids : List Nat) : Ext w g H w (g.fz H ids) (fzAll ids H) := by
  refine ⟨⟨fun b o h => .inl h, fun _ _ _ => rfl⟩, fun id o h => ⟨_, fzAll_some h, ?_⟩⟩
  split
  · cases o with
    | no => trivial
    | box t cs fz => exact ⟨⟨cs, true, rfl⟩, rfl⟩
    | row e k l ver fz => exact ⟨e, k, l, ver, true, rfl, .inl ⟨rfl, rfl, rfl, rfl, rfl⟩⟩
  · exact Later.refl _ _ _

theorem Inv.fz (h : Inv C w g H) (ids : List Nat) : Inv C w (g.fz H ids) (fzAll ids H) := by
  have hx := Ext.fz w g H ids
  refine ⟨h.below, fun b o hs => .inl (h.sub b o hs), ?_, ?_, ?_, ?_, ?_, ?_, ?_⟩
  · rintro b o (hs | ⟨id, _, rfl, hs⟩)
    · exact h.old b o hs
    · refine .inr (h.new id ?_).1
      rcases hs with ⟨e, k, l, ver, fz, h1, h2, _⟩ | ⟨t, cs, fz, h1, _⟩
      · exact .inr ⟨e, k, l, ver, fz, h1, h2⟩
      · exact .inl ⟨t, cs, fz, h1⟩
  · rintro b o (hs | ⟨id, _, rfl, hs⟩)
    · exact h.lt b o hs
    · refine (h.new id ?_).2
      rcases hs with ⟨e, k, l, ver, fz, h1, h2, _⟩ | ⟨t, cs, fz, h1, _⟩
      · exact .inr ⟨e, k, l, ver, fz, h1, h2⟩
      · exact .inl ⟨t, cs, fz, h1⟩
  · intro id ob hob
    cases ob with
    | no => trivial
    | box t cs fz =>
      obtain ⟨fz', h1, _⟩ := fzAll_box hob
      obtain ⟨vs, h2, h3⟩ := h.obj id _ h1
      exact ⟨vs, h2, h3.ext hx⟩
    | row e k l ver fz =>
      obtain ⟨fz', h1, _⟩ := fzAll_row hob
      exact RowOk.keep hx.keeps (fun _ => rfl) (h.obj id _ h1)
  · intro id hl
    exact h.new id (Live.fz.1 hl)
  · intro i j hi hj
    exact h.apart i j (Live.fz.1 hi) (Live.fz.1 hj)
  · intro id t cs fz hob o hs
    obtain ⟨fz', h1, h2, h3⟩ := fzAll_box hob
    rcases hs with hs | ⟨id2, hi2, hb, hs⟩
    · exact h2 (h.box id t cs fz' h1 o hs)
    · rcases hs with ⟨e, k, l, ver, fz2, h4, h5, _⟩ | ⟨t2, cs2, fz2, h4, _⟩
      · have := h.apart id id2 (.inl ⟨t, cs, fz', h1⟩) (.inr ⟨e, k, l, ver, fz2, h4, h5⟩) hb
        subst this
        rw [h1] at h4
        cases h4
      · have := h.apart id id2 (.inl ⟨t, cs, fz', h1⟩) (.inl ⟨t2, cs2, fz2, h4⟩) hb
        subst this
        exact h3 hi2
  · intro id e k l ver fz hob hn o hs
    obtain ⟨fz', h1, h2, h3⟩ := fzAll_row hob
    rcases hs with hs | ⟨id2, hi2, hb, hs⟩
    · have := h.row id e k l ver fz' h1 hn o hs
      exact ⟨h2 this.1, this.2⟩
    · rcases hs with ⟨e2, k2, l2, ver2, fz2, h4, h5, h6⟩ | ⟨t2, cs2, fz2, h4, _⟩
      · have := h.apart id id2 (.inr ⟨e, k, l, ver, fz', h1, hn⟩) (.inr ⟨e2, k2, l2, ver2, fz2, h4, h5⟩) hb
        subst this
        rw [h1] at h4
        cases h4
        exact ⟨h3 hi2, h6⟩
      · have := h.apart id id2 (.inr ⟨e, k, l, ver, fz', h1, hn⟩) (.inl ⟨t2, cs2, fz2, h4⟩) hb
        subst this
        rw [h1] at h4
        cases h4

theorem Full.fz (g : Gh) (H : List Obj) (ids : List Nat) : Full (g.fz H ids) (fzAll ids H) ids := by
  intro id hid e k l ver fz hob hn o ho
  obtain ⟨fz', h1, _⟩ := fzAll_row hob
  exact .inr ⟨id, hid, rfl, .inl ⟨e, k, l, ver, fz', h1, hn, ho⟩⟩
/-- The same over the objects as they were told before. -/
theorem Full.fz' (g : Gh) (H : List Obj) (ids : List Nat) : Full (g.fz H ids) H ids := by
  intro id hid e k l ver fz hob hn o ho
  exact .inr ⟨id, hid, rfl, .inl ⟨e, k, l, ver, fz, hob, hn, ho⟩⟩

theorem Rel.fz {Γ : G} {a : Act} (h : Rel C g Γ a w) (ids : List Nat) : Rel C (g.fz Γ.h ids) (Γ.fz ids) a w :=
  ⟨h.inv.fz ids, h.t.mono fun _ _ hv => hv.ext (Ext.fz w g Γ.h ids), h.defers⟩

/-- The objects, told before, are right over the stable cells that there are then. -/
theorem Inv.objAt (h : Inv C w g H) (ids : List Nat) : ∀ id ob, H[id]? = some ob → ObjOk w (g.fz H ids) H id ob := by
  have hx : Ext w g H w (g.fz H ids) H := ⟨⟨fun b o h => .inl h, fun _ _ _ => rfl⟩, fun id o h => ⟨o, h, by cases o <;> first | trivial | exact ⟨⟨_, _, rfl⟩, rfl⟩ | exact ⟨_, _, _, _, _, rfl, .inl ⟨rfl, rfl, rfl, rfl, rfl⟩⟩⟩⟩
  intro id ob hob
  have := h.obj id ob hob
  cases ob with
  | no => trivial
  | box t cs fz =>
    obtain ⟨vs, h2, h3⟩ := this
    exact ⟨vs, h2, h3.ext hx⟩
  | row e k l ver fz => exact RowOk.keep hx.keeps (fun _ => rfl) this
end
end Go.Vm
