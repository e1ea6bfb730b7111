/- A small evaluator for the translated code, and the proof that what it computes the code does. -/
import Derived.Test.YtplbdggmaoanjaaVmX
/-! Soundness, part 21: a call's end. -/
namespace Go.Vm
open Go.RowKit

def hasOb (HE : List Obj) (f : Nat) : Bool := match HE[f]? with | some .no => false | some _ => true | none => false

theorem copyBack_out {dom : List (Nat × Nat)} {H0 HE : List Obj} : ∀ {r : List (Nat × Nat)} {H : List Obj} {a : Nat}, a ∉ r.map (·.2) → (copyBack dom H0 HE r H)[a]? = H[a]?
  | [], _, _, _ => rfl
  | (f, b) :: r, H, a, h => by
    simp only [List.map_cons, List.mem_cons, not_or] at h
    simp only [copyBack]
    rw [copyBack_out h.2]
    split
    · rfl
    · exact set_get_ne h.1
    · rfl
theorem copyBack_in {dom : List (Nat × Nat)} {H0 HE : List Obj} : ∀ {r : List (Nat × Nat)} {H : List Obj} {f a : Nat}, (r.map (·.2)).Nodup → (f, a) ∈ r → a < H.length →
    (copyBack dom H0 HE r H)[a]? = (match HE[f]? with | some .no => H[a]? | some o => some (reObj dom H0 a o) | none => H[a]?)
  | (f0, b) :: r, H, f, a, hn, h, hl => by
    simp only [List.map_cons, List.nodup_cons] at hn
    simp only [copyBack]
    rcases List.mem_cons.1 h with h | h
    · injection h with e1 e2
      subst e1 e2
      rw [copyBack_out hn.1]
      cases hq : HE[f]? with
      | none => rfl
      | some o =>
        cases o with
        | no => rfl
        | box _ _ _ => exact set_get_eq (List.getElem?_eq_getElem hl)
        | row _ _ _ _ _ => exact set_get_eq (List.getElem?_eq_getElem hl)
    · have hne : a ≠ b := fun e => hn.1 (by rw [← e]; exact List.mem_map_of_mem (f := (·.2)) h)
      have key : ∀ H' : List Obj, H'.length = H.length → H'[a]? = H[a]? → (copyBack dom H0 HE r H')[a]? = (match HE[f]? with | some .no => H[a]? | some o => some (reObj dom H0 a o) | none => H[a]?) := by
        intro H' e1 e2
        have := copyBack_in (dom := dom) (H0 := H0) (HE := HE) hn.2 h (H := H') (by rw [e1]; exact hl)
        rw [e2] at this
        exact this
      cases hq : HE[f0]? with
      | none => exact key H rfl rfl
      | some o =>
        cases o with
        | no => exact key H rfl rfl
        | box t cs fz => exact key _ (by simp) (set_get_ne hne)
        | row e k l ver fz => exact key _ (by simp) (set_get_ne hne)
theorem copyBack_len {dom : List (Nat × Nat)} {H0 HE : List Obj} : ∀ (r : List (Nat × Nat)) (H : List Obj), (copyBack dom H0 HE r H).length = H.length
  | [], _ => rfl
  | (f, b) :: r, H => by
    simp only [copyBack]
    rw [copyBack_len r]
    split <;> simp

structure DomIs (dom : List (Nat × Nat)) (H HS HE : List Obj) : Prop where
  n1 : (dom.map (·.1)).Nodup
  n2 : (dom.map (·.2)).Nodup
  back : ∀ f, hasOb HE f = true → ∃ a, aOf dom f = some a
  no : ∀ f a, (f, a) ∈ dom → HS[f]? = some .no → H[a]? = some .no
  lt : ∀ f a, (f, a) ∈ dom → a < H.length
theorem dom_is {dom : List (Nat × Nat)} {H HS HE : List Obj} (h : domOk dom H HS HE = true) : DomIs dom H HS HE := by
  unfold domOk at h
  simp only [Bool.and_eq_true] at h
  obtain ⟨⟨⟨h1, h2⟩, h3⟩, h4⟩ := h
  refine ⟨nodupB_ok h1, nodupB_ok h2, fun f hf => ?_, fun f a hm hs => ?_, fun f a hm => ?_⟩
  · have hlt : f < HE.length := by
      unfold hasOb at hf
      split at hf
      · cases hf
      · rename_i h5; exact (List.getElem?_eq_some_iff.1 h5).1
      · cases hf
    have := List.all_eq_true.1 h3 f (List.mem_range.2 hlt)
    unfold hasOb at hf
    split at this
    · rename_i h5
      rw [h5] at hf
      cases hf
    · exact Option.isSome_iff_exists.1 this
  · have := List.all_eq_true.1 h4 (f, a) hm
    simp only [Bool.and_eq_true] at this
    have h5 := this.1
    rw [hs] at h5
    dsimp only at h5
    unfold isNo at h5
    split at h5
    · assumption
    · cases h5
  · have := List.all_eq_true.1 h4 (f, a) hm
    simp only [Bool.and_eq_true, decide_eq_true_eq] at this
    exact this.2

/-- Where the caller's objects lie behind a call. -/
def Gh.back (g1 g3 : Gh) (dom : List (Nat × Nat)) (HE : List Obj) : Gh :=
  { St := g3.St,
    bl := fun a => match fOf dom a with | some f => if hasOb HE f then g3.bl f else g1.bl a | none => g1.bl a,
    rv := fun a => match fOf dom a with | some f => if hasOb HE f then g3.rv f else g1.rv a | none => g1.rv a }

section
variable {C : Ctx} {w w' : World} {g g1 g2 g3 : Gh} {H HS HE : List Obj} {dom : List (Nat × Nat)} {F : FnI} {vals : List Value} {x : F.si.kd.T} {rds : List Nat}

theorem reCell_ok (hd : DomIs dom H HS HE) {H2 : List Obj} (hH2 : ∀ f a o, (f, a) ∈ dom → HE[f]? = some o → o ≠ .no → H2[a]? = some (reObj dom H a o)) {c : Cell} {v : Value} (hv : VR w' g3 HE c v) :
    VR w' (g1.back g3 dom HE) H2 (reCell dom H c) v := by
  have hob : ∀ {f o}, HE[f]? = some o → o ≠ .no → hasOb HE f = true ∧ ∃ a, aOf dom f = some a ∧ fOf dom a = some f ∧ H2[a]? = some (reObj dom H a o) := by
    intro f o ho hne
    have h1 : hasOb HE f = true := by
      unfold hasOb
      rw [ho]
      cases o with
      | no => exact absurd rfl hne
      | box _ _ _ => rfl
      | row _ _ _ _ _ => rfl
    obtain ⟨a, ha⟩ := hd.back f h1
    exact ⟨h1, a, ha, aOf_fOf hd.n2 ha, hH2 f a o (aOf_mem ha) ho hne⟩
  cases c with
  | own f v0 =>
    obtain ⟨e, k, l, ver', fz, h1, h2, h3⟩ := hv
    obtain ⟨h4, a, ha, hf, h5⟩ := hob h1 (by simp)
    simp only [reCell, ha]
    refine ⟨e, k, l, _, fz, h5, Nat.add_le_add_left h2 _, fun he => ?_⟩
    simp only [Gh.back, hf, h4, if_true]
    exact h3 (by omega)
  | ptr f off =>
    obtain ⟨⟨t, cs, fz, h1⟩, h2⟩ := hv
    obtain ⟨h4, a, ha, hf, h5⟩ := hob h1 (by simp)
    simp only [reCell, ha]
    refine ⟨⟨t, _, fz, h5⟩, ?_⟩
    simp only [Gh.back, hf, h4, if_true]
    exact h2
  | eptr f v0 i off =>
    obtain ⟨e, k, l, ver', fz, h1, h2, h3⟩ := hv
    obtain ⟨h4, a, ha, hf, h5⟩ := hob h1 (by simp)
    simp only [reCell, ha]
    refine ⟨e, k, l, _, fz, h5, Nat.add_le_add_left h2 _, fun he => ?_⟩
    simp only [Gh.back, hf, h4, if_true]
    exact h3 (by omega)
  | junk => trivial
  | undef => exact hv
  | int _ _ => exact hv
  | bool _ => exact hv
  | str _ => exact hv
  | sl k l => exact hv
  | rptr k x off => exact hv
  | clo f k x => exact hv
  | nils => exact hv
  | nilp => exact hv

theorem reCells_ok (hd : DomIs dom H HS HE) {H2 : List Obj} (hH2 : ∀ f a o, (f, a) ∈ dom → HE[f]? = some o → o ≠ .no → H2[a]? = some (reObj dom H a o)) {l : List Cell} {us : List Value} (hv : All2 (VC w' g3 HE) l us) :
    All2 (VC w' (g1.back g3 dom HE) H2) (l.map (reCell dom H)) us := by
  induction hv with
  | nil => exact .nil
  | cons h0 _ ih => exact .cons ⟨reCell_ok hd hH2 h0.1, h0.2⟩ ih

theorem back_ok (h : Inv C w g H) (hr0 : ∀ i ∈ rds, fOf dom i = none) (hn : ∀ p ∈ dom, p.1 < F.n)
    (hE : Enters { w0 := w, S0 := (g.fz H rds).St, own := fun b => ∃ f, Live ((g.fz H rds).un dom) (unHeap dom H F.n) f ∧ ((g.fz H rds).un dom).bl f = b } w ((g.fz H rds).un dom) g2 (unHeap dom H F.n) F x vals)
    (hd : DomIs dom H (startH F x) HE)
    (hI : Inv { w0 := w, S0 := (g.fz H rds).St, own := fun b => ∃ f, Live ((g.fz H rds).un dom) (unHeap dom H F.n) f ∧ ((g.fz H rds).un dom).bl f = b } w' g3 HE)
    (hX : Ext w g2 (startH F x) w' g3 HE) :
    Inv C w' ((g.fz H rds).back g3 dom HE) (copyBack dom H HE dom (fzAll rds H)) ∧
      Ext w (g.fz H rds) (fzAll rds H) w' ((g.fz H rds).back g3 dom HE) (copyBack dom H HE dom (fzAll rds H)) ∧
      (∀ f a o, (f, a) ∈ dom → HE[f]? = some o → o ≠ .no → (copyBack dom H HE dom (fzAll rds H))[a]? = some (reObj dom H a o)) ∧
      ∀ a, (∀ f, fOf dom a = some f → hasOb HE f = false) → Live (g.fz H rds) (fzAll rds H) a → w'.heap[(g.fz H rds).bl a]? = w.heap[(g.fz H rds).bl a]? := by
  have h1 := h.fz rds
  have hlen : (copyBack dom H HE dom (fzAll rds H)).length = H.length := by rw [copyBack_len, fzAll_len]
  have hin : ∀ f a o, (f, a) ∈ dom → HE[f]? = some o → o ≠ .no → (copyBack dom H HE dom (fzAll rds H))[a]? = some (reObj dom H a o) := by
    intro f a o hm ho hne
    rw [copyBack_in hd.n2 hm (by rw [fzAll_len]; exact hd.lt f a hm), ho]
    cases o with
    | no => exact absurd rfl hne
    | box _ _ _ => rfl
    | row _ _ _ _ _ => rfl
  have hnorow : ∀ {f a}, (f, a) ∈ dom → a ∉ rds := by
    intro f a hm hh
    have := hr0 a hh
    rw [aOf_fOf hd.n2 (aOf_in hd.n1 hm)] at this
    cases this
  -- an object of the caller that is not one of the callee's, or was none
  have hout : ∀ a, (∀ f, fOf dom a = some f → hasOb HE f = false) → (copyBack dom H HE dom (fzAll rds H))[a]? = (fzAll rds H)[a]? ∧ (fOf dom a ≠ none → H[a]? = some .no) := by
    intro a ha
    cases hf : fOf dom a with
    | none => exact ⟨copyBack_out (fOf_none.1 hf), fun hh => absurd rfl hh⟩
    | some f =>
      have hm := aOf_mem (fOf_aOf hd.n1 hf)
      have hob := ha f hf
      have hlt : f < HE.length := by
        have e1 : (startH F x)[f]? = some ((startH F x)[f]'(by rw [hE.len]; exact hn _ hm)) := List.getElem?_eq_getElem _
        obtain ⟨o', ho', _⟩ := hX.later _ _ e1
        exact (List.getElem?_eq_some_iff.1 ho').1
      have hno : HE[f]? = some .no := by
        unfold hasOb at hob
        split at hob
        · assumption
        · cases hob
        · rename_i h5
          rw [List.getElem?_eq_getElem hlt] at h5
          cases h5
      refine ⟨?_, fun _ => hd.no f a hm ?_⟩
      · rw [copyBack_in hd.n2 hm (by rw [fzAll_len]; exact hd.lt f a hm), hno]
      · have e1 : (startH F x)[f]? = some ((startH F x)[f]'(by rw [hE.len]; exact hn _ hm)) := List.getElem?_eq_getElem _
        obtain ⟨o', ho', hlat⟩ := hX.later _ _ e1
        rw [hno] at ho'
        injection ho' with ho'
        subst ho'
        rw [e1]
        cases hs : (startH F x)[f]'(by rw [hE.len]; exact hn _ hm) with
        | no => rfl
        | box t cs fz =>
          rw [hs] at hlat
          obtain ⟨⟨_, _, hh⟩, _⟩ := hlat
          cases hh
        | row e k l ver fz =>
          rw [hs] at hlat
          obtain ⟨_, _, _, _, _, hh, _⟩ := hlat
          cases hh
  have hcase : ∀ a, (∃ f o, fOf dom a = some f ∧ (f, a) ∈ dom ∧ HE[f]? = some o ∧ o ≠ .no ∧ hasOb HE f = true) ∨ (∀ f, fOf dom a = some f → hasOb HE f = false) := by
    intro a
    cases hf : fOf dom a with
    | none => exact .inr (fun f hh => by cases hh)
    | some f =>
      cases hh : hasOb HE f with
      | false => exact .inr (fun f' h' => by injection h' with h'; rw [← h']; exact hh)
      | true =>
        have h2 := hh
        unfold hasOb at h2
        split at h2
        · cases h2
        · rename_i o hne ho
          exact .inl ⟨f, o, rfl, aOf_mem (fOf_aOf hd.n1 hf), ho, fun e => hne e, hh⟩
        · cases h2
  generalize hH2 : copyBack dom H HE dom (fzAll rds H) = H2 at *
  have gin : ∀ {a f}, fOf dom a = some f → hasOb HE f = true → ((g.fz H rds).back g3 dom HE).bl a = g3.bl f ∧ ((g.fz H rds).back g3 dom HE).rv a = g3.rv f := by
    intro a f hf hh
    simp [Gh.back, hf, hh]
  have gout : ∀ {a}, (∀ f, fOf dom a = some f → hasOb HE f = false) → ((g.fz H rds).back g3 dom HE).bl a = (g.fz H rds).bl a ∧ ((g.fz H rds).back g3 dom HE).rv a = (g.fz H rds).rv a := by
    intro a ha
    cases hf : fOf dom a with
    | none => simp [Gh.back, hf]
    | some f => simp [Gh.back, hf, ha f hf]
  -- the callee's older blocks are the caller's objects'
  have hown : ∀ f, Live ((g.fz H rds).un dom) (unHeap dom H F.n) f → ∃ a, fOf dom a = some f ∧ Live (g.fz H rds) (fzAll rds H) a ∧ ((g.fz H rds).un dom).bl f = (g.fz H rds).bl a := by
    rintro f (⟨t, cs, fz, h2⟩ | ⟨e, k, l, ver, fz, h2, h3⟩)
    · obtain ⟨a, o', ha, ho, hu⟩ := unHeap_get h2 (by simp)
      refine ⟨a, aOf_fOf hd.n2 ha, ?_, by simp [Gh.un, ha]⟩
      cases o' with
      | no => cases hu
      | row _ _ _ _ _ => cases hu
      | box t' cs' fz' =>
        have := fzAll_some (ids := rds) ho
        split at this <;> exact .inl ⟨_, _, _, this⟩
    · obtain ⟨a, o', ha, ho, hu⟩ := unHeap_get h2 (by simp)
      refine ⟨a, aOf_fOf hd.n2 ha, ?_, by simp [Gh.un, ha]⟩
      have h4 : (g.fz H rds).rv a ≠ nilSlice := by simpa [Gh.un, ha] using h3
      cases o' with
      | no => cases hu
      | box _ _ _ => cases hu
      | row e' k' l' ver' fz' =>
        have := fzAll_some (ids := rds) ho
        split at this <;> exact .inr ⟨_, _, _, _, _, this, h4⟩
  have hownC : ∀ b, (∃ f, Live ((g.fz H rds).un dom) (unHeap dom H F.n) f ∧ ((g.fz H rds).un dom).bl f = b) → (C.w0.heap.size ≤ b ∨ C.own b) := by
    rintro b ⟨f, hf, rfl⟩
    obtain ⟨a, _, h2, h3⟩ := hown f hf
    rw [h3]
    exact (h1.new a h2).1
  have hkeptno : ∀ a, (∀ f, fOf dom a = some f → hasOb HE f = false) → Live (g.fz H rds) (fzAll rds H) a → ¬ ∃ f, Live ((g.fz H rds).un dom) (unHeap dom H F.n) f ∧ ((g.fz H rds).un dom).bl f = (g.fz H rds).bl a := by
    rintro a ha hl ⟨f, hf, he⟩
    obtain ⟨a', h2, h3, h4⟩ := hown f hf
    rw [h4] at he
    have := h1.apart _ _ h3 hl he
    subst this
    have h5 := (hout a' ha).2 (by rw [h2]; simp)
    have h6 := fzAll_some (ids := rds) h5
    rcases hl with ⟨t, cs, fz, h7⟩ | ⟨_, _, _, _, _, h7, _⟩ <;> (rw [h6] at h7; split at h7 <;> cases h7)
  have hkept : ∀ a, (∀ f, fOf dom a = some f → hasOb HE f = false) → Live (g.fz H rds) (fzAll rds H) a → w'.heap[(g.fz H rds).bl a]? = w.heap[(g.fz H rds).bl a]? := fun a ha hl =>
    hI.below.block _ (h1.new a hl).2 (hkeptno a ha hl)
  have hx : Ext w (g.fz H rds) (fzAll rds H) w' ((g.fz H rds).back g3 dom HE) H2 := by
    refine ⟨⟨fun b o hs => hX.keeps.sub b o (hE.st b o hs), fun b o hs => hX.keeps.cell b o (hE.st b o hs)⟩, fun a o ho => ?_⟩
    rcases hcase a with ⟨f, o2, hf, hm, h2, h3, h4⟩ | ha
    · refine ⟨_, hin f a o2 hm h2 h3, ?_⟩
      obtain ⟨g4, g5⟩ := gin hf h4
      have haf := aOf_in hd.n1 hm
      cases o with
      | no => trivial
      | box t cs fz =>
        obtain ⟨fz0, h5, _⟩ := fzAll_box ho
        obtain ⟨cs', fz', h6, h7⟩ := hE.box f t _ fz0 (unHeap_in haf h5 (hn _ hm))
        obtain ⟨o', h8, ⟨cs2, fz2, rfl⟩, h9⟩ := hX.later _ _ h6
        rw [h2] at h8
        injection h8 with h8
        subst h8
        refine ⟨⟨_, _, rfl⟩, ?_⟩
        rw [g4, h9, h7]
        simp [Gh.un, haf]
      | row e k l ver fz =>
        obtain ⟨fz0, h5, _⟩ := fzAll_row ho
        obtain ⟨vs, fz', h6, h7, h10⟩ := hE.row f e k l 0 fz0 (unHeap_in haf h5 (hn _ hm))
        obtain ⟨o', h8, e2, k2, l2, ver2, fz2, rfl, h9⟩ := hX.later _ _ h6
        rw [h2] at h8
        injection h8 with h8
        subst h8
        have hcv : curVer H a = ver := by simp [curVer, h5]
        refine ⟨e2, k2, l2, _, fz2, rfl, ?_⟩
        rw [hcv]
        rcases h9 with ⟨q1, q2, q3, q4, q5⟩ | h9
        · by_cases hz : ver2 = 0
          · refine .inl ⟨by omega, q2, q3, ?_, ?_⟩
            · rw [g5, q4, h7]; simp [Gh.un, haf]
            · rw [g4, q5, h10]; simp [Gh.un, haf]
          · exact .inr (by omega)
        · exact .inr (by omega)
    · refine ⟨o, by rw [(hout a ha).1]; exact ho, ?_⟩
      obtain ⟨g4, g5⟩ := gout ha
      cases o with
      | no => trivial
      | box t cs fz => exact ⟨⟨cs, fz, rfl⟩, g4⟩
      | row e k l ver fz => exact ⟨e, k, l, ver, fz, rfl, .inl ⟨rfl, rfl, rfl, g5, g4⟩⟩
  have livein : ∀ {a f o}, fOf dom a = some f → (f, a) ∈ dom → HE[f]? = some o → o ≠ .no → hasOb HE f = true → Live ((g.fz H rds).back g3 dom HE) H2 a → Live g3 HE f := by
    intro a f o hf hm h2 h3 h4 hl
    have h5 := hin f a o hm h2 h3
    rcases hl with ⟨t, cs, fz, h6⟩ | ⟨e, k, l, ver, fz, h6, h7⟩
    · rw [h5] at h6
      cases o with
      | no => cases h6
      | row _ _ _ _ _ => cases h6
      | box t' cs' fz' => exact .inl ⟨_, _, _, h2⟩
    · rw [h5] at h6
      cases o with
      | no => cases h6
      | box _ _ _ => cases h6
      | row _ _ _ _ _ => exact .inr ⟨_, _, _, _, _, h2, by rw [← (gin hf h4).2]; exact h7⟩
  have liveout : ∀ {a}, (∀ f, fOf dom a = some f → hasOb HE f = false) → Live ((g.fz H rds).back g3 dom HE) H2 a → Live (g.fz H rds) (fzAll rds H) a := by
    intro a ha hl
    rcases hl with ⟨t, cs, fz, h6⟩ | ⟨e, k, l, ver, fz, h6, h7⟩
    · rw [(hout a ha).1] at h6
      exact .inl ⟨_, _, _, h6⟩
    · rw [(hout a ha).1] at h6
      exact .inr ⟨_, _, _, _, _, h6, by rw [← (gout ha).2]; exact h7⟩
  -- a kept object's block is none of the callee's
  have hclash : ∀ {a f}, (∀ f, fOf dom a = some f → hasOb HE f = false) → Live (g.fz H rds) (fzAll rds H) a → Live g3 HE f → g3.bl f ≠ (g.fz H rds).bl a := by
    intro a f ha hl hf he
    rcases (hI.new f hf).1 with h2 | h2
    · have h3 := (h1.new a hl).2
      rw [he] at h2
      exact absurd h3 (Nat.not_lt.2 h2)
    · rw [he] at h2
      exact hkeptno a ha hl h2
  have hstold : ∀ {a o}, (∀ f, fOf dom a = some f → hasOb HE f = false) → Live (g.fz H rds) (fzAll rds H) a → g3.St ((g.fz H rds).bl a) o → (g.fz H rds).St ((g.fz H rds).bl a) o := by
    intro a o ha hl hs
    rcases hI.old _ _ hs with h2 | h2 | h2
    · exact h2
    · have h3 := (h1.new a hl).2
      exact absurd h3 (Nat.not_lt.2 h2)
    · exact absurd h2 (hkeptno a ha hl)
  refine ⟨⟨?_, fun b o hs => hX.keeps.sub b o (hE.st b o (h1.sub b o hs)), fun b o hs => ?_, hI.lt, ?_, ?_, ?_, ?_, ?_⟩, hx, hin, hkept⟩
  · exact h.below.to hI.below.os hI.below.tape hI.below.output hI.below.size (fun b hb hnb => hI.below.block b (Nat.lt_of_lt_of_le hb h.below.size) (fun hh => by
      rcases hownC b hh with h2 | h2
      · omega
      · exact hnb h2))
  · rcases hI.old b o hs with h2 | h2 | h2
    · exact h1.old b o h2
    · exact .inr (.inl (Nat.le_trans h.below.size h2))
    · exact .inr (hownC b h2)
  · intro a ob hob
    rcases hcase a with ⟨f, o2, hf, hm, h2, h3, h4⟩ | ha
    · rw [hin f a o2 hm h2 h3] at hob
      injection hob with hob
      subst hob
      obtain ⟨g4, g5⟩ := gin hf h4
      have h5 := hI.obj f o2 h2
      cases o2 with
      | no => trivial
      | box t cs fz =>
        obtain ⟨vs, h6, h7⟩ := h5
        exact ⟨vs, by rw [g4]; exact h6, reCells_ok hd hin h7⟩
      | row e k l ver fz =>
        show RowOk w' g3.St _ _ e k l
        rw [g4, g5]
        exact h5
    · rw [(hout a ha).1] at hob
      have h5 := h1.obj a ob hob
      obtain ⟨g4, g5⟩ := gout ha
      cases ob with
      | no => trivial
      | box t cs fz =>
        obtain ⟨vs, h6, h7⟩ := h5
        exact ⟨vs, by rw [g4, hkept a ha (.inl ⟨_, _, _, hob⟩)]; exact h6, h7.ext hx⟩
      | row e k l ver fz =>
        show RowOk w' _ _ _ e k l
        rw [g4, g5]
        exact RowOk.keep hx.keeps (fun hnn => hkept a ha (.inr ⟨_, _, _, _, _, hob, hnn⟩)) h5
  · intro a hl
    rcases hcase a with ⟨f, o2, hf, hm, h2, h3, h4⟩ | ha
    · obtain ⟨g4, _⟩ := gin hf h4
      have h5 := hI.new f (livein hf hm h2 h3 h4 hl)
      rw [g4]
      refine ⟨?_, h5.2⟩
      rcases h5.1 with h6 | h6
      · exact .inl (Nat.le_trans h.below.size h6)
      · exact hownC _ h6
    · obtain ⟨g4, _⟩ := gout ha
      have h5 := h1.new a (liveout ha hl)
      rw [g4]
      exact ⟨h5.1, Nat.lt_of_lt_of_le h5.2 hI.below.size⟩
  · intro a b hla hlb he
    rcases hcase a with ⟨f, o2, hf, hm, h2, h3, h4⟩ | ha
    · have la := livein hf hm h2 h3 h4 hla
      rw [(gin hf h4).1] at he
      rcases hcase b with ⟨f', o3, hf', hm', h2', h3', h4'⟩ | hb
      · have lb := livein hf' hm' h2' h3' h4' hlb
        rw [(gin hf' h4').1] at he
        have := hI.apart _ _ la lb he
        subst this
        have e1 := aOf_in hd.n1 hm
        have e2 := aOf_in hd.n1 hm'
        rw [e1] at e2
        injection e2
      · rw [(gout hb).1] at he
        exact absurd he (hclash hb (liveout hb hlb) la)
    · rw [(gout ha).1] at he
      rcases hcase b with ⟨f', o3, hf', hm', h2', h3', h4'⟩ | hb
      · have lb := livein hf' hm' h2' h3' h4' hlb
        rw [(gin hf' h4').1] at he
        exact absurd he.symm (hclash ha (liveout ha hla) lb)
      · rw [(gout hb).1] at he
        exact h1.apart _ _ (liveout ha hla) (liveout hb hlb) he
  · intro a t cs fz hob o hs
    rcases hcase a with ⟨f, o2, hf, hm, h2, h3, h4⟩ | ha
    · rw [hin f a o2 hm h2 h3] at hob
      rw [(gin hf h4).1] at hs
      cases o2 with
      | no => cases hob
      | row _ _ _ _ _ => cases hob
      | box t' cs' fz' =>
        injection hob with hob
        injection hob with _ _ e3
        subst e3
        exact hI.box f _ _ _ h2 o hs
    · rw [(hout a ha).1] at hob
      rw [(gout ha).1] at hs
      exact h1.box a t cs fz hob o (hstold ha (.inl ⟨_, _, _, hob⟩) hs)
  · intro a e k l ver fz hob hnn o hs
    rcases hcase a with ⟨f, o2, hf, hm, h2, h3, h4⟩ | ha
    · rw [hin f a o2 hm h2 h3] at hob
      rw [(gin hf h4).1] at hs
      rw [(gin hf h4).2] at hnn
      cases o2 with
      | no => cases hob
      | box _ _ _ => cases hob
      | row e' k' l' ver' fz' =>
        simp only [reObj] at hob
        injection hob with hob
        injection hob with e1 e2 e3 e4 e5
        subst e1 e2 e5
        have e3 := eq_of_heq e3
        subst e3
        exact hI.row f _ _ _ _ _ h2 hnn o hs
    · rw [(hout a ha).1] at hob
      rw [(gout ha).1] at hs
      rw [(gout ha).2] at hnn
      exact h1.row a e k l ver fz hob hnn o (hstold ha (.inr ⟨_, _, _, _, _, hob, hnn⟩) hs)
end
end Go.Vm
