/- A small evaluator for the translated code, and the proof that what it computes the code does. -/
import Derived.Test.YtplbdggmaoanjaaVmV
/-! Soundness, part 19: a call's entry. -/
namespace Go.Vm
open Go.RowKit

theorem sameSrc_ok {HF : List Obj} : ∀ {S : List (Nat × Option Nat)}, sameSrc HF S = true → (∀ f j, (f, some j) ∈ S → f = j) ∧ (∀ f, (f, none) ∈ S → HF[f]? = some .no)
  | [], _ => ⟨fun _ _ h => by simp at h, fun _ h => by simp at h⟩
  | (f0, some j0) :: r, h => by
    simp only [sameSrc, Bool.and_eq_true, beq_iff_eq] at h
    obtain ⟨h1, h2⟩ := sameSrc_ok h.2
    refine ⟨fun f j hm => ?_, fun f hm => ?_⟩
    · rcases List.mem_cons.1 hm with hm | hm
      · injection hm with e1 e2
        injection e2 with e2
        rw [e1, e2]; exact h.1
      · exact h1 f j hm
    · rcases List.mem_cons.1 hm with hm | hm
      · injection hm with _ e2; cases e2
      · exact h2 f hm
  | (f0, none) :: r, h => by
    simp only [sameSrc, Bool.and_eq_true] at h
    obtain ⟨h1, h2⟩ := sameSrc_ok h.2
    refine ⟨fun f j hm => ?_, fun f hm => ?_⟩
    · rcases List.mem_cons.1 hm with hm | hm
      · injection hm with _ e2; cases e2
      · exact h1 f j hm
    · rcases List.mem_cons.1 hm with hm | hm
      · injection hm with e1 _
        subst e1
        have := h.1
        unfold isNo at this
        split at this
        · assumption
        · cases this
      · exact h2 f hm

theorem gather_range (l : List AV) : gather (List.range l.length) l = some l := by
  have : ∀ (m : List AV) (k : Nat), k + m.length = l.length → m = l.drop k → gather ((List.range m.length).map (k + ·)) l = some m := by
    intro m
    induction m with
    | nil => intro k _ _; rfl
    | cons a m ih =>
      intro k hk hm
      have h1 : l[k]? = some a := by
        have : (l.drop k)[0]? = some a := by rw [← hm]; rfl
        simpa using this
      have h2 := ih (k + 1) (by simp at hk; omega) (by
        have : (l.drop k).drop 1 = m := by rw [← hm]; rfl
        rw [← this, List.drop_drop])
      rw [List.length_cons, List.range_succ_eq_map, List.map_cons, List.map_map]
      simp only [gather, Nat.add_zero, h1]
      have h3 : (List.range m.length).map ((k + ·) ∘ Nat.succ) = (List.range m.length).map (k + 1 + ·) := by
        apply List.map_congr_left
        intro x _
        simp only [Function.comp]
        omega
      rw [h3, h2]
  have h := this l 0 (by simp) (by simp)
  simpa using h

theorem no_obj {s : Shape} {x : s.kd.T} {p : Nat × Obj} (hp : p ∈ s.obs x) (h : p.2 = .no) : p.1 ∈ s.no := by
  simp only [Shape.obs, List.mem_append] at hp
  have hS : ∀ (c : SS) (x : c.kd.T), ∀ q ∈ obS c x, q.2 ≠ .no := by
    intro c x q hq e
    cases c <;> simp only [obS, List.mem_singleton, List.not_mem_nil] at hq <;> (subst hq; cases e)
  have hL : ∀ (ss : List SS) (x : (kdL ss).T), ∀ q ∈ obL ss x, q.2 ≠ .no := by
    intro ss
    induction ss with
    | nil => intro x q hq; simp [obL] at hq
    | cons c r ih =>
      intro x q hq
      simp only [obL, List.mem_append] at hq
      rcases hq with hq | hq
      · exact hS c x.1 q hq
      · exact ih x.2 q hq
  have hB : ∀ (bs : List SB) (x : (kdB bs).T), ∀ q ∈ obB bs x, q.2 ≠ .no := by
    intro bs
    induction bs with
    | nil => intro x q hq; simp [obB] at hq
    | cons b r ih =>
      intro x q hq
      simp only [obB, List.mem_cons, List.mem_append, List.cons_append] at hq
      rcases hq with rfl | hq | hq
      · intro e; cases e
      · exact hL _ x.1 q hq
      · exact ih x.2 q hq
  have hR : ∀ (rs : List SR) (x : (kdR rs).T), ∀ q ∈ obR rs x, q.2 ≠ .no := by
    intro rs
    induction rs with
    | nil => intro x q hq; simp [obR] at hq
    | cons b r ih =>
      intro x q hq
      simp only [obR, List.mem_cons] at hq
      rcases hq with rfl | hq
      · intro e; cases e
      · exact ih x.2 q hq
  rcases hp with hp | hp | hp | hp | hp
  · exact absurd h (hL _ _ p hp)
  · exact absurd h (hB _ _ p hp)
  · exact absurd h (hR _ _ p hp)
  · obtain ⟨d, _, rfl⟩ := obD_mem hp
    cases h
  · exact (obN_mem hp).1

section
variable {C : Ctx} {w : World} {g : Gh} {H : List Obj} {dom : List (Nat × Nat)} {F : FnI} {args : List AV} {vals : List Value} {x : F.si.kd.T}

theorem unIds_out : ∀ {cs : List Cell} {i : Nat}, i ∈ unIds dom cs → fOf dom i = none
  | c :: r, i, h => by
    cases c with
    | own id ver =>
      simp only [unIds, List.mem_append] at h
      rcases h with h | h
      · split at h
        · cases h
        · rename_i hf
          simp only [List.mem_singleton] at h
          rw [h]; exact hf
      · exact unIds_out h
    | _ => exact unIds_out (cs := r) h

/-- The callee's view is right. -/
theorem un_inv (h : Inv C w g H) (hd1 : (dom.map (·.1)).Nodup) (hd2 : (dom.map (·.2)).Nodup) {n : Nat} (hdn : ∀ p ∈ dom, p.1 < n) (rds : List Nat) (hr0 : ∀ i ∈ rds, fOf dom i = none)
    (hr1 : ∀ p ∈ dom, ∀ i ∈ unIds dom (objCells H p.2), i ∈ rds) : Inv C w ((g.fz H rds).un dom) (unHeap dom H n) := by
  have hobj := h.objAt rds
  have hfull := Full.fz' g H rds
  have hno : ∀ {f a}, aOf dom f = some a → a ∉ rds := by
    intro f a ha hh
    have := aOf_fOf hd2 ha
    rw [hr0 a hh] at this
    cases this
  refine (h.fz rds).corr (fun f => match aOf dom f with | some a => a | none => H.length + f) rfl ?_ ?_ ?_
  · intro f t cs fz hob
    obtain ⟨a, o', ha, ho, hu⟩ := unHeap_get hob (by simp)
    cases o' with
    | no => cases hu
    | row _ _ _ _ _ => cases hu
    | box t' cs' fz' =>
      simp only [unObj] at hu
      injection hu with e1 e2 e3
      subst e1 e2 e3
      refine ⟨cs', fz, ?_, by simp [Gh.un, ha], fun hf => hf, fun vs hw _ => ?_⟩
      · simp only [ha]
        rw [fzAll_some ho, if_neg (hno ha)]
      · simp only [ha] at hw
        obtain ⟨us, h7, h8⟩ := hobj _ _ ho
        rw [h7] at hw
        injection hw with hw
        injection hw with hw _ _
        subst hw
        have : AVR w ((g.fz H rds).un dom) (unHeap dom H n) (unAV dom H (.agg cs')) (.agg us) :=
          unAV_ok hobj hd1 hdn hfull (av := .agg cs') ⟨us, rfl, h8⟩ (fun i hi => hr1 _ (aOf_mem ha) i (by
            simp only [objCells, ho]
            exact hi))
        obtain ⟨us', e, h9⟩ := this
        injection e with e
        subst e
        exact h9
  · intro f e k l ver fz hob
    obtain ⟨a, o', ha, ho, hu⟩ := unHeap_get hob (by simp)
    cases o' with
    | no => cases hu
    | box _ _ _ => cases hu
    | row e' k' l' ver' fz' =>
      simp only [unObj] at hu
      injection hu with e1 e2 e3 e4 e5
      subst e1 e2 e4 e5
      have e3 := eq_of_heq e3
      subst e3
      right
      refine ⟨ver', fz, ?_, by simp [Gh.un, ha], by simp [Gh.un, ha], fun hf => hf⟩
      simp only [ha]
      rw [fzAll_some ho, if_neg (hno ha)]
  · intro i j hi hj he
    have hl : ∀ f, Live ((g.fz H rds).un dom) (unHeap dom H n) f → ∃ a, aOf dom f = some a := by
      rintro f (⟨t, cs, fz, h1⟩ | ⟨e, k, l, ver, fz, h1, _⟩)
      · obtain ⟨a, _, ha, _⟩ := unHeap_get h1 (by simp)
        exact ⟨a, ha⟩
      · obtain ⟨a, _, ha, _⟩ := unHeap_get h1 (by simp)
        exact ⟨a, ha⟩
    obtain ⟨a, ha⟩ := hl i hi
    obtain ⟨b, hb⟩ := hl j hj
    simp only [ha, hb] at he
    subst he
    have h1 := aOf_fOf hd2 ha
    have h2 := aOf_fOf hd2 hb
    rw [h1] at h2
    injection h2
end
end Go.Vm
