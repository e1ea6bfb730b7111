/- A small evaluator for the translated code, and the proof that what it computes the code does. -/
import Derived.Test.YtplbdggmaoanjaaVmW
/-! Soundness, part 20: a call's entry: what is told; the way back. -/
namespace Go.Vm
open Go.RowKit

section
variable {C : Ctx} {w w' : World} {g g' : Gh} {H : List Obj} {dom : List (Nat × Nat)} {F : FnI} {args : List AV} {vals : List Value} {x : F.si.kd.T}

structure EntryIs (F : FnI) (dom : List (Nat × Nat)) (HF : List Obj) (args : List AV) : Prop where
  no : F.si.no = []
  dd : F.si.dd = []
  ti : F.si.ti = List.range args.length
  src : ∃ vs, flatV F.si.tl args = some vs ∧ sameSrc HF (srcL F.si.ts vs ++ srcB HF F.si.b) = true
  all : ∀ f, f ∉ F.si.ids → f < F.n → HF[f]? = some .no
  dom : ∀ p ∈ dom, p.1 < F.n
theorem entry_is {HF : List Obj} (h : entryOk F dom HF args = true) : EntryIs F dom HF args := by
  unfold entryOk at h
  simp only [Bool.and_eq_true, decide_eq_true_eq, List.isEmpty_iff] at h
  obtain ⟨⟨⟨⟨⟨h1, h2⟩, h3⟩, h4⟩, h5⟩, h6⟩ := h
  refine ⟨h1, h2, h3, (by
    split at h4
    · rename_i vs hvs
      exact ⟨vs, hvs, h4⟩
    · cases h4), fun f hf hn => ?_, fun p hp => by have := List.all_eq_true.1 h6 p hp; simpa using this⟩
  have := List.all_eq_true.1 h5 f (List.mem_range.2 hn)
  rcases Bool.or_eq_true _ _ ▸ this with h | h
  · exact absurd (List.contains_iff_mem.1 h) hf
  · unfold isNo at h
    split at h
    · assumption
    · cases h

/-- What the callee starts with. -/
structure Enters (C : Ctx) (w : World) (gF g2 : Gh) (HF : List Obj) (F : FnI) (x : F.si.kd.T) (vals : List Value) : Prop where
  inv : Inv C w g2 (startH F x)
  args : All2 (AVR w g2 (startH F x)) (F.si.outs x) vals
  st : ∀ b o, gF.St b o → g2.St b o
  row : ∀ f e k l ver fz, HF[f]? = some (.row e k l ver fz) → ∃ ver' fz', (startH F x)[f]? = some (.row e k l ver' fz') ∧ g2.rv f = gF.rv f ∧ g2.bl f = gF.bl f
  box : ∀ f t cs fz, HF[f]? = some (.box t cs fz) → ∃ cs' fz', (startH F x)[f]? = some (.box t cs' fz') ∧ g2.bl f = gF.bl f
  len : (startH F x).length = F.n

theorem enters {gF : Gh} {HF : List Obj} (hF : Inv C w gF HF) (hlen : HF.length = F.n) (hsi : F.si.ok { t := [], h := List.replicate F.n .no, lg := [], lf := [] } = true) (hen : EntryIs F dom HF args) (ha : All2 (AVR w gF HF) args vals)
    (hx : ext F.si { t := args, h := HF, lg := [], lf := [] } = some x) : ∃ g2, Enters C w gF g2 HF F x vals := by
  obtain ⟨vs, ex⟩ := ext_ok hx
  have hfl : flatV F.si.tl args = some vs := by
    obtain ⟨vs0, h1, h2⟩ := ex.gather
    rw [hen.ti] at h1
    rw [gather_range] at h1
    injection h1 with h1
    rw [h1]; exact h2
  obtain ⟨vs', hfl', hsrc0⟩ := hen.src
  rw [hfl] at hfl'
  injection hfl' with hfl'
  subst hfl'
  have ok := ok_is hsi
  have hx0 : Ext w gF (List.replicate F.n Obj.no) w gF HF := ⟨Keeps.refl _ _, fun id o ho => by
    rw [List.getElem?_replicate] at ho
    split at ho
    · rename_i hlt
      injection ho with ho
      subst ho
      exact ⟨_, List.getElem?_eq_getElem (by rw [hlen]; exact hlt), trivial⟩
    · cases ho⟩
  obtain ⟨h1, h2, h3, h4⟩ := join_objs (Γ := { t := [], h := List.replicate F.n .no, lg := [], lf := [] }) (hF.none F.n) hF hx0 (fun id hid => .inl (by
    show HF[id]? = (List.replicate F.n Obj.no)[id]?
    rw [List.getElem?_replicate]
    split
    · rename_i hlt
      exact hen.all id hid hlt
    · rename_i hlt
      exact List.getElem?_eq_none (by omega))) ok ex
  have hnd : ((F.si.obs x).map (·.1)).Nodup := by rw [obs_ids]; exact ok.nodup
  have fin : ∀ p ∈ F.si.obs x, (startH F x)[p.1]? = some p.2 := fun p hp => setAll_in _ _ _ _ hnd hp (by rw [fzAll_len]; exact obs_lt ok x p hp)
  have hsrc : F.si.src { t := args, h := HF, lg := [], lf := [] } vs = srcL F.si.ts vs ++ srcB HF F.si.b := by simp [Shape.src, hen.dd]
  obtain ⟨s1, s2⟩ := sameSrc_ok hsrc0
  rw [← hsrc] at s1 s2
  have hSn : ((F.si.src { t := args, h := HF, lg := [], lf := [] } vs).map (·.1)).Nodup := (src_keys ex).nodup ok.nodup
  have hin : ∀ f o, HF[f]? = some o → o ≠ .no → ∃ ob, (f, ob) ∈ F.si.obs x := by
    intro f o ho hne
    have : f ∈ F.si.ids := by
      refine Classical.byContradiction fun hh => ?_
      have hlt := (List.getElem?_eq_some_iff.1 ho).1
      have := hen.all f hh (by omega)
      rw [ho] at this
      injection this with this
      exact hne this
    rw [← obs_ids F.si x] at this
    exact mem_ids this
  have hkey : ∀ f, f ∉ (F.si.src { t := args, h := HF, lg := [], lf := [] } vs).map (·.1) → (joinG gF { t := args, h := HF, lg := [], lf := [] } F.si vs).bl f = gF.bl f ∧ (joinG gF { t := args, h := HF, lg := [], lf := [] } F.si vs).rv f = gF.rv f := by
    intro f hf
    obtain ⟨n1, n2, _⟩ := nokey (g1 := gF.fz HF (F.si.rds { t := args, h := HF, lg := [], lf := [] } vs)) hf
    exact ⟨n1, n2⟩
  obtain ⟨uvs, k3, k4⟩ := flat_ok (g2 := joinG gF { t := args, h := HF, lg := [], lf := [] } F.si vs) (H2 := startH F x) ha hfl
  refine ⟨joinG gF { t := args, h := HF, lg := [], lf := [] } F.si vs, h1, k4 _ (h4 uvs k3), h3, ?_, ?_, by unfold startH; rw [setAll_len, fzAll_len, List.length_replicate]⟩
  · intro f e k l ver fz ho
    obtain ⟨ob, hob⟩ := hin f _ ho (by simp)
    have h5 := fin _ hob
    rcases obs_from ex _ hob with hf | hf | hf | hf
    · obtain ⟨e6, k6, l6, ver6, fz6, h6, h7⟩ := hf
      dsimp only at h6 h7
      subst h6
      rcases h7 with ⟨h7, _⟩ | ⟨j, ver', fz', h7, h8, _⟩
      · rw [s2 f h7] at ho; cases ho
      · obtain rfl := s1 f j h7
        rw [h8] at ho
        cases ho
        have hl := look_in hSn h7
        refine ⟨_, _, h5, ?_, ?_⟩
        · simp [joinG, Gh.told, hl, Gh.fz]
        · simp [joinG, Gh.told, hl, Gh.fz]
    · obtain ⟨b, hbm, cs0, fz0, y, h6, h7, _⟩ := hf
      injection h6 with h6 _
      subst h6
      dsimp only at h7
      rw [h7] at ho
      cases ho
    · obtain ⟨r, hr, l6, fz6, h6, h7, _⟩ := hf
      injection h6 with h6 h8
      subst h6 h8
      dsimp only at h7
      rw [h7] at ho
      cases ho
      obtain ⟨n1, n2⟩ := hkey r.id (r_nokey ok ex r.id (idR_mem hr))
      exact ⟨_, _, h5, n2, n1⟩
    · have := no_obj hob hf
      rw [hen.no] at this
      cases this
  · intro f t cs fz ho
    obtain ⟨ob, hob⟩ := hin f _ ho (by simp)
    have h5 := fin _ hob
    rcases obs_from ex _ hob with hf | hf | hf | hf
    · obtain ⟨e6, k6, l6, ver6, fz6, h6, h7⟩ := hf
      dsimp only at h6 h7
      subst h6
      rcases h7 with ⟨h7, _⟩ | ⟨j, ver', fz', h7, h8, _⟩
      · rw [s2 f h7] at ho; cases ho
      · obtain rfl := s1 f j h7
        rw [h8] at ho
        cases ho
    · obtain ⟨b, hbm, cs0, fz0, y, h6, h7, _⟩ := hf
      injection h6 with h6 h8
      subst h6 h8
      dsimp only at h7
      rw [h7] at ho
      cases ho
      refine ⟨_, _, h5, (hkey b.id (fun hk => ?_)).1⟩
      obtain ⟨e, k, l, ver, fz', h9⟩ := key_row ex b.id hk
      have h10 := fin _ h9
      rw [h5] at h10
      cases h10
    · obtain ⟨r, hr, l6, fz6, h6, h7, _⟩ := hf
      injection h6 with h6 h8
      subst h6 h8
      dsimp only at h7
      rw [h7] at ho
      cases ho
    · have := no_obj hob hf
      rw [hen.no] at this
      cases this
end
end Go.Vm
