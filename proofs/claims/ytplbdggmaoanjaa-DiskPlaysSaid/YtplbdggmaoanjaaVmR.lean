/- A small evaluator for the translated code, and the proof that what it computes the code does. -/
import Derived.Test.YtplbdggmaoanjaaVmQ
/-! Soundness, part 15: where ways meet: the whole. -/
namespace Go.Vm
open Go.RowKit

section
variable {C : Ctx} {w w' : World} {g g' : Gh} {Γ Γ' : G} {s : Shape} {vs : List AV} {x : s.kd.T}

/-- What becomes of the objects that there were. -/
structure Became (g g' : Gh) (H0 H' : List Obj) (g2 : Gh) (H2 : List Obj) : Prop where
  row : ∀ id e k l ver fz, H0[id]? = some (.row e k l ver fz) → ∃ e2 k2 l2 ver2 fz2, H2[id]? = some (.row e2 k2 l2 ver2 fz2) ∧
    ((ver2 = ver ∧ k2 = k ∧ l2.length = l.length ∧ g2.rv id = g'.rv id ∧ g2.bl id = g'.bl id ∧ g'.rv id = g.rv id ∧ g'.bl id = g.bl id ∧
      ∃ e' l' fz', H'[id]? = some (.row e' k l' ver fz') ∧ l'.length = l.length) ∨ ver < ver2)
  box : ∀ id t cs fz, H0[id]? = some (.box t cs fz) → (∃ cs2 fz2, H2[id]? = some (.box t cs2 fz2)) ∧ g2.bl id = g'.bl id ∧ g'.bl id = g.bl id

theorem Became.vr {H0 H' H2 : List Obj} {g2 : Gh} (b : Became g g' H0 H' g2 H2) (hst : ∀ o b, g'.St o b → g2.St o b) : ∀ (c : Cell) (v0 v : Value), VR w g H0 c v0 → VR w' g' H' c v → VR w' g2 H2 c v := by
  have hk : Keeps w' g'.St w' g2.St := ⟨hst, fun _ _ _ => rfl⟩
  intro c v0 v h0 h
  cases c with
  | junk => trivial
  | undef => exact h
  | int _ _ => exact h
  | bool _ => exact h
  | str _ => exact h
  | sl k l => exact RdV.keep hk h
  | rptr k x off =>
    obtain ⟨b0, o, us, h1, h2, h3⟩ := h
    exact ⟨b0, o, us, h1, h2.keep hk, h3.keep hk⟩
  | clo f k x => exact RdV.keep hk h
  | nils => exact h
  | nilp => exact h
  | own id ver =>
    obtain ⟨e, k, l, ver0, fz, a1, a2, _⟩ := h0
    obtain ⟨e', k', l', ver', fz', b1, b2, b3⟩ := h
    obtain ⟨e2, k2, l2, ver2, fz2, c1, c2⟩ := b.row id e k l ver0 fz a1
    rcases c2 with ⟨c2, _, _, c3, _, _, _, e3, l3, fz3, c4, _⟩ | c2
    · refine ⟨e2, k2, l2, ver2, fz2, c1, by omega, fun hv => ?_⟩
      rw [b1] at c4
      injection c4 with c4
      injection c4 with _ _ _ c4 _
      rw [c3]
      exact b3 (by omega)
    · exact ⟨e2, k2, l2, ver2, fz2, c1, by omega, fun hv => by omega⟩
  | ptr id off =>
    obtain ⟨⟨t, cs, fz, a1⟩, _⟩ := h0
    obtain ⟨_, b2⟩ := h
    obtain ⟨⟨cs2, fz2, c1⟩, c2, _⟩ := b.box id t cs fz a1
    exact ⟨⟨t, cs2, fz2, c1⟩, by rw [c2]; exact b2⟩
  | eptr id ver i off =>
    obtain ⟨e, k, l, ver0, fz, a1, a2, _⟩ := h0
    obtain ⟨e', k', l', ver', fz', b1, b2, b3⟩ := h
    obtain ⟨e2, k2, l2, ver2, fz2, c1, c2⟩ := b.row id e k l ver0 fz a1
    rcases c2 with ⟨c2, c5, c6, c3, c7, _, _, e3, l3, fz3, c4, c8⟩ | c2
    · refine ⟨e2, k2, l2, ver2, fz2, c1, by omega, fun hv => ?_⟩
      rw [b1] at c4
      injection c4 with c4
      injection c4 with d1 d2 d3 d4 d5
      subst d2
      subst c5
      have d3 := eq_of_heq d3
      subst d3
      have := b3 (by omega)
      rw [c7]
      refine ⟨this.1, ?_, this.2.2⟩
      have h2 := this.2.1
      omega
    · exact ⟨e2, k2, l2, ver2, fz2, c1, by omega, fun hv => by omega⟩

theorem Became.ext {H0 H' H2 : List Obj} {g2 : Gh} (b : Became g g' H0 H' g2 H2) (hk : Keeps w g.St w' g2.St) (hl : H2.length = H0.length) : Ext w g H0 w' g2 H2 := by
  refine ⟨hk, fun id o ho => ?_⟩
  cases o with
  | no =>
    have : id < H2.length := by rw [hl]; exact (List.getElem?_eq_some_iff.1 ho).1
    exact ⟨_, List.getElem?_eq_getElem this, trivial⟩
  | box t cs fz =>
    obtain ⟨⟨cs2, fz2, c1⟩, c2, c3⟩ := b.box id t cs fz ho
    exact ⟨_, c1, ⟨cs2, fz2, rfl⟩, c2.trans c3⟩
  | row e k l ver fz =>
    obtain ⟨e2, k2, l2, ver2, fz2, c1, c2⟩ := b.row id e k l ver fz ho
    refine ⟨_, c1, e2, k2, l2, ver2, fz2, rfl, ?_⟩
    rcases c2 with ⟨c2, c5, c6, c3, c7, c9, c10, _⟩ | c2
    · exact .inl ⟨c2, c5, c6, c3.trans c9, c7.trans c10⟩
    · exact .inr c2

/-- Where the objects lie behind a join. -/
def joinG (g' : Gh) (Γ' : G) (s : Shape) (vs : List AV) : Gh := (g'.fz Γ'.h (s.rds Γ' vs)).told (s.src Γ' vs)

theorem join_objs (hpre : Inv C w g Γ.h) (hmid : Inv C w' g' Γ'.h) (hext : Ext w g Γ.h w' g' Γ'.h)
    (hkept : ∀ id, id ∉ s.ids → Γ'.h[id]? = Γ.h[id]? ∨ (id ∈ Γ'.lf ∧ Γ'.h[id]? = (Γ.h[id]?).map Obj.frz)) (ok : OkIs s Γ.h) (ex : ExtOk s Γ' vs x) :
    Inv C w' (joinG g' Γ' s vs) (setAll (s.obs x) (fzAll s.fz Γ.h)) ∧ Became g g' Γ.h Γ'.h (joinG g' Γ' s vs) (setAll (s.obs x) (fzAll s.fz Γ.h)) ∧ (∀ b o, g'.St b o → (joinG g' Γ' s vs).St b o) ∧
      (∀ us, All2 (AVR w' g' Γ'.h) vs us → All2 (AVR w' (joinG g' Γ' s vs) (setAll (s.obs x) (fzAll s.fz Γ.h))) (outL s.ts x.1) us) := by
  unfold joinG
  have hnd : ((s.obs x).map (·.1)).Nodup := by rw [obs_ids]; exact ok.nodup
  have fin : ∀ p ∈ s.obs x, (setAll (s.obs x) (fzAll s.fz Γ.h))[p.1]? = some p.2 := fun p hp => setAll_in _ _ _ _ hnd hp (by rw [fzAll_len]; exact obs_lt ok x p hp)
  have fout : ∀ id, id ∉ s.ids → (setAll (s.obs x) (fzAll s.fz Γ.h))[id]? = (fzAll s.fz Γ.h)[id]? := fun id h => setAll_out _ _ _ (by rw [obs_ids]; exact h)
  generalize hH2 : setAll (s.obs x) (fzAll s.fz Γ.h) = H2 at *
  have hlen : H2.length = Γ.h.length := by rw [← hH2, setAll_len, fzAll_len]
  have hm1 := hmid.fz (s.rds Γ' vs)
  have hobj := hmid.objAt (s.rds Γ' vs)
  have hat := Ext.at w' g' Γ'.h (s.rds Γ' vs)
  generalize hg1 : g'.fz Γ'.h (s.rds Γ' vs) = g1 at *
  have g1bl : g1.bl = g'.bl := by rw [← hg1]; rfl
  have g1rv : g1.rv = g'.rv := by rw [← hg1]; rfl
  have hSn : ((s.src Γ' vs).map (·.1)).Nodup := (src_keys ex).nodup ok.nodup
  have hSin : ∀ i ∈ (s.src Γ' vs).map (·.1), i ∈ s.ids := fun i hi => (src_keys ex).subset hi
  -- an object that is told as a variable, or as a row in its place, has no entry
  have hboxno : ∀ i t cs fz, H2[i]? = some (.box t cs fz) → i ∉ (s.src Γ' vs).map (·.1) := by
    intro i t cs fz h hk
    obtain ⟨e, k, l, ver, fz', h1⟩ := key_row ex i hk
    rw [fin _ h1] at h
    cases h
  have hM : Told w' g1 Γ'.h (g1.told (s.src Γ' vs)) H2 (s.src Γ' vs) (s.obs x) := by
    refine ⟨hobj, rfl, fun id j h => ?_, fun id h => ?_, fin⟩
    · have := look_in hSn h
      simp [Gh.told, this]
    · have := look_in hSn h
      simp [Gh.told, this]
  have hfull : Full g1 Γ'.h (s.rds Γ' vs) := by rw [← hg1]; exact Full.fz' g' Γ'.h _
  -- what becomes of the objects
  have hb : Became g g' Γ.h Γ'.h (g1.told (s.src Γ' vs)) H2 := by
    constructor
    · intro id e k l ver fz h0
      by_cases hin : id ∈ s.ids
      · have hin' := hin
        rw [← obs_ids s x] at hin'
        obtain ⟨ob, hob⟩ := mem_ids hin'
        have h2 := fin _ hob
        rcases obs_was ok x _ hob with h1 | ⟨r, hr, l1, h1⟩
        · cases ob with
          | no => rw [show Γ.h[id]? = some .no from h1] at h0; cases h0
          | box t cs fz' =>
            rcases h1 with h1 | ⟨_, _, h1⟩ <;> (dsimp only at h1; rw [h1] at h0; cases h0)
          | row e2 k2 l2 ver2 fz2 =>
            rcases h1 with h1 | ⟨e3, k3, l3, ver3, fz3, h1, h3⟩
            · dsimp only at h1; rw [h1] at h0; cases h0
            · dsimp only at h1
              rw [h0] at h1
              injection h1 with h1
              injection h1 with _ _ _ h1 _
              exact ⟨e2, k2, l2, ver2, fz2, h2, .inr (by omega)⟩
        · injection h1 with h1 h4
          subst h1 h4
          obtain ⟨l4, fz4, h5⟩ := okR_mem ok.r hr
          rw [h0] at h5
          injection h5 with h5
          injection h5 with d1 d2 d3 d4 d5
          subst d1 d2 d4
          -- told in its place
          have hr' : ∃ l' fz', Γ'.h[r.id]? = some (.row r.e r.k l' r.ver fz') ∧ l' = l1 := by
            rcases obs_from ex _ hob with hf | hf | hf | hf
            · obtain ⟨e6, k6, l6, ver6, fz6, h6, h7⟩ := hf
              exfalso
              have hk := r_nokey ok ex r.id (idR_mem hr)
              rcases h7 with ⟨h7, _⟩ | ⟨j, _, _, h7, _⟩ <;> exact hk (List.mem_map_of_mem (f := (·.1)) h7)
            · obtain ⟨b, _, cs, fz', y, h6, _⟩ := hf
              injection h6 with _ h6
              cases h6
            · obtain ⟨r6, hr6, l6, fz6, h6, h7, _⟩ := hf
              injection h6 with h6 h8
              injection h8 with d1 d2 d3 d4 d5
              rw [← h6] at h7
              rw [h7, ← d1, ← d4]
              generalize r6.k = k6 at *
              subst d2
              exact ⟨l6, fz6, rfl, (eq_of_heq d3).symm⟩
            · cases hf
          obtain ⟨l', fz', h6, rfl⟩ := hr'
          obtain ⟨o', ho', e7, k7, l7, ver7, fz7, rfl, h7⟩ := hext.later _ _ h0
          rw [h6] at ho'
          cases ho'
          rcases h7 with ⟨_, _, h8, h9, h10⟩ | h7
          · obtain ⟨n1, n2, _⟩ := nokey (g1 := g1) (r_nokey ok ex r.id (idR_mem hr))
            exact ⟨r.e, r.k, l', r.ver, r.fz, h2, .inl ⟨rfl, rfl, h8, by rw [n2, g1rv], by rw [n1, g1bl], h9, h10, r.e, l', fz', h6, h8⟩⟩
          · omega
      · have hko := hkept id hin
        have h2 := fout id hin
        have h3 := fzAll_some (ids := s.fz) h0
        have hk : id ∉ (s.src Γ' vs).map (·.1) := fun hh => hin (hSin id hh)
        obtain ⟨n1, n2, _⟩ := nokey (g1 := g1) hk
        have h' : ∃ fz', Γ'.h[id]? = some (.row e k l ver fz') := by
          rcases hko with hko | ⟨_, hko⟩
          · exact ⟨fz, by rw [hko, h0]⟩
          · exact ⟨true, by rw [hko, h0]; rfl⟩
        obtain ⟨fz', h'⟩ := h'
        obtain ⟨o', ho', e7, k7, l7, ver7, fz7, rfl, h7⟩ := hext.later _ _ h0
        rw [h'] at ho'
        cases ho'
        rcases h7 with ⟨_, _, h8, h9, h10⟩ | h7
        · refine ⟨e, k, l, ver, (if id ∈ s.fz then true else fz), ?_, .inl ⟨rfl, rfl, rfl, by rw [n2, g1rv], by rw [n1, g1bl], h9, h10, e, l, fz', h', rfl⟩⟩
          rw [h2, h3]
          split <;> rfl
        · omega
    · intro id t cs fz h0
      obtain ⟨o', ho', ⟨cs', fz', rfl⟩, hbl⟩ := hext.later _ _ h0
      have hH : ∃ cs2 fz2, H2[id]? = some (.box t cs2 fz2) := by
        by_cases hin : id ∈ s.ids
        · have hin' := hin
          rw [← obs_ids s x] at hin'
          obtain ⟨ob, hob⟩ := mem_ids hin'
          have h2 := fin _ hob
          rcases obs_was ok x _ hob with h1 | ⟨r, hr, l1, h1⟩
          · cases ob with
            | no => rw [show Γ.h[id]? = some .no from h1] at h0; cases h0
            | box t' cs2 fz2 =>
              rcases h1 with h1 | ⟨_, _, h1⟩
              · dsimp only at h1; rw [h1] at h0; cases h0
              · dsimp only at h1
                rw [h1] at h0
                cases h0
                exact ⟨_, _, h2⟩
            | row e2 k2 l2 ver2 fz2 =>
              rcases h1 with h1 | ⟨e3, k3, l3, ver3, fz3, h1, h3⟩ <;> (dsimp only at h1; rw [h1] at h0; cases h0)
          · injection h1 with h1 h4
            subst h1 h4
            obtain ⟨l4, fz4, h5⟩ := okR_mem ok.r hr
            rw [h0] at h5
            cases h5
        · rw [fout id hin, fzAll_some h0]
          split
          · exact ⟨cs, true, rfl⟩
          · exact ⟨cs, fz, rfl⟩
      obtain ⟨cs2, fz2, h2⟩ := hH
      obtain ⟨n1, _, _⟩ := nokey (g1 := g1) (hboxno id t cs2 fz2 h2)
      exact ⟨⟨cs2, fz2, h2⟩, by rw [n1, g1bl], hbl⟩
  have hst1 : ∀ b o, g'.St b o → g1.St b o := fun b o h => by rw [← hg1]; exact .inl h
  have hvr := hb.vr (w := w) (w' := w') (g2 := g1.told (s.src Γ' vs)) hst1
  -- pointers that are told
  have hptr : ∀ c, okS Γ.h (bIds s.b) s.ids c = true → PtrS g1 Γ'.h (g1.told (s.src Γ' vs)) H2 c := by
    intro c hc
    cases c with
    | ptr id off =>
      simp only [okS, Bool.or_eq_true, Bool.and_eq_true, Bool.not_eq_true'] at hc
      have hH : ∃ t cs fz, H2[id]? = some (.box t cs fz) := by
        rcases hc with hc | ⟨hc, h1⟩
        · obtain ⟨b, hb1, rfl⟩ := bIds_of (List.contains_iff_mem.1 hc)
          obtain ⟨cs, h1⟩ := obB_box x.2.1 hb1
          exact ⟨_, _, _, fin (b.id, _) (by simp only [Shape.obs, List.mem_append]; exact .inr (.inl h1))⟩
        · have hin : id ∉ s.ids := fun hh => by rw [List.contains_iff_mem.2 hh] at hc; cases hc
          split at h1
          · rename_i h2
            rw [fout id hin, fzAll_some h2]
            split <;> exact ⟨_, _, _, rfl⟩
          · cases h1
      obtain ⟨t, cs, fz, h2⟩ := hH
      exact ⟨⟨t, cs, fz, h2⟩, (nokey (hboxno id t cs fz h2)).1⟩
    | ref id ver =>
      simp only [okS, Bool.and_eq_true, Bool.not_eq_true'] at hc
      obtain ⟨hc, h1⟩ := hc
      have hin : id ∉ s.ids := fun hh => by rw [List.contains_iff_mem.2 hh] at hc; cases hc
      split at h1
      · rename_i h2
        simp only [beq_iff_eq] at h1
        subst h1
        have h3 := fout id hin
        rw [fzAll_some h2] at h3
        rename_i e k l ver fz
        have hH : ∃ fz, H2[id]? = some (.row e k l ver fz) := by
          split at h3
          · exact ⟨_, h3⟩
          · exact ⟨_, h3⟩
        obtain ⟨fz, h4⟩ := hH
        exact ⟨e, k, l, fz, h4, (nokey (fun hh => hin (hSin id hh))).2.1⟩
      · cases h1
    | _ => trivial
  refine ⟨?_, hb, hst1, ?_⟩
  · refine hm1.corr (srcOf (s.src Γ' vs)) rfl ?_ ?_ ?_
    · intro id t cs fz h2
      have hno := hboxno id t cs fz h2
      obtain ⟨n1, n2, n3⟩ := nokey (g1 := g1) hno
      rw [n3]
      by_cases hin : id ∈ s.ids
      · rw [← obs_ids s x] at hin
        obtain ⟨ob, hob⟩ := mem_ids hin
        have h3 := fin _ hob
        rw [h2] at h3
        injection h3 with h3
        dsimp only at h3
        subst h3
        rcases obs_from ex _ hob with hf | hf | hf | hf
        · obtain ⟨_, _, _, _, _, h6, _⟩ := hf
          cases h6
        · obtain ⟨b, hbm, cs0, fz0, y, h4, h5, h6, h7, h8, h9, h10⟩ := hf
          injection h4 with h4 h11
          injection h11 with e1 e2 e3
          subst h4 e1 e2 e3
          have hnr : b.id ∉ s.rds Γ' vs := fun hh => ex.hot _ hh (by simp [bIds_mem hbm])
          refine ⟨cs0, fz0, ?_, n1, h6, fun us hw _ => ?_⟩
          · rw [fzAll_some h5, if_neg hnr]
          · obtain ⟨us', h12, h13⟩ := hobj _ _ h5
            rw [h12] at hw
            injection hw with hw
            injection hw with hw _ _
            subst hw
            have h14 := All2.toAV h13
            exact All2.one' (outL_ok hM h14.1 h7 (hfull.mono h9) h8 h10 (fun c hc => hptr c ((okB_mem ok.b hbm).1 c hc))) h14.2
        · obtain ⟨r6, hr6, l6, fz6, h6, _⟩ := hf
          injection h6 with _ h6
          cases h6
        · cases hf
      · have h3 := fout id hin
        rw [h2] at h3
        obtain ⟨fz0, h4, h5, h6⟩ := fzAll_box h3.symm
        have h7 : ∃ fz', Γ'.h[id]? = some (.box t cs fz') ∧ (fz' = true → fz = true) := by
          rcases hkept id hin with hko | ⟨hlf, hko⟩
          · exact ⟨fz0, by rw [hko, h4], h5⟩
          · refine ⟨true, by rw [hko, h4]; rfl, fun _ => h6 ?_⟩
            have := ex.reads id (by simp [hlf])
            rcases List.mem_append.1 this with h | h
            · exact h
            · exact absurd h hin
        obtain ⟨fz', h7, h8⟩ := h7
        obtain ⟨us0, _, q1⟩ := hpre.obj _ _ h4
        obtain ⟨us, q2, q3⟩ := hmid.obj _ _ h7
        have q4 : All2 (VC w' (g1.told (s.src Γ' vs)) H2) cs us.toList := by
          refine All2.of_get q3.length fun i c v hc hv => ?_
          obtain ⟨v0, _, r1⟩ := q1.get i c hc
          obtain ⟨v1, r2, r3⟩ := q3.get i c hc
          rw [hv] at r2
          injection r2 with r2
          subst r2
          exact ⟨hvr c v0 v r1.1 r3.1, r3.2⟩
        refine ⟨cs, (if id ∈ s.rds Γ' vs then true else fz'), ?_, n1, fun hf => ?_, fun us' hw _ => ?_⟩
        · rw [fzAll_some h7]
          split <;> rfl
        · split at hf
          · rename_i hr
            refine h6 ?_
            have := ex.reads id (by simp only [Shape.rds] at hr; simp only [List.mem_append] at hr ⊢; exact .inl hr)
            rcases List.mem_append.1 this with h | h
            · exact h
            · exact absurd h hin
          · exact h8 hf
        · rw [g1bl] at hw
          rw [q2] at hw
          injection hw with hw
          injection hw with hw _ _
          subst hw
          exact q4
    · intro id e k l ver fz h2
      by_cases hin : id ∈ s.ids
      · rw [← obs_ids s x] at hin
        obtain ⟨ob, hob⟩ := mem_ids hin
        have h3 := fin _ hob
        rw [h2] at h3
        injection h3 with h3
        dsimp only at h3
        subst h3
        rcases obs_from ex _ hob with hf | hf | hf | hf
        · obtain ⟨e6, k6, l6, ver6, fz6, h6, h7⟩ := hf
          dsimp only at h6 h7
          cases h6
          rcases h7 with ⟨h7, h8⟩ | ⟨j, ver', fz', h7, h8, h9, h10⟩
          · exact .inl ⟨hM.nil id h7, h8⟩
          · right
            obtain ⟨m1, m2⟩ := hM.src id j h7
            have hsrc : srcOf (s.src Γ' vs) id = j := by simp [srcOf, look_in hSn h7]
            rw [hsrc]
            refine ⟨ver', (if j ∈ s.rds Γ' vs then true else fz'), ?_, m2, m1, fun hf => ?_⟩
            · rw [fzAll_some h8]
              split <;> rfl
            · split at hf
              · rename_i hr
                cases hfz : fz with
                | true => rfl
                | false => exact absurd (by simp only [List.mem_append]; exact .inl (.inl (List.mem_append.1 (h10 hfz)))) (ex.hot j hr)
              · exact h9 hf
        · obtain ⟨b, hbm, cs0, fz0, y, h4, _⟩ := hf
          injection h4 with _ h4
          cases h4
        · obtain ⟨r, hr, l6, fz6, h6, h7, h8, h9⟩ := hf
          injection h6 with h6 h10
          subst h6
          cases h10
          have hno := r_nokey ok ex r.id (idR_mem hr)
          obtain ⟨n1, n2, n3⟩ := nokey (g1 := g1) hno
          right
          rw [n3]
          refine ⟨r.ver, (if r.id ∈ s.rds Γ' vs then true else fz6), ?_, n1, n2, fun hf => ?_⟩
          · rw [fzAll_some h7]
            split <;> rfl
          · split at hf
            · rename_i hrd
              cases hfz : r.fz with
              | true => rfl
              | false => exact absurd (by simp [h9 hfz]) (ex.hot r.id hrd)
            · exact h8 hf
        · cases hf
      · have h3 := fout id hin
        rw [h2] at h3
        obtain ⟨fz0, h4, h5, h6⟩ := fzAll_row h3.symm
        have hno : id ∉ (s.src Γ' vs).map (·.1) := fun hh => hin (hSin id hh)
        obtain ⟨n1, n2, n3⟩ := nokey (g1 := g1) hno
        have h7 : ∃ fz', Γ'.h[id]? = some (.row e k l ver fz') ∧ (fz' = true → fz = true) := by
          rcases hkept id hin with hko | ⟨hlf, hko⟩
          · exact ⟨fz0, by rw [hko, h4], h5⟩
          · refine ⟨true, by rw [hko, h4]; rfl, fun _ => h6 ?_⟩
            have := ex.reads id (by simp [hlf])
            rcases List.mem_append.1 this with h | h
            · exact h
            · exact absurd h hin
        obtain ⟨fz', h7, h8⟩ := h7
        right
        rw [n3]
        refine ⟨ver, (if id ∈ s.rds Γ' vs then true else fz'), ?_, n1, n2, fun hf => ?_⟩
        · rw [fzAll_some h7]
          split <;> rfl
        · split at hf
          · rename_i hr
            refine h6 ?_
            have := ex.reads id (by simp only [Shape.rds] at hr; simp only [List.mem_append] at hr ⊢; exact .inl hr)
            rcases List.mem_append.1 this with h | h
            · exact h
            · exact absurd h hin
          · exact h8 hf
    · -- no two from the same
      have hsome : ∀ i a, look (s.src Γ' vs) i = some (some a) → a ∈ s.ids ∧ a ∉ idR s.r ∧ ∃ e k l ver fz, Γ'.h[a]? = some (.row e k l ver fz) := by
        intro i a hl
        have hm := look_some hl
        have hm' : a ∈ somes (srcL s.ts vs ++ srcB Γ'.h s.b) := by
          refine somes_mem (i := i) ?_
          simp only [Shape.src, List.mem_append, List.mem_map] at hm ⊢
          rcases hm with h | h | ⟨d, _, h⟩
          · exact .inl h
          · exact .inr h
          · injection h with _ h; cases h
        refine ⟨ex.srcs a hm', ex.place a hm', ?_⟩
        obtain ⟨e, k, l, ver, fz, h1⟩ := key_row ex i (List.mem_map_of_mem (f := (·.1)) hm)
        rcases obs_from ex _ h1 with hf | hf | hf | hf
        · obtain ⟨e6, k6, l6, ver6, fz6, h6, h7⟩ := hf
          dsimp only at h6 h7
          rcases h7 with ⟨h7, h8⟩ | ⟨j, ver', fz', h7, h8, _⟩
          · have := look_in hSn h7
            rw [hl] at this
            cases this
          · have := look_in hSn h7
            rw [hl] at this
            injection this with this
            injection this with this
            subst this
            exact ⟨_, _, _, _, _, h8⟩
        · obtain ⟨b, hbm, cs0, fz0, y, h4, _⟩ := hf
          injection h4 with _ h4
          cases h4
        · obtain ⟨r, hr, l6, fz6, h6, _⟩ := hf
          injection h6 with h6 _
          exact absurd (List.mem_map_of_mem (f := (·.1)) hm) (by rw [h6]; exact r_nokey ok ex r.id (idR_mem hr))
        · cases hf
      have hsn : (somes (s.src Γ' vs)).Nodup := by
        have hdd : ∀ (ds : List SR) (A : List (Nat × Option Nat)), somes (A ++ ds.map fun d => (d.id, (none : Option Nat))) = somes A := by
          intro ds A
          induction A with
          | nil =>
            induction ds with
            | nil => rfl
            | cons d ds ih => simpa [somes] using ih
          | cons a A ih =>
            obtain ⟨i, o⟩ := a
            cases o <;> simp [somes, ih]
        have := hdd s.dd (srcL s.ts vs ++ srcB Γ'.h s.b)
        rw [List.append_assoc] at this
        unfold Shape.src
        rw [this]
        exact ex.nodup
      have hnone : ∀ i, Live (g1.told (s.src Γ' vs)) H2 i → look (s.src Γ' vs) i ≠ some none := by
        intro i hi hl
        obtain ⟨e, k, l, ver, fz, h1⟩ := key_row ex i (List.mem_map_of_mem (f := (·.1)) (look_some hl))
        have h2 := fin _ h1
        rcases hi with ⟨t, cs, fz', h3⟩ | ⟨_, _, _, _, _, h3, h4⟩
        · rw [h2] at h3; cases h3
        · exact h4 (by simp [Gh.told, hl])
      -- a source is no object that stands for itself
      have hclash : ∀ i j a, Live (g1.told (s.src Γ' vs)) H2 j → look (s.src Γ' vs) i = some (some a) → look (s.src Γ' vs) j = none → a ≠ j := by
        intro i j a hj hl hlj haj
        subst haj
        obtain ⟨h1, h2, e, k, l, ver, fz, h3⟩ := hsome i a hl
        rw [← obs_ids s x] at h1
        obtain ⟨ob, hob⟩ := mem_ids h1
        rcases obs_from ex _ hob with hf | hf | hf | hf
        · obtain ⟨e6, k6, l6, ver6, fz6, h6, h7⟩ := hf
          rcases h7 with ⟨h7, _⟩ | ⟨_, _, _, h7, _⟩ <;> (have := look_in hSn h7; rw [hlj] at this; cases this)
        · obtain ⟨b, hbm, cs0, fz0, y, h4, h5, _⟩ := hf
          injection h4 with h4 _
          rw [← h4, h3] at h5
          cases h5
        · obtain ⟨r, hr, l6, fz6, h6, _⟩ := hf
          injection h6 with h6 _
          exact h2 (by rw [h6]; exact idR_mem hr)
        · have h4 := fin _ hob
          rw [hf] at h4
          rcases hj with ⟨t, cs, fz', h5⟩ | ⟨_, _, _, _, _, h5, _⟩ <;> (dsimp only at h4; rw [h4] at h5; cases h5)
      intro i j hi hj he
      unfold srcOf at he
      cases hli : look (s.src Γ' vs) i with
      | none =>
        cases hlj : look (s.src Γ' vs) j with
        | none => rw [hli, hlj] at he; exact he
        | some o =>
          cases o with
          | none => exact absurd hlj (hnone j hj)
          | some b => rw [hli, hlj] at he; exact absurd he.symm (hclash j i b hi hlj hli)
      | some o =>
        cases o with
        | none => exact absurd hli (hnone i hi)
        | some a =>
          cases hlj : look (s.src Γ' vs) j with
          | none => rw [hli, hlj] at he; exact absurd he (hclash i j a hj hli hlj)
          | some o =>
            cases o with
            | none => exact absurd hlj (hnone j hj)
            | some b =>
              rw [hli, hlj] at he
              dsimp only at he
              subst he
              exact somes_inj hsn (look_some hli) (look_some hlj)
  · intro us hu
    have h1 : All2 (AVR w' g1 Γ'.h) vs us := hu.mono fun _ _ h => h.ext hat
    exact outL_ok hM h1 ex.xt (hfull.mono fun _ h => by simp [Shape.rds, h]) (fun p hp => by simp [Shape.src, hp]) (fun p hp => by simp [Shape.obs, hp]) (fun c hc => hptr c (ok.ts c hc))
end
end Go.Vm
