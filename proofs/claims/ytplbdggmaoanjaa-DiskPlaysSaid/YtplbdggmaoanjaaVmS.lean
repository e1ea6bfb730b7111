/- A small evaluator for the translated code, and the proof that what it computes the code does. -/
import Derived.Test.YtplbdggmaoanjaaVmR
/-! Soundness, part 16: where ways meet: temporaries. -/
namespace Go.Vm
open Go.RowKit

section
variable {α β : Type} {R : α → β → Prop}
theorem List.set_self' {l : List β} {i : Nat} {b : β} (h : l[i]? = some b) : l.set i b = l := by
  apply List.ext_getElem?
  intro j
  rw [List.getElem?_set]
  split
  · rename_i e
    subst e
    rw [h, if_pos (List.getElem?_eq_some_iff.1 h).1]
  · rfl
end

theorem gather_ok {R : AV → Value → Prop} {t : List AV} {us : List Value} (h : All2 R t us) : ∀ {ti : List Nat} {vs : List AV}, gather ti t = some vs → ∃ uvs, All2 R vs uvs ∧ All2 (fun i u => us[i]? = some u) ti uvs
  | [], vs, hg => by
    injection hg with hg
    subst hg
    exact ⟨[], .nil, .nil⟩
  | i :: r, vs, hg => by
    simp only [gather] at hg
    split at hg
    · rename_i v hv
      split at hg
      · rename_i l hl
        injection hg with hg
        subst hg
        obtain ⟨u, h1, h2⟩ := h.get i v hv
        obtain ⟨uvs, h3, h4⟩ := gather_ok h hl
        exact ⟨u :: uvs, .cons h2 h3, .cons h1 h4⟩
      · cases hg
    · cases hg

theorem scatter_ok {R : AV → Value → Prop} {us : List Value} : ∀ {ti : List Nat} {uvs : List Value} {outs t : List AV}, All2 (fun i u => us[i]? = some u) ti uvs → All2 R outs uvs → All2 R t us → All2 R (scatter ti outs t) us
  | [], _, _, _, .nil, .nil, h => h
  | i :: r, _, _, _, .cons h1 h2, .cons h3 h4, h => by
    simp only [scatter]
    refine scatter_ok h2 h4 ?_
    have := h.set h3 i
    rwa [List.set_self' h1] at this

theorem scatter_len : ∀ (ti : List Nat) (outs t : List AV), (scatter ti outs t).length = t.length
  | [], _, _ => rfl
  | _ :: _, [], _ => rfl
  | i :: r, v :: vs, t => by simp only [scatter]; rw [scatter_len]; simp
theorem scatter_out : ∀ (ti : List Nat) (outs t : List AV) (i : Nat), i ∉ ti → (scatter ti outs t)[i]? = t[i]?
  | [], _, _, _, _ => rfl
  | _ :: _, [], _, _, _ => rfl
  | j :: r, v :: vs, t, i, h => by
    simp only [List.mem_cons, not_or] at h
    simp only [scatter]
    rw [scatter_out r vs _ i h.2, List.getElem?_set, if_neg (fun e => h.1 e.symm)]
theorem junkAt_len : ∀ (D : List Nat) (t : List AV), (junkAt D t).length = t.length
  | [], _ => rfl
  | i :: r, t => by simp only [junkAt]; rw [junkAt_len]; simp
theorem junkAt_out : ∀ (D : List Nat) (t : List AV) (i : Nat), i ∉ D → (junkAt D t)[i]? = t[i]?
  | [], _, _, _ => rfl
  | j :: r, t, i, h => by
    simp only [List.mem_cons, not_or] at h
    simp only [junkAt]
    rw [junkAt_out r _ i h.2, List.getElem?_set, if_neg (fun e => h.1 e.symm)]
theorem junkAt_in : ∀ (D : List Nat) (t : List AV) (i : Nat) (v : AV), i ∈ D → (junkAt D t)[i]? = some v → v = .c .junk
  | j :: r, t, i, v, h, hv => by
    simp only [junkAt] at hv
    by_cases hr : i ∈ r
    · exact junkAt_in r _ i v hr hv
    · rw [junkAt_out r _ i hr] at hv
      rcases List.mem_cons.1 h with rfl | h
      · rw [List.getElem?_set] at hv
        simp only [if_true] at hv
        split at hv
        · injection hv with hv; exact hv.symm
        · cases hv
      · exact absurd h hr

section
variable {C : Ctx} {w w' : World} {g g' g2 : Gh} {H0 H' H2 : List Obj}

theorem AVR.two (hvr : ∀ (c : Cell) (v0 v : Value), VR w g H0 c v0 → VR w' g' H' c v → VR w' g2 H2 c v) {av : AV} {v0 v : Value} (h0 : AVR w g H0 av v0) (h : AVR w' g' H' av v) : AVR w' g2 H2 av v := by
  have cells : ∀ (l : List Cell) (us0 us : List Value), All2 (VC w g H0) l us0 → All2 (VC w' g' H') l us → All2 (VC w' g2 H2) l us := by
    intro l us0 us q1 q3
    refine All2.of_get q3.length fun i c v hc hv => ?_
    obtain ⟨v0, _, r1⟩ := q1.get i c hc
    obtain ⟨v1, r2, r3⟩ := q3.get i c hc
    rw [hv] at r2
    injection r2 with r2
    subst r2
    exact ⟨hvr c v0 v r1.1 r3.1, r3.2⟩
  cases av with
  | c x => exact hvr x v0 v h0 h
  | agg l =>
    obtain ⟨us0, _, q1⟩ := h0
    obtain ⟨us, e2, q3⟩ := h
    exact ⟨us, e2, cells l _ _ q1 q3⟩
  | tup l =>
    obtain ⟨us0, _, q1⟩ := h0
    obtain ⟨us, e2, q3⟩ := h
    refine ⟨us, e2, All2.of_get q3.length fun i p v hc hv => ?_⟩
    obtain ⟨v0, _, r1⟩ := q1.get i p hc
    obtain ⟨v1, r2, r3⟩ := q3.get i p hc
    rw [hv] at r2
    injection r2 with r2
    subst r2
    split at r1
    · rename_i hb
      rw [if_pos hb] at r3 ⊢
      obtain ⟨a0, _, a1⟩ := r1
      obtain ⟨b0, b1, b2⟩ := r3
      exact ⟨b0, b1, cells _ _ _ a1 b2⟩
    · rename_i hb
      rw [if_neg hb] at r3 ⊢
      obtain ⟨a0, a1, a2⟩ := r1
      obtain ⟨b0, b1, b2⟩ := r3
      rw [a1] at b1
      injection b1 with b1
      subst b1
      exact ⟨a0, a1, hvr _ _ _ a2 b2⟩
end

section
variable {w' : World} {g' g2 : Gh} {H' H2 : List Obj}
/-- Cell by cell, and back. -/
theorem flat_ok : ∀ {tl : List SL} {vs0 vs : List AV} {uvs0 : List Value}, All2 (AVR w' g' H') vs0 uvs0 → flatV tl vs0 = some vs →
    ∃ uvs, All2 (AVR w' g' H') vs uvs ∧ ∀ outs, All2 (AVR w' g2 H2) outs uvs → All2 (AVR w' g2 H2) (unflat tl outs) uvs0
  | [], [], vs, _, .nil, h => by
    injection h with h
    subst h
    exact ⟨[], .nil, fun outs _ => .nil⟩
  | [], _ :: _, _, _, _, h => by cases h
  | .one _ :: r, [], _, _, _, h => by cases h
  | .one _ :: r, v :: vs0, vs, _, .cons h1 h2, h => by
    simp only [flatV] at h
    split at h
    · rename_i l hl
      injection h with h
      subst h
      obtain ⟨uvs, k1, k2⟩ := flat_ok h2 hl
      refine ⟨_ :: uvs, .cons h1 k1, fun outs ho => ?_⟩
      cases ho with
      | cons h3 h4 => exact .cons h3 (k2 _ h4)
    · cases h
  | .agg cs :: r, [], _, _, _, h => by cases h
  | .agg cs :: r, .c _ :: _, _, _, _, h => by cases h
  | .agg cs :: r, .tup _ :: _, _, _, _, h => by cases h
  | .agg cs :: r, .agg l :: vs0, vs, _, .cons h1 h2, h => by
    simp only [flatV] at h
    split at h
    · rename_i hlen
      split at h
      · rename_i m hm
        injection h with h
        subst h
        obtain ⟨uvs, k1, k2⟩ := flat_ok h2 hm
        obtain ⟨us, rfl, h3⟩ := h1
        obtain ⟨h4, h5⟩ := All2.toAV h3
        refine ⟨us.toList ++ uvs, h4.append k1, fun outs ho => ?_⟩
        have hl : us.toList.length = cs.length := by rw [← h3.length, hlen]
        have ht := ho.take cs.length
        have hd := ho.drop cs.length
        rw [List.take_left' hl] at ht
        rw [List.drop_left' hl] at hd
        refine .cons ⟨us, rfl, All2.one' ht h5⟩ (k2 _ hd)
      · cases h
    · cases h
end

section
variable {C : Ctx} {w w' : World} {g g' : Gh} {Γ Γ' : G} {a a' : Act} {s : Shape} {x : s.kd.T} {D : List Nat}

/-- A part that is left by another way. -/
theorem Tr.after (htr : Tr D g Γ.fresh w g' Γ' w') (s : Shape) : Tr D g Γ w g' (Γ'.after Γ s) w' := by
  refine ⟨htr.ext, htr.t, htr.tl, fun id hn => ?_, fun id hi => by simp [G.after, hi], fun id hi => by simp [G.after, hi], fun id hn hl => htr.kept id (fun hh => hn (by simp [G.after, hh])) hl⟩
  rcases htr.h id (fun hh => hn (by simp [G.after, hh])) with h | ⟨h1, h2⟩
  · exact .inl h
  · exact .inr ⟨by simp [G.after, h1], h2⟩

theorem join_ok (hpre : Rel C g Γ a w) (hmid : Rel C g' Γ' a' w') (htr : Tr D g Γ.fresh w g' Γ' w') (hok : s.ok Γ = true) (hD : ∀ i ∈ s.ti, i ∈ D) {vs : List AV} (ex : ExtOk s Γ' vs x) :
    ∃ g2, Rel C g2 ((inj s D Γ x).after Γ s) a' w' ∧ Tr D g Γ w g2 ((inj s D Γ x).after Γ s) w' := by
  have ok := ok_is hok
  obtain ⟨h1, h2, h3, h4⟩ := join_objs hpre.inv hmid.inv htr.ext (fun id hid => htr.h id (fun hh => hid (ex.lg id hh))) ok ex
  have hvr := h2.vr (w := w) (w' := w') h3
  refine ⟨joinG g' Γ' s vs, ⟨h1, ?_, hmid.defers⟩, ?_⟩
  · show All2 _ (scatter s.ti (s.outs x) (junkAt D Γ.t)) _
    obtain ⟨vs0, e1, e2⟩ := ex.gather
    obtain ⟨uvs0, k1, k2⟩ := gather_ok hmid.t e1
    obtain ⟨uvs, k3, k4⟩ := flat_ok (g2 := joinG g' Γ' s vs) (H2 := setAll (s.obs x) (fzAll s.fz Γ.h)) k1 e2
    refine scatter_ok k2 (k4 _ (h4 uvs k3)) ?_
    refine All2.of_get (by rw [junkAt_len, ← hmid.t.length]; exact htr.tl.symm) fun i av v hav hv => ?_
    by_cases hi : i ∈ D
    · rw [junkAt_in D _ i av hi hav]
      trivial
    · rw [junkAt_out D _ i hi] at hav
      have hav' : Γ'.t[i]? = some av := (htr.t i hi).trans hav
      obtain ⟨v0, _, r1⟩ := hpre.t.get i av hav
      obtain ⟨v1, r2, r3⟩ := hmid.t.get i av hav'
      rw [hv] at r2
      injection r2 with r2
      subst r2
      exact AVR.two hvr r1 r3
  · refine ⟨h2.ext ⟨fun b o hs => h3 b o (htr.ext.keeps.sub b o hs), htr.ext.keeps.cell⟩ (by show (setAll _ _).length = _; rw [setAll_len, fzAll_len]), fun i hi => ?_, ?_, fun id hn => ?_, fun id hi => by simp [G.after, hi], fun id hi => by simp [G.after, hi], fun id hn hl => htr.kept id (fun hh => hn (by simp [G.after, ex.lg id hh])) hl⟩
    · show (scatter s.ti (s.outs x) (junkAt D Γ.t))[i]? = _
      rw [scatter_out _ _ _ _ (fun hh => hi (hD i hh)), junkAt_out _ _ _ hi]
    · show (scatter s.ti (s.outs x) (junkAt D Γ.t)).length = _
      rw [scatter_len, junkAt_len]
    · show (setAll (s.obs x) (fzAll s.fz Γ.h))[id]? = _ ∨ (_ ∧ (setAll (s.obs x) (fzAll s.fz Γ.h))[id]? = _)
      have hid : id ∉ s.ids := fun hh => hn (by simp [G.after, hh])
      rw [setAll_out _ _ _ (by rw [obs_ids]; exact hid), fzAll_get]
      split
      · rename_i hf
        exact .inr ⟨by simp [G.after, hf], rfl⟩
      · exact .inl rfl
end
end Go.Vm
