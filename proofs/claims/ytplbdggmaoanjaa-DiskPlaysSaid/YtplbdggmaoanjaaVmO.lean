/- A small evaluator for the translated code, and the proof that what it computes the code does. -/
import Derived.Test.YtplbdggmaoanjaaVmN
/-! Soundness, part 12: where ways meet: the objects. -/
namespace Go.Vm
open Go.RowKit

/-- Objects under other numbers: each comes from one that was right, no two live ones from the same. -/
theorem Inv.corr {C : Ctx} {w : World} {g1 g2 : Gh} {H1 H2 : List Obj} (h : Inv C w g1 H1) (src : Nat → Nat) (hst : g2.St = g1.St)
    (hbox : ∀ id t cs fz, H2[id]? = some (.box t cs fz) → ∃ cs' fz', H1[src id]? = some (.box t cs' fz') ∧ g2.bl id = g1.bl (src id) ∧ (fz' = true → fz = true) ∧
      ∀ vs, w.heap[g1.bl (src id)]? = some (.cells vs t (0, 0)) → All2 (VC w g1 H1) cs' vs.toList → All2 (VC w g2 H2) cs vs.toList)
    (hrow : ∀ id e k l ver fz, H2[id]? = some (.row e k l ver fz) → (g2.rv id = nilSlice ∧ l = []) ∨
      ∃ ver' fz', H1[src id]? = some (.row e k l ver' fz') ∧ g2.bl id = g1.bl (src id) ∧ g2.rv id = g1.rv (src id) ∧ (fz' = true → fz = true))
    (hinj : ∀ i j, Live g2 H2 i → Live g2 H2 j → src i = src j → i = j) : Inv C w g2 H2 := by
  have hlive : ∀ i, Live g2 H2 i → Live g1 H1 (src i) ∧ g2.bl i = g1.bl (src i) := by
    rintro i (⟨t, cs, fz, h1⟩ | ⟨e, k, l, ver, fz, h1, h2⟩)
    · obtain ⟨cs', fz', h3, h4, _⟩ := hbox i t cs fz h1
      exact ⟨.inl ⟨t, cs', fz', h3⟩, h4⟩
    · rcases hrow i e k l ver fz h1 with ⟨h3, _⟩ | ⟨ver', fz', h3, h4, h5, _⟩
      · exact absurd h3 h2
      · exact ⟨.inr ⟨e, k, l, ver', fz', h3, by rw [← h5]; exact h2⟩, h4⟩
  refine ⟨h.below, fun b o hs => by rw [hst]; exact h.sub b o hs, fun b o hs => h.old b o (by rw [← hst]; exact hs), fun b o hs => h.lt b o (by rw [← hst]; exact hs), ?_, ?_, ?_, ?_, ?_⟩
  · intro id ob hob
    cases ob with
    | no => trivial
    | box t cs fz =>
      obtain ⟨cs', fz', h3, h4, h5, h6⟩ := hbox id t cs fz hob
      obtain ⟨vs, h7, h8⟩ := h.obj _ _ h3
      exact ⟨vs, by rw [h4]; exact h7, h6 vs h7 h8⟩
    | row e k l ver fz =>
      rcases hrow id e k l ver fz hob with ⟨h3, h4⟩ | ⟨ver', fz', h3, h4, h5, h6⟩
      · exact .inl ⟨h3, h4⟩
      · have := h.obj _ _ h3
        show RowOk w g2.St (g2.rv id) (g2.bl id) e k l
        rw [hst, h4, h5]
        exact this
  · intro id hl
    obtain ⟨h1, h2⟩ := hlive id hl
    rw [h2]
    exact h.new _ h1
  · intro i j hi hj he
    obtain ⟨h1, h2⟩ := hlive i hi
    obtain ⟨h3, h4⟩ := hlive j hj
    rw [h2, h4] at he
    exact hinj i j hi hj (h.apart _ _ h1 h3 he)
  · intro id t cs fz hob o hs
    obtain ⟨cs', fz', h3, h4, h5, _⟩ := hbox id t cs fz hob
    rw [hst, h4] at hs
    exact h5 (h.box _ t cs' fz' h3 o hs)
  · intro id e k l ver fz hob hn o hs
    rcases hrow id e k l ver fz hob with ⟨h3, _⟩ | ⟨ver', fz', h3, h4, h5, h6⟩
    · exact absurd h3 hn
    · rw [hst, h4] at hs
      have := h.row _ e k l ver' fz' h3 (by rw [← h5]; exact hn) o hs
      exact ⟨h6 this.1, this.2⟩

section
variable {H : List Obj}

/-- A told variable and what it was. -/
def BoxFrom (H : List Obj) (bs : List SB) (S : List (Nat × Option Nat)) (R : List Nat) (L : List (Nat × Obj)) (p : Nat × Obj) : Prop :=
  ∃ b ∈ bs, ∃ cs fz', ∃ y : (kdL b.cs).T, p = (b.id, .box b.t ((outL b.cs y).map AV.one) b.fz) ∧ H[b.id]? = some (.box b.t cs fz') ∧ (fz' = true → b.fz = true) ∧ exL H b.cs (cs.map AV.c) = some y ∧
    (∀ q ∈ srcL b.cs (cs.map AV.c), q ∈ S) ∧ (∀ q ∈ readL b.cs (cs.map AV.c), q ∈ R) ∧ (∀ q ∈ obL b.cs y, q ∈ L)
theorem BoxFrom.mono {bs bs' : List SB} {S S' : List (Nat × Option Nat)} {R R' : List Nat} {L L' : List (Nat × Obj)} {p : Nat × Obj} (h : BoxFrom H bs S R L p) (h0 : ∀ x ∈ bs, x ∈ bs') (h1 : ∀ x ∈ S, x ∈ S') (h2 : ∀ x ∈ R, x ∈ R') (h3 : ∀ x ∈ L, x ∈ L') :
    BoxFrom H bs' S' R' L' p := by
  obtain ⟨b, hb, cs, fz', y, a1, a2, a3, a4, a5, a6, a7⟩ := h
  exact ⟨b, h0 b hb, cs, fz', y, a1, a2, a3, a4, fun q hq => h1 q (a5 q hq), fun q hq => h2 q (a6 q hq), fun q hq => h3 q (a7 q hq)⟩

theorem exB_obs : ∀ {bs : List SB} {x : (kdB bs).T}, exB H bs = some x → ∀ p ∈ obB bs x, RowFrom H (srcB H bs) (hotB H bs) p ∨ BoxFrom H bs (srcB H bs) (readB H bs) (obB bs x) p
  | [], _, _ => fun p hp => by simp [obB] at hp
  | b :: bs, x, h => by
    simp only [exB] at h
    split at h
    · rename_i t cs fz hob
      split at h
      · rename_i hc
        obtain ⟨rfl, hfz⟩ := hc
        split at h
        · rename_i x1 h1
          split at h
          · rename_i y h2
            injection h with h
            subst h
            have e1 : srcB H (b :: bs) = srcL b.cs (cs.map AV.c) ++ srcB H bs := by simp only [srcB, hob]
            have e2 : hotB H (b :: bs) = hotL b.cs (cs.map AV.c) ++ hotB H bs := by simp only [hotB, hob]
            have e3 : readB H (b :: bs) = readL b.cs (cs.map AV.c) ++ readB H bs := by simp only [readB, hob]
            rw [e1, e2, e3]
            intro p hp
            simp only [obB, List.mem_cons, List.mem_append, List.cons_append] at hp
            rcases hp with hp | hp | hp
            · refine .inr ⟨b, List.mem_cons_self, cs, fz, x1, hp, hob, fun hf => ?_, h1, fun q hq => by simp [hq], fun q hq => by simp [hq], fun q hq => by simp [obB, hq]⟩
              rcases hfz with hfz | hfz
              · exact hfz
              · rw [hfz] at hf; cases hf
            · exact .inl ((exL_rows h1 p hp).mono (fun _ hx => by simp [hx]) (fun _ hx => by simp [hx]))
            · rcases exB_obs h2 p hp with hp | hp
              · exact .inl (hp.mono (fun _ hx => by simp [hx]) (fun _ hx => by simp [hx]))
              · exact .inr (hp.mono (fun _ hx => List.mem_cons_of_mem _ hx) (fun _ hx => by simp [hx]) (fun _ hx => by simp [hx]) (fun _ hx => by simp [obB, hx]))
          · cases h
        · cases h
      · cases h
    · cases h

theorem srcB_ids : ∀ {bs : List SB} {x : (kdB bs).T}, exB H bs = some x → List.Sublist ((srcB H bs).map (·.1)) (idB bs)
  | [], _, _ => List.Sublist.refl _
  | b :: bs, x, h => by
    simp only [exB] at h
    split at h
    · rename_i t cs fz hob
      split at h
      · split at h
        · rename_i x1 h1
          split at h
          · rename_i y h2
            have e1 : srcB H (b :: bs) = srcL b.cs (cs.map AV.c) ++ srcB H bs := by simp only [srcB, hob]
            rw [e1, List.map_append, srcL_ids h1]
            exact (List.Sublist.append (List.Sublist.refl _) (srcB_ids h2)).cons _
          · cases h
        · cases h
      · cases h
    · cases h

theorem exR_obs : ∀ {rs : List SR} {x : (kdR rs).T}, exR H rs = some x → ∀ p ∈ obR rs x, ∃ r ∈ rs, ∃ l : List r.k.T, ∃ fz', p = (r.id, .row r.e r.k l r.ver r.fz) ∧ H[r.id]? = some (.row r.e r.k l r.ver fz') ∧ (fz' = true → r.fz = true) ∧ (r.fz = false → r.id ∈ hotR rs)
  | [], _, _ => fun p hp => by simp [obR] at hp
  | r :: rs, x, h => by
    simp only [exR] at h
    split at h
    · rename_i e k l ver fz hob
      split at h
      · rename_i hc
        obtain ⟨rfl, rfl, hfz⟩ := hc
        split at h
        · rename_i x1 h1
          obtain ⟨hk, rfl⟩ := Kd.castL_some h1
          split at h
          · rename_i y h2
            injection h with h
            subst h
            intro p hp
            simp only [obR, List.mem_cons] at hp
            rcases hp with hp | hp
            · refine ⟨r, List.mem_cons_self, hk ▸ l, fz, hp, ?_, fun hf => ?_, fun hf => ?_⟩
              · rw [hob]
                obtain ⟨rid, rver, re, rk, rfz⟩ := r
                dsimp only at hk
                subst hk
                rfl
              · rcases hfz with hfz | hfz
                · exact hfz
                · rw [hfz] at hf; cases hf
              · simp [hotR, hf]
            · obtain ⟨r', hr', l', fz', a1, a2, a3, a4⟩ := exR_obs h2 p hp
              exact ⟨r', List.mem_cons_of_mem _ hr', l', fz', a1, a2, a3, fun hf => by simp [hotR, a4 hf]⟩
          · cases h
        · cases h
      · cases h
    · cases h

theorem obD_mem : ∀ {ds : List SR} {p : Nat × Obj}, p ∈ obD ds → ∃ d ∈ ds, p = (d.id, .row d.e d.k [] d.ver false)
  | d :: ds, p, h => by
    simp only [obD, List.mem_cons] at h
    rcases h with h | h
    · exact ⟨d, List.mem_cons_self, h⟩
    · obtain ⟨d', h1, h2⟩ := obD_mem h
      exact ⟨d', List.mem_cons_of_mem _ h1, h2⟩
theorem obN_mem : ∀ {l : List Nat} {p : Nat × Obj}, p ∈ obN l → p.1 ∈ l ∧ p.2 = .no
  | d :: ds, p, h => by
    simp only [obN, List.mem_cons] at h
    rcases h with h | h
    · subst h
      exact ⟨List.mem_cons_self, rfl⟩
    · obtain ⟨h1, h2⟩ := obN_mem h
      exact ⟨List.mem_cons_of_mem _ h1, h2⟩

theorem okD_mem : ∀ {ds : List SR} {d : SR}, okD H ds = true → d ∈ ds → H[d.id]? = some .no ∨ ∃ e k l ver fz, H[d.id]? = some (.row e k l ver fz) ∧ ver < d.ver
  | r :: l, d, h, hd => by
    simp only [okD, Bool.and_eq_true] at h
    rcases List.mem_cons.1 hd with rfl | hd
    · have h1 := h.1
      split at h1
      · rename_i h2
        exact .inl h2
      · rename_i e k l ver fz h2
        exact .inr ⟨e, k, l, ver, fz, h2, by simpa using h1⟩
      · cases h1
    · exact okD_mem h.2 hd
theorem okR_mem : ∀ {ds : List SR} {d : SR}, okR H ds = true → d ∈ ds → ∃ l : List d.k.T, ∃ fz, H[d.id]? = some (.row d.e d.k l d.ver fz)
  | r :: l, d, h, hd => by
    simp only [okR, Bool.and_eq_true] at h
    rcases List.mem_cons.1 hd with rfl | hd
    · have h1 := h.1
      split at h1
      · rename_i e k l ver fz h2
        simp only [Bool.and_eq_true, beq_iff_eq] at h1
        obtain ⟨⟨h3, h4⟩, h5⟩ := h1
        split at h5
        · rename_i hk _
          obtain ⟨hk⟩ := hk
          rw [h2, h3, h4]
          generalize d.k = dk at hk
          subst hk
          exact ⟨l, fz, rfl⟩
        · cases h5
      · cases h1
    · exact okR_mem h.2 hd
theorem okB_mem {bs0 ids : List Nat} : ∀ {bs : List SB} {b : SB}, okB H bs0 ids bs = true → b ∈ bs → (∀ s ∈ b.cs, okS H bs0 ids s = true) ∧ (H[b.id]? = some .no ∨ ∃ cs fz, H[b.id]? = some (.box b.t cs fz))
  | r :: l, b, h, hb => by
    simp only [okB, Bool.and_eq_true] at h
    rcases List.mem_cons.1 hb with rfl | hb
    · refine ⟨fun s hs => List.all_eq_true.1 h.1.1 s hs, ?_⟩
      have h1 := h.1.2
      split at h1
      · rename_i h2
        exact .inl h2
      · rename_i t cs fz h2
        simp only [Bool.and_eq_true, beq_iff_eq] at h1
        rw [h2, h1.1]
        exact .inr ⟨cs, fz, rfl⟩
      · cases h1
    · exact okB_mem h.2 hb
theorem okS_row {bs0 ids : List Nat} {s : SS} (h : okS H bs0 ids s = true) (x : s.kd.T) : ∀ p ∈ obS s x, ∃ e k l ver fz, p.2 = .row e k l ver fz ∧ (H[p.1]? = some .no ∨ ∃ e' k' l' ver' fz', H[p.1]? = some (.row e' k' l' ver' fz') ∧ ver' < ver) := by
  intro p hp
  cases s with
  | own id ver e k fz =>
    simp only [obS, List.mem_singleton] at hp
    subst hp
    refine ⟨e, k, x, ver, fz, rfl, ?_⟩
    simp only [okS] at h
    split at h
    · rename_i h2
      exact .inl h2
    · rename_i h2
      exact .inr ⟨_, _, _, _, _, h2, by simpa using h⟩
    · cases h
  | arr id ver e k fz =>
    simp only [obS, List.mem_singleton] at hp
    subst hp
    refine ⟨e, k, x, ver, fz, rfl, ?_⟩
    simp only [okS] at h
    split at h
    · rename_i h2
      exact .inl h2
    · rename_i h2
      exact .inr ⟨_, _, _, _, _, h2, by simpa using h⟩
    · cases h
  | v _ _ => simp [obS] at hp
  | ref _ _ => simp [obS] at hp
  | ptr _ _ => simp [obS] at hp
  | nilp => simp [obS] at hp
  | junk => simp [obS] at hp
theorem okL_row {bs0 ids : List Nat} : ∀ {ss : List SS} (x : (kdL ss).T), (∀ s ∈ ss, okS H bs0 ids s = true) → ∀ p ∈ obL ss x, ∃ e k l ver fz, p.2 = .row e k l ver fz ∧ (H[p.1]? = some .no ∨ ∃ e' k' l' ver' fz', H[p.1]? = some (.row e' k' l' ver' fz') ∧ ver' < ver)
  | [], _, _ => fun p hp => by simp [obL] at hp
  | s :: ss, x, h => fun p hp => by
    simp only [obL, List.mem_append] at hp
    rcases hp with hp | hp
    · exact okS_row (h s List.mem_cons_self) x.1 p hp
    · exact okL_row x.2 (fun s hs => h s (List.mem_cons_of_mem _ hs)) p hp
end
end Go.Vm
