/- A small evaluator for the translated code, and the proof that what it computes the code does. -/
import Derived.Test.YtplbdggmaoanjaaVmO
/-! Soundness, part 13: where ways meet. -/
namespace Go.Vm
open Go.RowKit

theorem fzAll_len : ∀ (ids : List Nat) (H : List Obj), (fzAll ids H).length = H.length
  | [], _ => rfl
  | id :: r, H => by
    simp only [fzAll]
    rw [fzAll_len r]
    unfold fz1
    split <;> simp

theorem mem_ids {α : Type} {L : List (Nat × α)} {i : Nat} (h : i ∈ L.map (·.1)) : ∃ x, (i, x) ∈ L := by
  obtain ⟨⟨j, x⟩, h1, rfl⟩ := List.mem_map.1 h
  exact ⟨x, h1⟩

theorem somes_mem : ∀ {S : List (Nat × Option Nat)} {i j : Nat}, (i, some j) ∈ S → j ∈ somes S
  | (k, some x) :: r, i, j, h => by
    rcases List.mem_cons.1 h with h | h
    · injection h with _ h
      injection h with h
      subst h
      exact List.mem_cons_self
    · exact List.mem_cons_of_mem _ (somes_mem h)
  | (k, none) :: r, i, j, h => by
    rcases List.mem_cons.1 h with h | h
    · injection h with _ h
      cases h
    · exact somes_mem (S := r) h
theorem somes_inj : ∀ {S : List (Nat × Option Nat)} {i k j : Nat}, (somes S).Nodup → (i, some j) ∈ S → (k, some j) ∈ S → i = k
  | (a, some x) :: r, i, k, j, hn, h1, h2 => by
    simp only [somes, List.nodup_cons] at hn
    have h1' := List.mem_cons.1 h1
    have h2' := List.mem_cons.1 h2
    clear h1 h2
    rcases h1' with p1 | p1
    · injection p1 with e1 e2
      injection e2 with e2
      rcases h2' with p2 | p2
      · injection p2 with e3 _
        rw [e1, e3]
      · rw [e2] at p2
        exact absurd (somes_mem p2) hn.1
    · rcases h2' with p2 | p2
      · injection p2 with e1 e2
        injection e2 with e2
        rw [e2] at p1
        exact absurd (somes_mem p1) hn.1
      · exact somes_inj hn.2 p1 p2
  | (a, none) :: r, i, k, j, hn, h1, h2 => by
    have h1' := List.mem_cons.1 h1
    have h2' := List.mem_cons.1 h2
    clear h1 h2
    rcases h1' with p1 | p1
    · injection p1 with _ h; cases h
    · rcases h2' with p2 | p2
      · injection p2 with _ h; cases h
      · exact somes_inj (S := r) hn p1 p2

/-- What 'ext' has looked at. -/
structure ExtOk (s : Shape) (Γ' : G) (vs : List AV) (x : s.kd.T) : Prop where
  gather : ∃ vs0, gather s.ti Γ'.t = some vs0 ∧ flatV s.tl vs0 = some vs
  lg : ∀ i ∈ Γ'.lg, i ∈ s.ids
  reads : ∀ i ∈ readL s.ts vs ++ readB Γ'.h s.b ++ Γ'.lf, i ∈ s.fz ++ s.ids
  hot : ∀ i ∈ readL s.ts vs ++ readB Γ'.h s.b, i ∉ hotL s.ts vs ++ hotB Γ'.h s.b ++ hotR s.r ++ bIds s.b
  nodup : (somes (srcL s.ts vs ++ srcB Γ'.h s.b)).Nodup
  srcs : ∀ i ∈ somes (srcL s.ts vs ++ srcB Γ'.h s.b), i ∈ s.ids
  place : ∀ i ∈ somes (srcL s.ts vs ++ srcB Γ'.h s.b), i ∉ idR s.r
  xt : exL Γ'.h s.ts vs = some x.1
  xb : exB Γ'.h s.b = some x.2.1
  xr : exR Γ'.h s.r = some x.2.2
theorem ext_ok {s : Shape} {Γ' : G} {x : s.kd.T} (h : ext s Γ' = some x) : ∃ vs, ExtOk s Γ' vs x := by
  unfold ext at h
  split at h
  · rename_i vs hg
    have hg : ∃ vs0, Go.Vm.gather s.ti Γ'.t = some vs0 ∧ flatV s.tl vs0 = some vs := by
      split at hg
      · rename_i vs0 h0
        exact ⟨vs0, h0, hg⟩
      · cases hg
    split at h
    · rename_i hc
      simp only [Bool.and_eq_true] at hc
      obtain ⟨⟨⟨⟨⟨c1, c2⟩, c3⟩, c4⟩, c5⟩, c6⟩ := hc
      split at h
      · rename_i x1 h1
        split at h
        · rename_i y h2
          split at h
          · rename_i z h3
            injection h with h
            subst h
            exact ⟨vs, hg, allIn_ok c1, allIn_ok c2, noneIn_ok c3, nodupB_ok c4, allIn_ok c5, noneIn_ok c6, h1, h2, h3⟩
          · cases h
        · cases h
      · cases h
    · cases h
  · cases h

/-- What 'ok' has looked at. -/
structure OkIs (s : Shape) (H : List Obj) : Prop where
  nodup : s.ids.Nodup
  fz : ∀ i ∈ s.fz, i ∉ s.ids
  ts : ∀ c ∈ s.ts, okS H (bIds s.b) s.ids c = true
  b : okB H (bIds s.b) s.ids s.b = true
  r : okR H s.r = true
  dd : okD H s.dd = true
  no : ∀ i ∈ s.no, H[i]? = some .no
theorem ok_is {s : Shape} {Γ : G} (h : s.ok Γ = true) : OkIs s Γ.h := by
  unfold Shape.ok at h
  simp only [Bool.and_eq_true] at h
  obtain ⟨⟨⟨⟨⟨⟨c1, c2⟩, c3⟩, c4⟩, c5⟩, c6⟩, c7⟩ := h
  refine ⟨nodupB_ok c1, noneIn_ok c2, fun c hc => List.all_eq_true.1 c3 c hc, c4, c5, c6, fun i hi => ?_⟩
  have := List.all_eq_true.1 c7 i hi
  unfold isNo at this
  split at this
  · assumption
  · cases this

/-- What a told object was ahead. -/
def WasOk (H0 : List Obj) (id : Nat) : Obj → Prop
  | .no => H0[id]? = some .no
  | .box t _ _ => H0[id]? = some .no ∨ ∃ cs fz, H0[id]? = some (.box t cs fz)
  | .row _ _ _ ver _ => H0[id]? = some .no ∨ ∃ e' k' l' ver' fz', H0[id]? = some (.row e' k' l' ver' fz') ∧ ver' < ver

theorem obB_was {H0 : List Obj} {bs0 ids : List Nat} : ∀ {bs : List SB} (x : (kdB bs).T), okB H0 bs0 ids bs = true → ∀ p ∈ obB bs x, WasOk H0 p.1 p.2
  | [], _, _ => fun p hp => by simp [obB] at hp
  | b :: bs, x, h => fun p hp => by
    have hb := okB_mem h (List.mem_cons_self (a := b) (l := bs))
    simp only [obB, List.mem_cons, List.mem_append, List.cons_append] at hp
    rcases hp with hp | hp | hp
    · subst hp
      exact hb.2
    · obtain ⟨e, k, l, ver, fz, h1, h2⟩ := okL_row x.1 hb.1 p hp
      rw [h1]
      exact h2
    · exact obB_was x.2 (by simp only [okB, Bool.and_eq_true] at h; exact h.2) p hp

/-- All that is told, but the rows that stay in their place. -/
theorem obs_was {s : Shape} {H0 : List Obj} (h : OkIs s H0) (x : s.kd.T) : ∀ p ∈ s.obs x, WasOk H0 p.1 p.2 ∨ ∃ r ∈ s.r, ∃ l : List r.k.T, p = (r.id, .row r.e r.k l r.ver r.fz) := by
  intro p hp
  simp only [Shape.obs, List.mem_append] at hp
  rcases hp with hp | hp | hp | hp | hp
  · obtain ⟨e, k, l, ver, fz, h1, h2⟩ := okL_row x.1 h.ts p hp
    rw [h1]
    exact .inl h2
  · exact .inl (obB_was x.2.1 h.b p hp)
  · right
    have : ∀ (rs : List SR) (z : (kdR rs).T), p ∈ obR rs z → ∃ r ∈ rs, ∃ l : List r.k.T, p = (r.id, .row r.e r.k l r.ver r.fz) := by
      intro rs
      induction rs with
      | nil => intro z hp; simp [obR] at hp
      | cons r rs ih =>
        intro z hp
        simp only [obR, List.mem_cons] at hp
        rcases hp with hp | hp
        · exact ⟨r, List.mem_cons_self, z.1, hp⟩
        · obtain ⟨r', h1, h2⟩ := ih z.2 hp
          exact ⟨r', List.mem_cons_of_mem _ h1, h2⟩
    exact this _ _ hp
  · obtain ⟨d, hd, rfl⟩ := obD_mem hp
    exact .inl (okD_mem h.dd hd)
  · obtain ⟨h1, h2⟩ := obN_mem hp
    rw [h2]
    exact .inl (h.no _ h1)

theorem obs_lt {s : Shape} {H0 : List Obj} (h : OkIs s H0) (x : s.kd.T) : ∀ p ∈ s.obs x, p.1 < H0.length := by
  intro p hp
  have key : ∀ {o : Obj}, H0[p.1]? = some o → p.1 < H0.length := fun h => (List.getElem?_eq_some_iff.1 h).1
  rcases obs_was h x p hp with h1 | ⟨r, hr, l, rfl⟩
  · cases hp2 : p.2 with
    | no => rw [hp2] at h1; exact key h1
    | box t cs fz =>
      rw [hp2] at h1
      rcases h1 with h1 | ⟨_, _, h1⟩ <;> exact key h1
    | row e k l ver fz =>
      rw [hp2] at h1
      rcases h1 with h1 | ⟨_, _, _, _, _, h1, _⟩ <;> exact key h1
  · obtain ⟨l, fz, h1⟩ := okR_mem h.r hr
    exact key h1
end Go.Vm
