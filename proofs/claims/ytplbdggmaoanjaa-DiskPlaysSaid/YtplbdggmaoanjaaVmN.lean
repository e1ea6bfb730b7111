/- A small evaluator for the translated code, and the proof that what it computes the code does. -/
import Derived.Test.YtplbdggmaoanjaaVmM
/-! Soundness, part 11: where ways meet: what is told. -/
namespace Go.Vm
open Go.RowKit

/-! ### Lists -/
theorem nodupB_ok : ∀ {l : List Nat}, nodupB l = true → l.Nodup
  | [], _ => List.nodup_nil
  | a :: r, h => by
    simp only [nodupB, Bool.and_eq_true, Bool.not_eq_true'] at h
    refine List.nodup_cons.2 ⟨fun hm => ?_, nodupB_ok h.2⟩
    have := List.contains_iff_mem.2 hm
    rw [this] at h
    exact absurd h.1 (by simp)
theorem allIn_ok {l m : List Nat} (h : allIn l m = true) : ∀ x ∈ l, x ∈ m := fun x hx => List.contains_iff_mem.1 (List.all_eq_true.1 h x hx)
theorem noneIn_ok {l m : List Nat} (h : noneIn l m = true) : ∀ x ∈ l, x ∉ m := fun x hx hm => by
  have := List.all_eq_true.1 h x hx
  rw [List.contains_iff_mem.2 hm] at this
  cases this

theorem setAll_len : ∀ (L : List (Nat × Obj)) (H : List Obj), (setAll L H).length = H.length
  | [], _ => rfl
  | (i, o) :: r, H => by simp only [setAll]; rw [setAll_len r]; simp
theorem setAll_out : ∀ (L : List (Nat × Obj)) (H : List Obj) (i : Nat), i ∉ L.map (·.1) → (setAll L H)[i]? = H[i]?
  | [], _, _, _ => rfl
  | (j, o) :: r, H, i, h => by
    simp only [List.map_cons, List.mem_cons, not_or] at h
    simp only [setAll]
    rw [setAll_out r _ _ h.2, set_get_ne h.1]
theorem setAll_in : ∀ (L : List (Nat × Obj)) (H : List Obj) (i : Nat) (o : Obj), (L.map (·.1)).Nodup → (i, o) ∈ L → i < H.length → (setAll L H)[i]? = some o
  | [], _, _, _, _, h, _ => by cases h
  | (j, p) :: r, H, i, o, hn, h, hl => by
    simp only [List.map_cons, List.nodup_cons] at hn
    simp only [setAll]
    rcases List.mem_cons.1 h with h | h
    · injection h with h1 h2
      subst h1 h2
      rw [setAll_out r _ _ hn.1]
      exact set_get_eq (List.getElem?_eq_getElem hl)
    · exact setAll_in r _ i o hn.2 h (by simpa using hl)

/-- What a list of pairs says. -/
def look {α : Type} : List (Nat × α) → Nat → Option α
  | [], _ => none
  | (i, x) :: r, j => if i = j then some x else look r j
theorem look_in {α : Type} : ∀ {L : List (Nat × α)} {i : Nat} {x : α}, (L.map (·.1)).Nodup → (i, x) ∈ L → look L i = some x
  | (j, y) :: r, i, x, hn, h => by
    simp only [List.map_cons, List.nodup_cons] at hn
    simp only [look]
    rcases List.mem_cons.1 h with h | h
    · injection h with h1 h2
      subst h1 h2
      rw [if_pos rfl]
    · rw [if_neg (fun e => hn.1 (by subst e; exact List.mem_map_of_mem (f := (·.1)) h))]
      exact look_in hn.2 h
theorem look_out {α : Type} : ∀ {L : List (Nat × α)} {i : Nat}, i ∉ L.map (·.1) → look L i = none
  | [], _, _ => rfl
  | (j, y) :: r, i, h => by
    simp only [List.map_cons, List.mem_cons, not_or] at h
    simp only [look]
    rw [if_neg (fun e => h.1 e.symm)]
    exact look_out h.2
theorem look_some {α : Type} : ∀ {L : List (Nat × α)} {i : Nat} {x : α}, look L i = some x → (i, x) ∈ L
  | (j, y) :: r, i, x, h => by
    simp only [look] at h
    split at h
    · rename_i e
      injection h with h
      subst e h
      exact List.mem_cons_self
    · exact List.mem_cons_of_mem _ (look_some h)

/-! ### Numbers -/
theorem obS_ids (s : SS) (x : s.kd.T) : (obS s x).map (·.1) = idS s := by cases s <;> rfl
theorem obL_ids : ∀ (ss : List SS) (x : (kdL ss).T), (obL ss x).map (·.1) = idL ss
  | [], _ => rfl
  | s :: r, x => by simp only [obL, idL, List.map_append, obS_ids, obL_ids r]
theorem obB_ids : ∀ (bs : List SB) (x : (kdB bs).T), (obB bs x).map (·.1) = idB bs
  | [], _ => rfl
  | b :: r, x => by
    simp only [obB, idB, List.map_append, List.map_cons, List.cons_append, obL_ids, obB_ids r]
theorem obR_ids : ∀ (rs : List SR) (x : (kdR rs).T), (obR rs x).map (·.1) = idR rs
  | [], _ => rfl
  | r :: l, x => by simp only [obR, idR, List.map_cons, obR_ids l]
theorem obD_ids : ∀ (rs : List SR), (obD rs).map (·.1) = idR rs
  | [] => rfl
  | r :: l => by simp only [obD, idR, List.map_cons, obD_ids l]
theorem obN_ids : ∀ (l : List Nat), (obN l).map (·.1) = l
  | [] => rfl
  | r :: l => by simp only [obN, List.map_cons, obN_ids l]
theorem obs_ids (s : Shape) (x : s.kd.T) : (s.obs x).map (·.1) = s.ids := by
  simp only [Shape.obs, Shape.ids, List.map_append, obL_ids, obB_ids, obR_ids, obD_ids, obN_ids]

section
variable {H : List Obj}
theorem exOwn_some {e : TypeId} {k : Kd} {fz : Bool} {c : Cell} {l : List k.T} (h : exOwn H e k fz c = some l) :
    (c = .nils ∧ l = []) ∨ ∃ id ver fz', c = .own id ver ∧ H[id]? = some (.row e k l ver fz') ∧ (fz' = true → fz = true) := by
  unfold exOwn at h
  split at h
  · split at h
    · split at h
      · rename_i hob hc
        obtain ⟨h1, h2, h3⟩ := hc
        obtain ⟨rfl, rfl⟩ := Kd.castL_some h
        subst h1 h2
        refine .inr ⟨_, _, _, rfl, hob, fun hf => ?_⟩
        rcases h3 with h3 | h3
        · exact h3
        · rw [h3] at hf; cases hf
      · cases h
    · cases h
  · injection h with h
    exact .inl ⟨rfl, h.symm⟩
  · cases h
theorem exArr_some {e : TypeId} {k : Kd} {fz : Bool} {c : Cell} {l : List k.T} (h : exArr H e k fz c = some l) :
    ∃ id ver fz', c = .eptr id ver 0 0 ∧ H[id]? = some (.row e k l ver fz') ∧ (fz' = true → fz = true) := by
  unfold exArr at h
  split at h
  · split at h
    · split at h
      · rename_i hob hc
        obtain ⟨h1, h2, h3, h4, h5⟩ := hc
        obtain ⟨rfl, rfl⟩ := Kd.castL_some h
        subst h1 h2 h3 h4
        refine ⟨_, _, _, rfl, hob, fun hf => ?_⟩
        rcases h5 with h5 | h5
        · exact h5
        · rw [h5] at hf; cases hf
      · cases h
    · cases h
  · cases h

theorem srcS_ids {s : SS} {v : AV} {x : s.kd.T} (h : exS H s v = some x) : (srcS s v).map (·.1) = idS s := by
  cases s with
  | own id ver e k fz =>
    simp only [srcS, idS]
    split <;> rfl
  | arr id ver e k fz =>
    simp only [exS] at h
    obtain ⟨id', ver', fz', h1, _⟩ := exArr_some h
    simp only [srcS, idS, h1]
    rfl
  | _ => rfl
theorem srcL_ids : ∀ {ss : List SS} {vs : List AV} {x : (kdL ss).T}, exL H ss vs = some x → (srcL ss vs).map (·.1) = idL ss
  | [], [], _, _ => rfl
  | [], _ :: _, _, h => by simp [exL] at h
  | _ :: _, [], _, h => by simp [exL] at h
  | s :: ss, v :: vs, x, h => by
    simp only [exL] at h
    split at h
    · rename_i x1 h1
      split at h
      · rename_i y h2
        simp only [srcL, idL, List.map_append, srcS_ids h1, srcL_ids h2]
      · cases h
    · cases h
end

/-! ### What is told is so -/
section
variable {H : List Obj}
/-- A told row and where it comes from. -/
def RowFrom (H : List Obj) (src : List (Nat × Option Nat)) (hot : List Nat) (p : Nat × Obj) : Prop :=
  ∃ e k l ver fz, p.2 = .row e k l ver fz ∧ (((p.1, none) ∈ src ∧ l = []) ∨
    ∃ j ver' fz', (p.1, some j) ∈ src ∧ H[j]? = some (.row e k l ver' fz') ∧ (fz' = true → fz = true) ∧ (fz = false → j ∈ hot))
theorem RowFrom.mono {src src' : List (Nat × Option Nat)} {hot hot' : List Nat} {p : Nat × Obj} (h : RowFrom H src hot p) (h1 : ∀ x ∈ src, x ∈ src') (h2 : ∀ x ∈ hot, x ∈ hot') : RowFrom H src' hot' p := by
  obtain ⟨e, k, l, ver, fz, e1, h⟩ := h
  refine ⟨e, k, l, ver, fz, e1, ?_⟩
  rcases h with ⟨a, b⟩ | ⟨j, ver', fz', a, b, c, d⟩
  · exact .inl ⟨h1 _ a, b⟩
  · exact .inr ⟨j, ver', fz', h1 _ a, b, c, fun hf => h2 _ (d hf)⟩

theorem exS_rows {s : SS} {v : AV} {x : s.kd.T} (h : exS H s v = some x) : ∀ p ∈ obS s x, RowFrom H (srcS s v) (hotS s v) p := by
  intro p hp
  cases s with
  | own id ver e k fz =>
    simp only [obS, List.mem_singleton] at hp
    subst hp
    simp only [exS] at h
    refine ⟨e, k, x, ver, fz, rfl, ?_⟩
    rcases exOwn_some h with ⟨h1, h2⟩ | ⟨id', ver', fz', h1, h2, h3⟩
    · exact .inl ⟨by simp [srcS, h1], h2⟩
    · refine .inr ⟨id', ver', fz', by simp [srcS, h1], h2, h3, fun hf => ?_⟩
      subst hf
      simp [hotS, h1, ownIds]
  | arr id ver e k fz =>
    simp only [obS, List.mem_singleton] at hp
    subst hp
    simp only [exS] at h
    obtain ⟨id', ver', fz', h1, h2, h3⟩ := exArr_some h
    refine ⟨e, k, x, ver, fz, rfl, .inr ⟨id', ver', fz', by simp [srcS, h1], h2, h3, fun hf => ?_⟩⟩
    subst hf
    simp [hotS, h1]
  | v _ _ => simp [obS] at hp
  | ref _ _ => simp [obS] at hp
  | ptr _ _ => simp [obS] at hp
  | nilp => simp [obS] at hp
  | junk => simp [obS] at hp

theorem exL_rows : ∀ {ss : List SS} {vs : List AV} {x : (kdL ss).T}, exL H ss vs = some x → ∀ p ∈ obL ss x, RowFrom H (srcL ss vs) (hotL ss vs) p
  | [], [], _, _ => fun p hp => by simp [obL] at hp
  | [], _ :: _, _, h => by simp [exL] at h
  | _ :: _, [], _, h => by simp [exL] at h
  | s :: ss, v :: vs, x, h => by
    simp only [exL] at h
    split at h
    · rename_i x1 h1
      split at h
      · rename_i y h2
        injection h with h
        subst h
        intro p hp
        simp only [obL, List.mem_append] at hp
        rcases hp with hp | hp
        · exact (exS_rows h1 p hp).mono (fun _ hx => by simp [srcL, hx]) (fun _ hx => by simp [hotL, hx])
        · exact (exL_rows h2 p hp).mono (fun _ hx => by simp [srcL, hx]) (fun _ hx => by simp [hotL, hx])
      · cases h
    · cases h
end

section
variable {w : World} {g1 g2 : Gh} {H H2 : List Obj}

/-- What is known of the objects, told anew. -/
structure Told (w : World) (g1 : Gh) (H : List Obj) (g2 : Gh) (H2 : List Obj) (S : List (Nat × Option Nat)) (L : List (Nat × Obj)) : Prop where
  obj : ∀ id ob, H[id]? = some ob → ObjOk w g1 H id ob
  st : g2.St = g1.St
  src : ∀ id j, (id, some j) ∈ S → g2.rv id = g1.rv j ∧ g2.bl id = g1.bl j
  nil : ∀ id, (id, none) ∈ S → g2.rv id = nilSlice
  obs : ∀ p ∈ L, H2[p.1]? = some p.2

/-- The pointers that are told lead to variables, the rows that are named have not been told anew. -/
def PtrS (g1 : Gh) (H : List Obj) (g2 : Gh) (H2 : List Obj) : SS → Prop
  | .ptr id _ => (∃ t cs fz, H2[id]? = some (.box t cs fz)) ∧ g2.bl id = g1.bl id
  | .ref id ver => ∃ e k l fz, H2[id]? = some (.row e k l ver fz) ∧ g2.rv id = g1.rv id
  | _ => True

theorem row_one' (hobj : ∀ id ob, H[id]? = some ob → ObjOk w g1 H id ob) {id : Nat} {e : TypeId} {k : Kd} {l : List k.T} {ver : Nat} {fz : Bool} (h : H[id]? = some (.row e k l ver fz)) : (g1.rv id).oneCell' = true := by
  rcases hobj id _ h with ⟨h1, _⟩ | ⟨cap, cur, h1, _⟩ <;> rw [h1] <;> rfl
theorem known_one' (hobj : ∀ id ob, H[id]? = some ob → ObjOk w g1 H id ob) {c : Cell} {v : Value} (hv : VR w g1 H c v) (hk : c.known H = true) : VC w g1 H c v := by
  refine ⟨hv, ?_⟩
  cases c with
  | own id ver =>
    obtain ⟨e, k, l, ver', fz, h1, _, h3⟩ := hv
    simp only [Cell.known, h1, beq_iff_eq] at hk
    rw [h3 hk]
    exact row_one' hobj h1
  | junk => cases hk
  | undef => cases hk
  | eptr _ _ _ _ => cases hk
  | _ => exact hv.one (by simp) (by simp) (by simp) (by simp)

theorem AVR.one' {av : AV} {v : Value} (h : AVR w g1 H av v) : VR w g1 H av.one v := by
  cases av with
  | c x => exact h
  | agg l => trivial
  | tup l => trivial

theorem outS_ok {src : List (Nat × Option Nat)} {obs : List (Nat × Obj)} (M : Told w g1 H g2 H2 src obs) {s : SS} {av : AV} {v : Value} {x : s.kd.T} (hv : AVR w g1 H av v) (hx : exS H s av = some x)
    (hf : Full g1 H (readS s av)) (hs : ∀ p ∈ srcS s av, p ∈ src) (ho : ∀ p ∈ obS s x, p ∈ obs) (hp : PtrS g1 H g2 H2 s) : AVR w g2 H2 (outS s x) v := by
  have hv1 := AVR.one' hv
  cases s with
  | v agg k =>
    simp only [exS] at hx
    split at hx
    · rename_i cs hcs
      have key : ∀ us, All2 (VC w g1 H) cs us → Full g1 H (ownIds cs) → All2 (VC w g2 H2) (enc k x) us := by
        intro us h1 h2
        have h3 := decAll_ok M.obj h1 hx h2
        rw [← M.st] at h3
        exact enc_ok k x us h3
      cases av with
      | agg l =>
        simp only [avCells] at hcs
        split at hcs
        · rename_i hc
          injection hcs with hcs
          subst hcs
          obtain ⟨rfl, _⟩ := hc
          obtain ⟨us, rfl, h2⟩ := hv
          exact ⟨us, rfl, key _ h2 hf⟩
        · cases hcs
      | c c =>
        simp only [avCells] at hcs
        split at hcs
        · rename_i hc
          injection hcs with hcs
          subst hcs
          obtain ⟨rfl, hn, hk⟩ := hc
          have h2 := key [v] (.cons (known_one' M.obj hv hk) .nil) hf
          have h3 : (enc k x).length = 1 := by rw [enc_len, hn]
          simp only [outS]
          cases he : enc k x with
          | nil => rw [he] at h3; cases h3
          | cons y r =>
            rw [he] at h3 h2
            cases r with
            | nil =>
              cases h2 with
              | cons h4 _ => exact h4.1
            | cons _ _ => simp at h3
        · cases hcs
      | tup l => cases hcs
    · cases hx
  | own id ver e k fz =>
    simp only [exS] at hx
    have hob := M.obs _ (ho (id, .row e k x ver fz) (by simp [obS]))
    refine ⟨e, k, x, ver, fz, hob, Nat.le_refl _, fun _ => ?_⟩
    rcases exOwn_some hx with ⟨h1, h2⟩ | ⟨id', ver', fz', h1, h2, h3⟩
    · have := M.nil id (hs _ (by simp [srcS, h1]))
      rw [h1] at hv1
      rw [this]
      exact hv1
    · have := M.src id id' (hs _ (by simp [srcS, h1]))
      rw [h1] at hv1
      obtain ⟨e0, k0, l0, ver0, fz0, h4, h5, h6⟩ := hv1
      rw [h2] at h4
      cases h4
      rw [this.1]
      exact h6 rfl
  | arr id ver e k fz =>
    simp only [exS] at hx
    have hob := M.obs _ (ho (id, .row e k x ver fz) (by simp [obS]))
    obtain ⟨id', ver', fz', h1, h2, h3⟩ := exArr_some hx
    have := M.src id id' (hs _ (by simp [srcS, h1]))
    rw [h1] at hv1
    obtain ⟨e0, k0, l0, ver0, fz0, h4, h5, h6⟩ := hv1
    rw [h2] at h4
    cases h4
    refine ⟨e, k, x, ver, fz, hob, Nat.le_refl _, fun _ => ?_⟩
    rw [this.2]
    exact h6 rfl
  | ref id ver =>
    simp only [exS] at hx
    split at hx
    · rename_i hr
      obtain ⟨e, k, l, fz, h1, h2⟩ := hp
      refine ⟨e, k, l, ver, fz, h1, Nat.le_refl _, fun _ => ?_⟩
      unfold isRef at hr
      split at hr
      · rename_i id' ver' hav
        simp only [Bool.and_eq_true, beq_iff_eq] at hr
        obtain ⟨rfl, hr⟩ := hr
        rw [hav] at hv1
        obtain ⟨e0, k0, l0, ver0, fz0, h4, h5, h6⟩ := hv1
        rw [h4] at hr
        simp only [beq_iff_eq] at hr
        rw [h2]
        exact h6 hr
      · cases hr
    · cases hx
  | ptr id off =>
    simp only [exS] at hx
    split at hx
    · rename_i hr
      unfold isPtr at hr
      split at hr
      · rename_i id' off' hav
        simp only [Bool.and_eq_true, beq_iff_eq] at hr
        obtain ⟨rfl, rfl⟩ := hr
        rw [hav] at hv1
        obtain ⟨_, h6⟩ := hv1
        exact ⟨hp.1, by rw [hp.2]; exact h6⟩
      · cases hr
    · cases hx
  | nilp =>
    simp only [exS] at hx
    split at hx
    · rename_i hr
      unfold isNilp at hr
      split at hr
      · rename_i hav
        rw [hav] at hv1
        exact hv1
      · cases hr
    · cases hx
  | junk => trivial

theorem outL_ok {src : List (Nat × Option Nat)} {obs : List (Nat × Obj)} (M : Told w g1 H g2 H2 src obs) : ∀ {ss : List SS} {avs : List AV} {us : List Value} {x : (kdL ss).T}, All2 (AVR w g1 H) avs us → exL H ss avs = some x →
    Full g1 H (readL ss avs) → (∀ p ∈ srcL ss avs, p ∈ src) → (∀ p ∈ obL ss x, p ∈ obs) → (∀ s ∈ ss, PtrS g1 H g2 H2 s) → All2 (AVR w g2 H2) (outL ss x) us
  | [], [], us, _, hv, _, _, _, _, _ => by cases hv; exact .nil
  | [], _ :: _, _, _, _, h, _, _, _, _ => by simp [exL] at h
  | _ :: _, [], _, _, _, h, _, _, _, _ => by simp [exL] at h
  | s :: ss, av :: avs, us, x, hv, h, hf, hs, ho, hp => by
    simp only [exL] at h
    split at h
    · rename_i x1 h1
      split at h
      · rename_i y h2
        injection h with h
        subst h
        cases hv with
        | cons hv1 hv2 =>
          exact .cons (outS_ok M hv1 h1 (hf.mono fun _ hx => by simp [readL, hx]) (fun p hx => hs p (by simp [srcL, hx])) (fun p hx => ho p (by simp [obL, hx])) (hp _ List.mem_cons_self))
            (outL_ok M hv2 h2 (hf.mono fun _ hx => by simp [readL, hx]) (fun p hx => hs p (by simp [srcL, hx])) (fun p hx => ho p (by simp [obL, hx])) (fun s hx => hp s (List.mem_cons_of_mem _ hx)))
      · cases h
    · cases h

theorem All2.one' {cs : List AV} {us : List Value} (h : All2 (AVR w g1 H) cs us) (h1 : ∀ u ∈ us, u.oneCell' = true) : All2 (VC w g1 H) (cs.map AV.one) us := by
  induction h with
  | nil => exact .nil
  | cons h0 _ ih => exact .cons ⟨AVR.one' h0, h1 _ List.mem_cons_self⟩ (ih fun u hu => h1 u (List.mem_cons_of_mem _ hu))
theorem All2.toAV {cs : List Cell} {us : List Value} (h : All2 (VC w g1 H) cs us) : All2 (AVR w g1 H) (cs.map AV.c) us ∧ ∀ u ∈ us, u.oneCell' = true := by
  induction h with
  | nil => exact ⟨.nil, by simp⟩
  | cons h0 _ ih =>
    refine ⟨.cons h0.1 ih.1, fun u hu => ?_⟩
    rcases List.mem_cons.1 hu with rfl | hu
    · exact h0.2
    · exact ih.2 u hu
end
end Go.Vm
