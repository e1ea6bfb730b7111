/- A small evaluator for the translated code, and the proof that what it computes the code does. -/
import Derived.Test.YtplbdggmaoanjaaVmDC
/-! Soundness, part 25b: regions whose order is drawn. -/
namespace Go.Vm
open Go.RowKit

/-! ### What must be ahead -/
theorem bit_one (a j : Nat) : Nat.testBit (Nat.shiftLeft 1 a) j = decide (a = j) := by
  show Nat.testBit (1 <<< a) j = _
  rw [Nat.shiftLeft_eq, Nat.one_mul, Nat.testBit_two_pow]
theorem bit_or (a b j : Nat) : Nat.testBit (Nat.lor a b) j = (Nat.testBit a j || Nat.testBit b j) := Nat.testBit_or a b j
theorem before_bit {l : List Edge} {acc : List Nat} {j : Nat} : ∀ {m : Nat}, Nat.testBit (beforeOf l acc m) j = true ↔ Nat.testBit m j = true ∨ ∃ e ∈ l, Region.binds .any e = true ∧ (e.on = j ∨ Nat.testBit ((acc[e.on]?).getD 0) j = true) := by
  induction l with
  | nil => intro m; simp [beforeOf]
  | cons e l ih =>
    intro m
    have : beforeOf (e :: l) acc m = beforeOf l acc (if Region.binds .any e then Nat.lor (Nat.lor m (Nat.shiftLeft 1 e.on)) ((acc[e.on]?).getD 0) else m) := rfl
    rw [this, ih]
    by_cases hb : Region.binds .any e = true
    · rw [if_pos hb, bit_or, bit_or, bit_one]
      simp only [Bool.or_eq_true, decide_eq_true_eq, List.mem_cons]
      constructor
      · rintro (((h | h) | h) | ⟨e', h1, h2⟩)
        · exact .inl h
        · exact .inr ⟨e, .inl rfl, hb, .inl h⟩
        · exact .inr ⟨e, .inl rfl, hb, .inr h⟩
        · exact .inr ⟨e', .inr h1, h2⟩
      · rintro (h | ⟨e', rfl | h1, h2, h3⟩)
        · exact .inl (.inl (.inl h))
        · rcases h3 with h3 | h3
          · exact .inl (.inl (.inr h3))
          · exact .inl (.inr h3)
        · exact .inr ⟨e', h1, h2, h3⟩
    · rw [if_neg hb]
      simp only [List.mem_cons]
      constructor
      · rintro (h | ⟨e', h1, h2⟩)
        · exact .inl h
        · exact .inr ⟨e', .inr h1, h2⟩
      · rintro (h | ⟨e', rfl | h1, h2, h3⟩)
        · exact .inl h
        · exact absurd h2 hb
        · exact .inr ⟨e', h1, h2, h3⟩
theorem closure_len : ∀ (l : List Oper) (acc : List Nat), (closure l acc).length = acc.length + l.length
  | [], acc => rfl
  | o :: r, acc => by simp only [closure]; rw [closure_len r]; simp; omega
theorem closure_pre : ∀ (l : List Oper) (acc : List Nat) (i : Nat), i < acc.length → (closure l acc)[i]? = acc[i]?
  | [], _, _, _ => rfl
  | o :: r, acc, i, h => by
    simp only [closure]
    rw [closure_pre r _ i (by simp; omega), List.getElem?_append_left h]
theorem closure_at : ∀ (l : List Oper) (acc : List Nat), edgesOk acc.length l = true → ∀ (m : Nat) (o : Oper), l[m]? = some o → ∀ j, Nat.testBit (((closure l acc)[acc.length + m]?).getD 0) j = true ↔ ∃ e ∈ o.after.toList, Region.binds .any e = true ∧ (e.on = j ∨ Nat.testBit (((closure l acc)[e.on]?).getD 0) j = true)
  | [], _, _, m, o, h, _ => by simp at h
  | o :: r, acc, he, m, o', h, j => by
    simp only [edgesOk, Bool.and_eq_true] at he
    have he2 : edgesOk (acc ++ [beforeOf o.after.toList acc 0]).length r = true := by simpa using he.2
    cases m with
    | zero =>
      simp only [List.getElem?_cons_zero, Option.some.injEq] at h
      subst h
      simp only [closure, Nat.add_zero]
      rw [closure_pre r _ _ (by simp)]
      have : (acc ++ [beforeOf o.after.toList acc 0])[acc.length]? = some (beforeOf o.after.toList acc 0) := by simp
      rw [this, Option.getD_some, before_bit]
      constructor
      · rintro (h | ⟨e, h1, h2, h3⟩)
        · simp at h
        · refine ⟨e, h1, h2, ?_⟩
          have hlt : e.on < acc.length := by
            have := List.all_eq_true.1 he.1 e h1
            simpa [h2] using this
          rw [closure_pre r _ _ (by simp; omega), List.getElem?_append_left hlt]
          exact h3
      · rintro ⟨e, h1, h2, h3⟩
        have hlt : e.on < acc.length := by
          have := List.all_eq_true.1 he.1 e h1
          simpa [h2] using this
        rw [closure_pre r _ _ (by simp; omega), List.getElem?_append_left hlt] at h3
        exact .inr ⟨e, h1, h2, h3⟩
    | succ m =>
      have ih := closure_at r (acc ++ [beforeOf o.after.toList acc 0]) he2 m o' (by simpa using h) j
      simp only [closure]
      rw [← ih]
      have : (acc ++ [beforeOf o.after.toList acc 0]).length + m = acc.length + (m + 1) := by simp; omega
      rw [this]

section
variable {ops : Array Oper}
theorem edges_lt : ∀ {l : List Oper} {k : Nat}, edgesOk k l = true → ∀ (m : Nat) (o : Oper), l[m]? = some o → ∀ e ∈ o.after.toList, Region.binds .any e = true → e.on < k + m
  | [], _, _, m, o, h => by simp at h
  | x :: r, k, he, m, o, h => by
    simp only [edgesOk, Bool.and_eq_true] at he
    intro e h1 h2
    cases m with
    | zero =>
      simp only [List.getElem?_cons_zero, Option.some.injEq] at h
      subst h
      have := List.all_eq_true.1 he.1 e h1
      simpa [h2] using this
    | succ m =>
      have := edges_lt he.2 m o (by simpa using h) e h1 h2
      omega
theorem isBefore_iff (he : edgesOk 0 ops.toList = true) {i : Nat} {o : Oper} (ho : ops[i]? = some o) (j : Nat) : isBefore (closure ops.toList []) j i = true ↔ ∃ e ∈ o.after.toList, Region.binds .any e = true ∧ (e.on = j ∨ isBefore (closure ops.toList []) j e.on = true) := by
  have := closure_at ops.toList [] he i o (by simpa using ho) j
  simpa [isBefore] using this
theorem isBefore_lt (he : edgesOk 0 ops.toList = true) : ∀ (i : Nat) {j : Nat}, isBefore (closure ops.toList []) j i = true → j < i := by
  intro i
  induction i using Nat.strongRecOn with
  | _ i ih =>
    intro j h
    cases ho : ops[i]? with
    | none =>
      have hlen : ¬ i < ops.size := fun hh => by rw [Array.getElem?_eq_getElem hh] at ho; cases ho
      unfold isBefore at h
      rw [List.getElem?_eq_none (by rw [closure_len]; simp; omega)] at h
      simp at h
    | some o =>
      obtain ⟨e, h1, h2, h3⟩ := (isBefore_iff he ho j).1 h
      have hlt := edges_lt he i o (by simpa using ho) e h1 h2
      rcases h3 with h3 | h3
      · omega
      · have := ih e.on (by omega) h3
        omega
theorem apartOk_at {bs : List Nat} {i : Nat} {x : Oper} : ∀ {l : List Oper} {k : Nat}, apartOk ops bs i x k l = true → ∀ (m : Nat) (y : Oper), l[m]? = some y → isBefore bs i (k + m) = true ∨ Oper.apart ops x y = true
  | [], _, _, m, y, h => by simp at h
  | z :: r, k, ha, m, y, h => by
    simp only [apartOk, Bool.and_eq_true, Bool.or_eq_true] at ha
    cases m with
    | zero =>
      simp only [List.getElem?_cons_zero, Option.some.injEq] at h
      subst h
      exact ha.1
    | succ m =>
      have := apartOk_at ha.2 m y (by simpa using h)
      rwa [show k + (m + 1) = k + 1 + m by omega]
theorem apartsOk_at {bs : List Nat} : ∀ {l : List Oper} {k : Nat}, apartsOk ops bs k l = true → ∀ (i j : Nat) (x y : Oper), i < j → l[i]? = some x → l[j]? = some y → isBefore bs (k + i) (k + j) = true ∨ Oper.apart ops x y = true
  | [], _, _, i, j, x, y, _, h, _ => by simp at h
  | z :: r, k, ha, i, j, x, y, hij, h1, h2 => by
    simp only [apartsOk, Bool.and_eq_true] at ha
    cases j with
    | zero => omega
    | succ j =>
      cases i with
      | zero =>
        simp only [List.getElem?_cons_zero, Option.some.injEq] at h1
        subst h1
        have := apartOk_at ha.1 j y (by simpa using h2)
        rwa [show k + (j + 1) = k + 1 + j by omega]
      | succ i =>
        have := apartsOk_at ha.2 i j x y (by omega) (by simpa using h1) (by simpa using h2)
        rwa [show k + (i + 1) = k + 1 + i by omega, show k + (j + 1) = k + 1 + j by omega]
end

/-! ### The order of the text -/
section
variable {R : Type} {P : Program} {E : Env} {all : Array Oper} {bs : List Nat}

/-- The states on the way, in the order of the text. -/
def Chain (E : Env) (all : Array Oper) (bs : List Nat) : Nat → List Oper → G → List (Nat × List Nat × List Nat) → List (G × Eff) → G → Prop
  | _, [], Γ, _, [], Γn => Γn = Γ
  | i, o :: l, Γ, acc, (Γ0, u) :: L, Γn => Γ0 = Γ ∧ (((∀ p ∈ u.ob, p.1 ∈ u.lg ++ u.lf) ∧ ∀ i ∈ u.lg ++ u.lf, i ∈ u.ob.map (·.1) ∨ Γ.h.length ≤ i) ∧ ∀ Γ', AgreeS E all o Γ Γ' → ∀ {R' : Type} (K' : G → Option R'), stx E all o Γ' K' = K' (u.app o.dst Γ')) ∧
      noClash bs i (foot E Γ o) (u.lg ++ u.lf) acc = true ∧ Chain E all bs (i + 1) l (u.app o.dst Γ) ((i, foot E Γ o, u.lg ++ u.lf) :: acc) L Γn
  | _, _, _, _, _, _ => False

theorem agreeS_book {o : Oper} {Γ Γ' : G} (h1 : Γ'.t = Γ.t) (h2 : Γ'.h = Γ.h) : AgreeS E all o Γ Γ' :=
  ⟨⟨fun x _ => by cases x <;> simp only [G.ev, h1], by rw [h2], fun id _ => by rw [h2]⟩, fun j want d _ _ => by rw [h1]⟩
theorem foot_book {o : Oper} {Γ Γ' : G} (h1 : Γ'.t = Γ.t) (h2 : Γ'.h = Γ.h) : foot E Γ' o = foot E Γ o := by
  obtain ⟨t, h, lg, lf⟩ := Γ
  obtain ⟨t', h', lg', lf'⟩ := Γ'
  simp only at h1 h2
  subst h1 h2
  rfl
theorem AgreeS.trans' {o : Oper} {Γ Γ1 Γ' : G} (h1 : Γ1.t = Γ.t) (h2 : Γ1.h = Γ.h) (h : AgreeS E all o Γ Γ') : AgreeS E all o Γ1 Γ' := by
  obtain ⟨t, hh, lg, lf⟩ := Γ
  obtain ⟨t1, hh1, lg1, lf1⟩ := Γ1
  simp only at h1 h2
  subst h1 h2
  exact ⟨⟨fun x hx => by have := h.a.ev x hx; cases x <;> exact this, h.a.len, fun id hid => h.a.h id hid⟩, h.g⟩
theorem app_plus (u : Eff) (d : Option Tmp) (Γ : G) : (u.app d { t := Γ.t, h := Γ.h, lg := [], lf := [] }).plus' Γ = u.app d Γ ∧ (u.app d { t := Γ.t, h := Γ.h, lg := [], lf := [] }).lg = u.lg ∧ (u.app d { t := Γ.t, h := Γ.h, lg := [], lf := [] }).lf = u.lf := by
  cases d <;> simp [Eff.app, G.put, G.plus']

theorem opsd_chain (hE : EnvTy P E) {K : G → Option R} {r : R} : ∀ (l : List Oper) (i : Nat) (Γ : G) (acc : List (Nat × List Nat × List Nat)), opsd E all bs i l Γ acc K = some r → ∃ L Γn, K Γn = some r ∧ Chain E all bs i l Γ acc L Γn
  | [], i, Γ, acc, h => ⟨[], Γ, h, rfl⟩
  | o :: l, i, Γ, acc, h => by
    simp only [opsd] at h
    obtain ⟨u, h1, h2, h3⟩ := stx_loc hE h
    obtain ⟨e1, e2, e3⟩ := app_plus u o.dst Γ
    rw [e1, e2, e3] at h1
    split at h1
    · rename_i hc
      obtain ⟨L, Γn, h4, h5⟩ := opsd_chain hE l (i + 1) _ _ h1
      refine ⟨(Γ, u) :: L, Γn, h4, rfl, ⟨h2, fun Γ' hA R' K' => h3 Γ' (AgreeS.trans' (Γ := Γ) rfl rfl hA) K'⟩, hc, h5⟩
    · cases h1

def stAt (L : List (G × Eff)) (Γn : G) (m : Nat) : G := match L[m]? with | some p => p.1 | none => Γn

theorem chain_len : ∀ {l : List Oper} {i : Nat} {Γ Γn : G} {acc : List (Nat × List Nat × List Nat)} {L : List (G × Eff)}, Chain E all bs i l Γ acc L Γn → L.length = l.length
  | [], _, _, _, _, [], _ => rfl
  | [], _, _, _, _, _ :: _, h => by simp [Chain] at h
  | _ :: _, _, _, _, _, [], h => by simp [Chain] at h
  | o :: l, _, _, _, _, (Γ0, u) :: L, h => by
    simp only [List.length_cons]
    rw [chain_len h.2.2.2]
theorem chain_first {l : List Oper} {i : Nat} {Γ Γn : G} {acc : List (Nat × List Nat × List Nat)} {L : List (G × Eff)} (h : Chain E all bs i l Γ acc L Γn) : stAt L Γn 0 = Γ := by
  cases l with
  | nil => cases L with | nil => exact h | cons _ _ => simp [Chain] at h
  | cons o l => cases L with | nil => simp [Chain] at h | cons p L => obtain ⟨Γ0, u⟩ := p; exact h.1
theorem chain_step : ∀ {l : List Oper} {i : Nat} {Γ Γn : G} {acc : List (Nat × List Nat × List Nat)} {L : List (G × Eff)}, Chain E all bs i l Γ acc L Γn → ∀ (m : Nat) (o : Oper), l[m]? = some o → ∃ u, L[m]? = some (stAt L Γn m, u) ∧ stAt L Γn (m + 1) = u.app o.dst (stAt L Γn m) ∧
    ((∀ p ∈ u.ob, p.1 ∈ u.lg ++ u.lf) ∧ ∀ i ∈ u.lg ++ u.lf, i ∈ u.ob.map (·.1) ∨ (stAt L Γn m).h.length ≤ i) ∧ ∀ Γ', AgreeS E all o (stAt L Γn m) Γ' → ∀ {R' : Type} (K' : G → Option R'), stx E all o Γ' K' = K' (u.app o.dst Γ')
  | [], _, _, _, _, _, _, m, o, h => by simp at h
  | _ :: _, _, _, _, _, [], h, _, _, _ => by simp [Chain] at h
  | x :: l, i, Γ, Γn, acc, (Γ0, u) :: L, h, m, o, hm => by
    obtain ⟨h1, h2, h3, h4⟩ := h
    cases m with
    | zero =>
      simp only [List.getElem?_cons_zero, Option.some.injEq] at hm
      subst hm
      subst h1
      refine ⟨u, rfl, ?_, h2.1, h2.2⟩
      show stAt L Γn 0 = _
      exact chain_first h4
    | succ m => exact chain_step h4 m o (by simpa using hm)
theorem noClash_mem {ft tc : List Nat} {i : Nat} : ∀ {acc : List (Nat × List Nat × List Nat)}, noClash bs i ft tc acc = true → ∀ j fj tj, (j, fj, tj) ∈ acc → isBefore bs j i = true ∨ (noneIn tj ft = true ∧ noneIn tc fj = true ∧ noneIn tc tj = true)
  | [], _, _, _, _, h => by cases h
  | (j0, f0, t0) :: r, h, j, fj, tj, hm => by
    simp only [noClash, Bool.and_eq_true, Bool.or_eq_true] at h
    rcases List.mem_cons.1 hm with hm | hm
    · injection hm with e1 e2
      injection e2 with e2 e3
      subst e1 e2 e3
      rcases h.1 with h | ⟨⟨h1, h2⟩, h3⟩
      · exact .inl h
      · exact .inr ⟨h1, h2, h3⟩
    · exact noClash_mem h.2 j fj tj hm
theorem chain_acc : ∀ {l : List Oper} {i : Nat} {Γ Γn : G} {acc : List (Nat × List Nat × List Nat)} {L : List (G × Eff)}, Chain E all bs i l Γ acc L Γn → ∀ (m : Nat) (o : Oper) (u : Eff), l[m]? = some o → L[m]? = some (stAt L Γn m, u) → ∀ j fj tj, (j, fj, tj) ∈ acc →
    isBefore bs j (i + m) = true ∨ (noneIn tj (foot E (stAt L Γn m) o) = true ∧ noneIn (u.lg ++ u.lf) fj = true ∧ noneIn (u.lg ++ u.lf) tj = true)
  | [], _, _, _, _, _, _, m, o, _, h, _, _, _, _, _ => by simp at h
  | _ :: _, _, _, _, _, [], h, _, _, _, _, _, _, _, _, _ => by simp [Chain] at h
  | x :: l, i, Γ, Γn, acc, (Γ0, v) :: L, h, m, o, u, hm, hu, j, fj, tj, hj => by
    obtain ⟨h1, h2, h3, h4⟩ := h
    cases m with
    | zero =>
      simp only [List.getElem?_cons_zero, Option.some.injEq] at hm hu
      subst hm
      subst h1
      injection hu with _ hu
      subst hu
      exact noClash_mem h3 j fj tj hj
    | succ m =>
      have := chain_acc h4 m o u (by simpa using hm) hu j fj tj (List.mem_cons_of_mem _ hj)
      rwa [show i + (m + 1) = i + 1 + m by omega]
theorem chain_clash : ∀ {l : List Oper} {i : Nat} {Γ Γn : G} {acc : List (Nat × List Nat × List Nat)} {L : List (G × Eff)}, Chain E all bs i l Γ acc L Γn → ∀ (a b : Nat) (x y : Oper) (u v : Eff), a < b → l[a]? = some x → l[b]? = some y → L[a]? = some (stAt L Γn a, u) → L[b]? = some (stAt L Γn b, v) →
    isBefore bs (i + a) (i + b) = true ∨ (noneIn (u.lg ++ u.lf) (foot E (stAt L Γn b) y) = true ∧ noneIn (v.lg ++ v.lf) (foot E (stAt L Γn a) x) = true ∧ noneIn (v.lg ++ v.lf) (u.lg ++ u.lf) = true)
  | [], _, _, _, _, _, _, a, b, x, y, u, v, _, h, _, _, _ => by simp at h
  | _ :: _, _, _, _, _, [], h, _, _, _, _, _, _, _, _, _, _, _ => by simp [Chain] at h
  | z :: l, i, Γ, Γn, acc, (Γ0, w) :: L, h, a, b, x, y, u, v, hab, hx, hy, hu, hv => by
    obtain ⟨h1, h2, h3, h4⟩ := h
    cases b with
    | zero => omega
    | succ b =>
      cases a with
      | zero =>
        simp only [List.getElem?_cons_zero, Option.some.injEq] at hx hu
        subst hx
        subst h1
        injection hu with _ hu
        subst hu
        have := chain_acc h4 b y v (by simpa using hy) hv i _ _ List.mem_cons_self
        rw [show i + (b + 1) = i + 1 + b by omega]
        exact this
      | succ a =>
        have := chain_clash h4 a b x y u v (by omega) (by simpa using hx) (by simpa using hy) hu hv
        rwa [show i + (b + 1) = i + 1 + b by omega, show i + (a + 1) = i + 1 + a by omega]
end

/-- Nothing of the book's order is told. -/
theorem ext_same (s : Shape) {Γ1 Γ2 : G} (h1 : Γ1.t = Γ2.t) (h2 : Γ1.h = Γ2.h) (h3 : ∀ i, i ∈ Γ1.lg ↔ i ∈ Γ2.lg) (h4 : ∀ i, i ∈ Γ1.lf ↔ i ∈ Γ2.lf) : ext s Γ1 = ext s Γ2 := by
  obtain ⟨t, h, lg, lf⟩ := Γ1
  obtain ⟨t', h', lg', lf'⟩ := Γ2
  simp only at h1 h2 h3 h4
  subst h1 h2
  have e1 : ∀ m, allIn lg m = allIn lg' m := by
    intro m
    rw [Bool.eq_iff_iff]
    unfold allIn
    rw [List.all_eq_true, List.all_eq_true]
    exact ⟨fun h x hx => h x ((h3 x).2 hx), fun h x hx => h x ((h3 x).1 hx)⟩
  have e2 : ∀ l m, allIn (l ++ lf) m = allIn (l ++ lf') m := by
    intro l m
    rw [Bool.eq_iff_iff]
    unfold allIn
    rw [List.all_eq_true, List.all_eq_true]
    refine ⟨fun h x hx => h x ?_, fun h x hx => h x ?_⟩
    · rcases List.mem_append.1 hx with hx | hx
      · exact List.mem_append_left _ hx
      · exact List.mem_append_right _ ((h4 x).2 hx)
    · rcases List.mem_append.1 hx with hx | hx
      · exact List.mem_append_left _ hx
      · exact List.mem_append_right _ ((h4 x).1 hx)
  unfold ext
  simp only [e1, e2]

/-! ### Any order -/
section
variable {R : Type} {P : Program} {C : Ctx} {E : Env} {r : R} {id : Nat}

/-- One operation, at any state where it is as it is told. -/
theorem stx_ok (hE : EnvOk P E) {ops : Array Oper} {o : Oper} {g : Gh} {Γ Γ1 : G} {a : Act} {w : World} (h : Rel C g Γ a w) (hK : stx E ops o Γ some = some Γ1) {K0 : Act → World → Prop} {Q : Exit → Act → World → Prop}
    (hn : ∀ g' a' w', Rel C g' Γ1 a' w' → Tr o.dst.toList g Γ w g' Γ1 w' → K0 a' w') :
    if Region.wanted o (yielded ops a.tmps) then o.wp P a w K0 Q else K0 (a.put o.dst undef) w := by
  have run : opx E Γ o some = some Γ1 → o.wp P a w K0 Q := by
    intro h1
    refine goes_op hE h h1 K0 Q fun g' Γ' a' w' h2 h3 h4 => ?_
    injection h2 with h2
    subst h2
    exact hn g' a' w' h3 h4
  have skip : Γ.put o.dst (.c .undef) = Γ1 → K0 (a.put o.dst undef) w := by
    intro h1
    subst h1
    have h2 : Rel C g (Γ.put o.dst (.c .undef)) (a.put o.dst undef) w := h.put (av := .c .undef) (v := undef) rfl o.dst
    have h3 := (Tr.refl [] g Γ w).put o.dst (.c .undef)
    rw [List.append_nil] at h3
    exact hn g _ _ h2 h3
  unfold stx at hK
  split at hK
  · rename_i hg
    rw [if_pos (by simp [Region.wanted, hg])]
    exact run hK
  · rename_i j want hg
    split at hK
    · rename_i d hd
      split at hK
      · rename_i b hb
        obtain ⟨u, hu, hv⟩ := h.t.get d _ hb
        have hu' : a.tmps[d]? = some (.bool b) := by
          have : u = .bool b := hv
          rw [this] at hu
          simpa using hu
        have hy : yielded ops a.tmps j = some b := by
          simp [yielded, hd, hu']
        have hw : Region.wanted o (yielded ops a.tmps) = (b == want) := by
          simp only [Region.wanted, hg, hy]
          cases b <;> cases want <;> rfl
        rw [hw]
        have hps := put_same' hb
        cases b <;> cases want <;> simp only [cond_true, cond_false, hps] at hK
        · exact run hK
        · injection hK with hK; exact skip hK
        · injection hK with hK; exact skip hK
        · exact run hK
      · rename_i hb
        obtain ⟨u, hu, hv⟩ := h.t.get d _ hb
        have hu' : a.tmps[d]? = some undef := by
          have : u = undef := hv
          rw [this] at hu
          simpa using hu
        have hy : yielded ops a.tmps j = none := by
          simp [yielded, hd, hu', undef]
        rw [if_neg (by simp [Region.wanted, hg, hy])]
        injection hK with hK
        exact skip hK
      · cases hK
    · cases hK

theorem setAll_notin {L : List (Nat × Obj)} {H : List Obj} {i : Nat} {T : List Nat} (h : ∀ p ∈ L, p.1 ∈ T) (hi : i ∉ T) : (setAll L H)[i]? = H[i]? :=
  setAll_out L H i (fun hm => by
    obtain ⟨p, hp, e⟩ := List.mem_map.1 hm
    exact hi (e ▸ h p hp))
theorem setAll_same {L : List (Nat × Obj)} {i : Nat} : ∀ {H H' : List Obj}, H.length = H'.length → i ∈ L.map (·.1) → (setAll L H)[i]? = (setAll L H')[i]? := by
  induction L with
  | nil => intro H H' _ h; cases h
  | cons p L ih =>
    obtain ⟨j, ob⟩ := p
    intro H H' hl h
    simp only [setAll]
    by_cases hm : i ∈ L.map (·.1)
    · exact ih (by simp [hl]) hm
    · have : i = j := by
        simp only [List.map_cons, List.mem_cons] at h
        rcases h with h | h
        · exact h
        · exact absurd h hm
      subst this
      rw [setAll_out _ _ _ hm, setAll_out _ _ _ hm, List.getElem?_set, List.getElem?_set]
      simp [hl]

theorem drawn_ok (hE : EnvOk P E) {ops : Array Oper} {g : Gh} {Γ : G} {a : Act} {w : World} {K : G → Option R} {Q : Exit → Act → World → Prop} (hdr : drawOk ops (closure ops.toList []) = true)
    (h : Rel C g Γ a w) (hK : opsd E ops (closure ops.toList []) 0 ops.toList Γ [] K = some r)
    (hs : ∀ Γ1 Γ2 : G, Γ1.t = Γ2.t → Γ1.h = Γ2.h → (∀ i, i ∈ Γ1.lg ↔ i ∈ Γ2.lg) → (∀ i, i ∈ Γ1.lf ↔ i ∈ Γ2.lf) → K Γ1 = K Γ2)
    (hn : ∀ g' Γ' a' w', K Γ' = some r → Rel C g' Γ' a' w' → Tr (opDsts ops.toList) g Γ w g' Γ' w' → Q .normal a' w') : (Code.region id ops true).wp P Q a w := by
  unfold drawOk at hdr
  simp only [Bool.and_eq_true] at hdr
  obtain ⟨hed, hap⟩ := hdr
  obtain ⟨L, Γn, hKn, hch⟩ := opsd_chain hE.ty ops.toList 0 Γ [] hK
  generalize hst : stAt L Γn = st at *
  have hLlen : L.length = ops.size := by rw [chain_len hch]; simp
  have hst0 : st 0 = Γ := by rw [← hst]; exact chain_first hch
  have hstn : st ops.size = Γn := by rw [← hst]; unfold stAt; rw [List.getElem?_eq_none (by omega)]
  have step : ∀ (m : Nat) (o : Oper), ops[m]? = some o → ∃ u, L[m]? = some (st m, u) ∧ st (m + 1) = u.app o.dst (st m) ∧ ((∀ p ∈ u.ob, p.1 ∈ u.lg ++ u.lf) ∧ ∀ i ∈ u.lg ++ u.lf, i ∈ u.ob.map (·.1) ∨ (st m).h.length ≤ i) ∧ ∀ Γ', AgreeS E ops o (st m) Γ' → ∀ {R' : Type} (K' : G → Option R'), stx E ops o Γ' K' = K' (u.app o.dst Γ') := by
    intro m o ho
    rw [← hst]
    exact chain_step hch m o (by simpa using ho)
  have clash : ∀ (i j : Nat) (x y : Oper) (u v : Eff), i < j → ops[i]? = some x → ops[j]? = some y → L[i]? = some (st i, u) → L[j]? = some (st j, v) →
      isBefore (closure ops.toList []) i j = true ∨ (noneIn (u.lg ++ u.lf) (foot E (st j) y) = true ∧ noneIn (v.lg ++ v.lf) (foot E (st i) x) = true ∧ noneIn (v.lg ++ v.lf) (u.lg ++ u.lf) = true) := by
    intro i j x y u v hij hx hy hu hv
    rw [← hst] at hu hv ⊢
    have := chain_clash hch i j x y u v hij (by simpa using hx) (by simpa using hy) hu hv
    simpa using this
  have apart : ∀ (i j : Nat) (x y : Oper), i < j → ops[i]? = some x → ops[j]? = some y → isBefore (closure ops.toList []) i j = true ∨ Oper.apart ops x y = true := by
    intro i j x y hij hx hy
    have := apartsOk_at hap i j x y hij (by simpa using hx) (by simpa using hy)
    simpa using this
  -- lengths
  have app_t : ∀ (u : Eff) (d : Option Tmp) (G1 : G), (u.app d G1).t.length = G1.t.length := by intro u d G1; cases d <;> simp [Eff.app, G.put]
  have app_h : ∀ (u : Eff) (d : Option Tmp) (G1 : G), (u.app d G1).h = setAll u.ob G1.h := by intro u d G1; cases d <;> rfl
  have app_lg : ∀ (u : Eff) (d : Option Tmp) (G1 : G), (u.app d G1).lg = u.lg ++ G1.lg ∧ (u.app d G1).lf = u.lf ++ G1.lf := by intro u d G1; cases d <;> exact ⟨rfl, rfl⟩
  have app_ts : ∀ (u : Eff) (d : Option Tmp) (G1 : G) (s : Nat), d ≠ some s → (u.app d G1).t[s]? = G1.t[s]? := by
    intro u d G1 s hd
    cases d with
    | none => rfl
    | some d =>
      show (G1.t.set d u.v)[s]? = _
      rw [List.getElem?_set, if_neg (fun e => hd (by rw [e]))]
  have app_td : ∀ (u : Eff) (s : Nat) (G1 G2 : G), G1.t.length = G2.t.length → (u.app (some s) G1).t[s]? = (u.app (some s) G2).t[s]? := by
    intro u s G1 G2 hl
    show (G1.t.set s u.v)[s]? = (G2.t.set s u.v)[s]?
    rw [List.getElem?_set, List.getElem?_set]
    simp [hl]
  have lens : ∀ m, m ≤ ops.size → (st m).t.length = Γ.t.length ∧ (st m).h.length = Γ.h.length := by
    intro m
    induction m with
    | zero => intro _; rw [hst0]; exact ⟨rfl, rfl⟩
    | succ m ih =>
      intro hm
      obtain ⟨u, _, h2, _, _⟩ := step m _ (Array.getElem?_eq_getElem (by omega))
      rw [h2, app_t, app_h, setAll_len]
      exact ih (by omega)
  -- what nobody writes stays
  have stay_t : ∀ (s m1 m2 : Nat), m1 ≤ m2 → m2 ≤ ops.size → (∀ j o, m1 ≤ j → j < m2 → ops[j]? = some o → o.dst ≠ some s) → (st m2).t[s]? = (st m1).t[s]? := by
    intro s m1 m2 hle
    induction m2 with
    | zero => intro _ _; rw [show m1 = 0 by omega]
    | succ m2 ih =>
      intro hm hw
      by_cases e : m1 = m2 + 1
      · rw [e]
      · obtain ⟨u, _, h2, _, _⟩ := step m2 _ (Array.getElem?_eq_getElem (by omega))
        rw [h2, app_ts _ _ _ _ (hw m2 _ (by omega) (by omega) (Array.getElem?_eq_getElem (by omega)))]
        exact ih (by omega) (by omega) fun j o h1 h2 h3 => hw j o h1 (by omega) h3
  have stay_h : ∀ (x m1 m2 : Nat), m1 ≤ m2 → m2 ≤ ops.size → (∀ j u, m1 ≤ j → j < m2 → L[j]? = some (st j, u) → x ∉ u.lg ++ u.lf) → (st m2).h[x]? = (st m1).h[x]? := by
    intro x m1 m2 hle
    induction m2 with
    | zero => intro _ _; rw [show m1 = 0 by omega]
    | succ m2 ih =>
      intro hm hw
      by_cases e : m1 = m2 + 1
      · rw [e]
      · obtain ⟨u, h1, h2, ⟨h3, _⟩, _⟩ := step m2 _ (Array.getElem?_eq_getElem (by omega))
        rw [h2, app_h, setAll_notin h3 (hw m2 u (by omega) (by omega) h1)]
        exact ih (by omega) (by omega) fun j o h1 h2 h3 => hw j o h1 (by omega) h3
  have logs : ∀ m, m ≤ ops.size → ∀ x, (x ∈ (st m).lg ↔ x ∈ Γ.lg ∨ ∃ j u, j < m ∧ L[j]? = some (st j, u) ∧ x ∈ u.lg) ∧ (x ∈ (st m).lf ↔ x ∈ Γ.lf ∨ ∃ j u, j < m ∧ L[j]? = some (st j, u) ∧ x ∈ u.lf) := by
    intro m
    induction m with
    | zero =>
      intro _ x
      rw [hst0]
      exact ⟨⟨.inl, fun h => by rcases h with h | ⟨j, u, hj, _⟩; exact h; omega⟩, ⟨.inl, fun h => by rcases h with h | ⟨j, u, hj, _⟩; exact h; omega⟩⟩
    | succ m ih =>
      intro hm x
      obtain ⟨u, h1, h2, _, _⟩ := step m _ (Array.getElem?_eq_getElem (by omega))
      obtain ⟨i1, i2⟩ := ih (by omega) x
      rw [h2, (app_lg _ _ _).1, (app_lg _ _ _).2, List.mem_append, List.mem_append, i1, i2]
      refine ⟨⟨?_, ?_⟩, ⟨?_, ?_⟩⟩
      · rintro (h | h | ⟨j, v, hj, h3, h4⟩)
        · exact .inr ⟨m, u, by omega, h1, h⟩
        · exact .inl h
        · exact .inr ⟨j, v, by omega, h3, h4⟩
      · rintro (h | ⟨j, v, hj, h3, h4⟩)
        · exact .inr (.inl h)
        · by_cases e : j = m
          · subst e
            rw [h1] at h3
            injection h3 with h3
            injection h3 with _ h3
            subst h3
            exact .inl h4
          · exact .inr (.inr ⟨j, v, by omega, h3, h4⟩)
      · rintro (h | h | ⟨j, v, hj, h3, h4⟩)
        · exact .inr ⟨m, u, by omega, h1, h⟩
        · exact .inl h
        · exact .inr ⟨j, v, by omega, h3, h4⟩
      · rintro (h | ⟨j, v, hj, h3, h4⟩)
        · exact .inr (.inl h)
        · by_cases e : j = m
          · subst e
            rw [h1] at h3
            injection h3 with h3
            injection h3 with _ h3
            subst h3
            exact .inl h4
          · exact .inr (.inr ⟨j, v, by omega, h3, h4⟩)
  -- the end
  have fin : ∀ (listed : Array Bool) (g' : Gh) (Γ' : G) (a' : Act) (w' : World), Rel C g' Γ' a' w' → Tr (opDsts ops.toList) g Γ w g' Γ' w' →
      (∀ s m, m ≤ ops.size → (∀ j o, ops[j]? = some o → o.dst = some s → (listed[j]? = some true ↔ j < m)) → Γ'.t[s]? = (st m).t[s]?) →
      (∀ x m, m ≤ ops.size → (∀ j u, L[j]? = some (st j, u) → x ∈ u.lg ++ u.lf → (listed[j]? = some true ↔ j < m)) → Γ'.h[x]? = (st m).h[x]?) →
      (∀ x, (x ∈ Γ'.lg ↔ x ∈ Γ.lg ∨ ∃ j u, listed[j]? = some true ∧ L[j]? = some (st j, u) ∧ x ∈ u.lg) ∧ (x ∈ Γ'.lf ↔ x ∈ Γ.lf ∨ ∃ j u, listed[j]? = some true ∧ L[j]? = some (st j, u) ∧ x ∈ u.lf)) →
      (∀ i, i < ops.size → listed[i]? = some true) → Q .normal a' w' := by
    intro listed g' Γ' a' w' hrel htr it ih il hall
    have hLlt : ∀ {j : Nat} {p : G × Eff}, L[j]? = some p → j < ops.size := fun h => by have := (List.getElem?_eq_some_iff.1 h).1; omega
    have e1 : Γ'.t = Γn.t := List.ext_getElem? fun s => by
      rw [← hstn]
      exact it s ops.size (Nat.le_refl _) fun j o ho _ => ⟨fun _ => (Array.getElem?_eq_some_iff.1 ho).1, fun hj => hall j hj⟩
    have e2 : Γ'.h = Γn.h := List.ext_getElem? fun x => by
      rw [← hstn]
      exact ih x ops.size (Nat.le_refl _) fun j u hj _ => ⟨fun _ => hLlt hj, fun hj => hall j hj⟩
    have e3 : ∀ x, (x ∈ Γ'.lg ↔ x ∈ Γn.lg) ∧ (x ∈ Γ'.lf ↔ x ∈ Γn.lf) := by
      intro x
      rw [← hstn]
      obtain ⟨l1, l2⟩ := logs ops.size (Nat.le_refl _) x
      obtain ⟨l3, l4⟩ := il x
      rw [l1, l2, l3, l4]
      refine ⟨⟨?_, ?_⟩, ⟨?_, ?_⟩⟩
      · rintro (h | ⟨j, u, h1, h2, h3⟩)
        · exact .inl h
        · exact .inr ⟨j, u, hLlt h2, h2, h3⟩
      · rintro (h | ⟨j, u, h1, h2, h3⟩)
        · exact .inl h
        · exact .inr ⟨j, u, hall j h1, h2, h3⟩
      · rintro (h | ⟨j, u, h1, h2, h3⟩)
        · exact .inl h
        · exact .inr ⟨j, u, hLlt h2, h2, h3⟩
      · rintro (h | ⟨j, u, h1, h2, h3⟩)
        · exact .inl h
        · exact .inr ⟨j, u, hall j h1, h2, h3⟩
    exact hn g' Γ' a' w' (by rw [hs Γ' Γn e1 e2 (fun i => (e3 i).1) (fun i => (e3 i).2)]; exact hKn) hrel htr
  -- what is ready
  have ready : ∀ (listed : Array Bool) (i : Nat), listed.size = ops.size → (i ∈ Region.ready .any ops listed ↔ i < ops.size ∧ listed[i]? = some false ∧ ∀ o, ops[i]? = some o → ∀ e ∈ o.after.toList, Region.binds .any e = true → listed[e.on]? = some true) := by
    intro listed i hsz
    unfold Region.ready
    rw [List.mem_filter, List.mem_range]
    constructor
    · rintro ⟨h1, h2⟩
      simp only [Bool.and_eq_true, Bool.not_eq_true'] at h2
      obtain ⟨h3, h4⟩ := h2
      have h5 : listed[i]? = some listed[i] := Array.getElem?_eq_getElem (by omega)
      rw [Array.getD_eq_getD_getElem?, h5] at h3
      refine ⟨h1, by rw [h5]; exact congrArg some h3, fun o ho e he hb => ?_⟩
      rw [ho] at h4
      simp only [Option.map_some, Option.getD_some, Array.all_eq_true_iff_forall_mem] at h4
      have h6 := h4 e (by simpa using he)
      rw [hb] at h6
      simp only [Bool.not_true, Bool.false_or] at h6
      rw [Array.getD_eq_getD_getElem?] at h6
      cases h7 : listed[e.on]? with
      | none => rw [h7] at h6; cases h6
      | some b => rw [h7] at h6; exact congrArg some h6
    · rintro ⟨h1, h2, h3⟩
      refine ⟨h1, ?_⟩
      simp only [Bool.and_eq_true, Bool.not_eq_true']
      rw [Array.getD_eq_getD_getElem?, h2]
      refine ⟨rfl, ?_⟩
      have ho : ops[i]? = some ops[i] := Array.getElem?_eq_getElem h1
      rw [ho]
      simp only [Option.map_some, Option.getD_some, Array.all_eq_true_iff_forall_mem]
      intro e he
      cases hb : Region.binds .any e with
      | false => rfl
      | true =>
        have := h3 _ ho e (by simpa using he) hb
        simp only [Bool.not_true, Bool.false_or]
        rw [Array.getD_eq_getD_getElem?, this]
        rfl
  -- the region, in any order
  refine wp_region_any hE.mixed ?_
  have main : ∀ (fuel : Nat) (listed : Array Bool) (g' : Gh) (Γ' : G) (a' : Act) (w' : World), listed.size = ops.size → Rel C g' Γ' a' w' → Tr (opDsts ops.toList) g Γ w g' Γ' w' →
      (∀ i, listed[i]? = some true → ∀ j, isBefore (closure ops.toList []) j i = true → listed[j]? = some true) →
      Γ'.t.length = Γ.t.length → Γ'.h.length = Γ.h.length →
      (∀ s m, m ≤ ops.size → (∀ j o, ops[j]? = some o → o.dst = some s → (listed[j]? = some true ↔ j < m)) → Γ'.t[s]? = (st m).t[s]?) →
      (∀ x m, m ≤ ops.size → (∀ j u, L[j]? = some (st j, u) → x ∈ u.lg ++ u.lf → (listed[j]? = some true ↔ j < m)) → Γ'.h[x]? = (st m).h[x]?) →
      (∀ x, (x ∈ Γ'.lg ↔ x ∈ Γ.lg ∨ ∃ j u, listed[j]? = some true ∧ L[j]? = some (st j, u) ∧ x ∈ u.lg) ∧ (x ∈ Γ'.lf ↔ x ∈ Γ.lf ∨ ∃ j u, listed[j]? = some true ∧ L[j]? = some (st j, u) ∧ x ∈ u.lf)) →
      listed.toList.count false ≤ fuel → wpAny P .any ops Q fuel listed a' w' := by
    intro fuel
    induction fuel with
    | zero =>
      intro listed g' Γ' a' w' hsz hrel htr hdc hlt hlh it ih il hcount
      have hall : ∀ i, i < ops.size → listed[i]? = some true := by
        intro i hi
        have h1 : listed[i]? = some listed[i] := Array.getElem?_eq_getElem (by omega)
        cases hb : listed[i] with
        | true => rw [h1, hb]
        | false =>
          have h2 : false ∈ listed.toList := by rw [← hb]; simp
          have := List.count_pos_iff.2 h2
          omega
      refine ⟨?_, fin listed g' Γ' a' w' hrel htr it ih il hall⟩
      refine List.eq_nil_iff_forall_not_mem.2 fun i hi => ?_
      obtain ⟨h1, h2, _⟩ := (ready listed i hsz).1 hi
      rw [hall i h1] at h2
      cases h2
    | succ fuel ihf =>
      intro listed g' Γ' a' w' hsz hrel htr hdc hlt hlh it ih il hcount
      refine ⟨fun hr => fin listed g' Γ' a' w' hrel htr it ih il fun i => ?_, fun i hi => ?_⟩
      · induction i using Nat.strongRecOn with
        | _ i ihi =>
          intro hi
          have h1 : listed[i]? = some listed[i] := Array.getElem?_eq_getElem (by omega)
          cases hb : listed[i] with
          | true => rw [h1, hb]
          | false =>
            have : i ∈ Region.ready .any ops listed := (ready listed i hsz).2 ⟨hi, by rw [h1, hb], fun o ho e he hbe => by
              have hlt := edges_lt hed i o (by simpa using ho) e he hbe
              exact ihi e.on (by omega) (by omega)⟩
            rw [hr] at this
            cases this
      · obtain ⟨hlt0, hfalse, hedges⟩ := (ready listed i hsz).1 hi
        have ho : ops[i]? = some ops[i] := Array.getElem?_eq_getElem hlt0
        generalize ops[i] = o at ho
        obtain ⟨u, hu, hnext, ⟨hob, hcov⟩, hthere⟩ := step i o ho
        have hbef : ∀ j, isBefore (closure ops.toList []) j i = true → listed[j]? = some true := by
          intro j hj
          obtain ⟨e, h1, h2, h3⟩ := (isBefore_iff hed ho j).1 hj
          have h4 := hedges o ho e h1 h2
          rcases h3 with h3 | h3
          · rw [← h3]; exact h4
          · exact hdc e.on h4 j h3
        have hnot : ∀ j, listed[j]? = some true → isBefore (closure ops.toList []) i j = true → False := by
          intro j h1 h2
          have := hdc j h1 i h2
          rw [hfalse] at this
          cases this
        -- it is as it is told
        have rd_t : ∀ s, s ∈ o.looksAt ops → Γ'.t[s]? = (st i).t[s]? := by
          intro s hs0
          refine it s i (by omega) fun j y hy hys => ?_
          rcases Nat.lt_trichotomy j i with hji | hji | hji
          · refine ⟨fun _ => hji, fun _ => ?_⟩
            rcases apart j i y o hji hy ho with h1 | h1
            · exact hbef j h1
            · exact absurd hs0 ((Oper.apart_spec h1).1 s hys)
          · subst hji
            exact ⟨fun h1 => (by rw [hfalse] at h1; cases h1), fun h1 => absurd h1 (Nat.lt_irrefl _)⟩
          · refine ⟨fun h1 => ?_, fun h1 => by omega⟩
            rcases apart i j o y hji ho hy with h2 | h2
            · exact absurd h2 (fun h2 => hnot j h1 h2)
            · exact absurd hs0 ((Oper.apart_spec h2).2.2 s hys)
        have rd_h : ∀ x, x ∈ foot E (st i) o → Γ'.h[x]? = (st i).h[x]? := by
          intro x hx
          refine ih x i (by omega) fun j v hj hxv => ?_
          have hjlt : j < ops.size := by have := (List.getElem?_eq_some_iff.1 hj).1; omega
          have hy : ops[j]? = some ops[j] := Array.getElem?_eq_getElem hjlt
          rcases Nat.lt_trichotomy j i with hji | hji | hji
          · refine ⟨fun _ => hji, fun _ => ?_⟩
            rcases clash j i _ o v u hji hy ho hj hu with h1 | ⟨h1, _⟩
            · exact hbef j h1
            · exact absurd hx (noneIn_ok h1 x hxv)
          · subst hji
            exact ⟨fun h1 => (by rw [hfalse] at h1; cases h1), fun h1 => absurd h1 (Nat.lt_irrefl _)⟩
          · refine ⟨fun h1 => ?_, fun h1 => by omega⟩
            rcases clash i j o _ u v hji ho hy hu hj with h2 | ⟨_, h2, _⟩
            · exact absurd h2 (fun h2 => hnot j h1 h2)
            · exact absurd hx (noneIn_ok h2 x hxv)
        have hag : AgreeS E ops o (st i) Γ' := by
          refine ⟨⟨fun x hx => ?_, by rw [hlh, (lens i (by omega)).2], rd_h⟩, fun j want d hg hd => ?_⟩
          · cases x with
            | tmp s =>
              have hs0 : s ∈ o.looksAt ops := by
                unfold Oper.looksAt
                exact List.mem_append_left _ (List.mem_filterMap.2 ⟨.tmp s, by simpa using hx, rfl⟩)
              simp only [G.ev, rd_t s hs0]
            | _ => rfl
          · refine rd_t d ?_
            unfold Oper.looksAt
            rw [hg]
            exact List.mem_append_right _ (by simp [hd])
        have hrun := hthere Γ' hag (some : G → Option G)
        have hok := stx_ok (Q := Q) (K0 := wpAny P .any ops Q fuel (listed.setIfInBounds i true)) hE hrel hrun (fun g2 a2 w2 h1 h2 => ?_)
        · unfold wpOp
          rw [ho]
          dsimp only
          split
          · rename_i hw
            rw [if_pos hw] at hok
            exact .inl hok
          · rename_i hw
            rw [if_neg hw] at hok
            exact hok
        · have hset : ∀ j, (listed.setIfInBounds i true)[j]? = some true ↔ listed[j]? = some true ∨ j = i := by
            intro j
            rw [Array.getElem?_setIfInBounds]
            by_cases e : i = j
            · subst e
              simp [hsz, hlt0]
            · rw [if_neg e]
              exact ⟨.inl, fun h => h.resolve_right fun h => e h.symm⟩
          have hdD : ∀ x ∈ o.dst.toList, x ∈ opDsts ops.toList := by
            intro x hx
            have hm : o ∈ ops.toList := by simpa using Array.mem_of_getElem? ho
            have : ∀ l : List Oper, o ∈ l → x ∈ opDsts l := by
              intro l
              induction l with
              | nil => intro h; cases h
              | cons p l ihl =>
                intro hm
                simp only [opDsts, List.mem_append]
                rcases List.mem_cons.1 hm with rfl | hm
                · left
                  cases hd : o.dst with
                  | none => rw [hd] at hx; simp at hx
                  | some d => rw [hd] at hx; simpa using hx
                · exact .inr (ihl hm)
            exact this _ hm
          refine ihf (listed.setIfInBounds i true) g2 _ a2 w2 (by simp [hsz]) h1 (htr.trans (h2.mono hdD)) (fun j hj k hk => ?_) (by rw [app_t, hlt]) (by rw [app_h, setAll_len, hlh]) (fun s m hm hw => ?_) (fun x m hm hw => ?_) (fun x => ?_) ?_
          · rcases (hset j).1 hj with hj | hj
            · exact (hset k).2 (.inl (hdc j hj k hk))
            · subst hj
              exact (hset k).2 (.inl (hbef k hk))
          · by_cases hds : o.dst = some s
            · have him : i < m := (hw i o ho hds).1 ((hset i).2 (.inr rfl))
              rw [stay_t s (i + 1) m (by omega) hm (fun j y h3 h4 h5 h6 => ?_), hnext, hds]
              · exact app_td u s _ _ (by rw [hlt, (lens i (by omega)).1])
              · have h7 := (hset j).1 ((hw j y h5 h6).2 h4)
                rcases h7 with h7 | h7
                · rcases apart i j o y (by omega) ho h5 with h8 | h8
                  · exact hnot j h7 h8
                  · exact (Oper.apart_spec h8).2.1 s hds h6
                · omega
            · rw [app_ts _ _ _ _ hds]
              refine it s m hm fun j y hy hys => ?_
              rw [← hw j y hy hys, hset j]
              refine ⟨.inl, fun h => h.resolve_right fun h => ?_⟩
              subst h
              rw [ho] at hy
              injection hy with hy
              subst hy
              exact hds hys
          · rw [app_h]
            by_cases hxt : x ∈ u.lg ++ u.lf
            · have him : i < m := (hw i u hu hxt).1 ((hset i).2 (.inr rfl))
              rw [stay_h x (i + 1) m (by omega) hm (fun j v h3 h4 h5 h6 => ?_), hnext, app_h]
              · rcases hcov x hxt with h7 | h7
                · exact setAll_same (by rw [hlh, (lens i (by omega)).2]) h7
                · rw [List.getElem?_eq_none (by rw [setAll_len, hlh, ← (lens i (by omega)).2]; exact h7), List.getElem?_eq_none (by rw [setAll_len]; exact h7)]
              · have h7 := (hset j).1 ((hw j v h5 h6).2 h4)
                rcases h7 with h7 | h7
                · have hjlt : j < ops.size := by omega
                  have hy : ops[j]? = some ops[j] := Array.getElem?_eq_getElem hjlt
                  rcases clash i j o _ u v (by omega) ho hy hu h5 with h8 | ⟨_, _, h8⟩
                  · exact hnot j h7 h8
                  · exact noneIn_ok h8 x h6 hxt
                · omega
            · rw [setAll_notin hob hxt]
              refine ih x m hm fun j v hj hxv => ?_
              rw [← hw j v hj hxv, hset j]
              refine ⟨.inl, fun h => h.resolve_right fun h => ?_⟩
              subst h
              rw [hu] at hj
              injection hj with hj
              injection hj with _ hj
              subst hj
              exact hxt hxv
          · obtain ⟨l1, l2⟩ := il x
            rw [(app_lg _ _ _).1, (app_lg _ _ _).2, List.mem_append, List.mem_append, l1, l2]
            refine ⟨⟨?_, ?_⟩, ⟨?_, ?_⟩⟩
            · rintro (h3 | h3 | ⟨j, v, h3, h4, h5⟩)
              · exact .inr ⟨i, u, (hset i).2 (.inr rfl), hu, h3⟩
              · exact .inl h3
              · exact .inr ⟨j, v, (hset j).2 (.inl h3), h4, h5⟩
            · rintro (h3 | ⟨j, v, h3, h4, h5⟩)
              · exact .inr (.inl h3)
              · rcases (hset j).1 h3 with h3 | h3
                · exact .inr (.inr ⟨j, v, h3, h4, h5⟩)
                · subst h3
                  rw [hu] at h4
                  injection h4 with h4
                  injection h4 with _ h4
                  subst h4
                  exact .inl h5
            · rintro (h3 | h3 | ⟨j, v, h3, h4, h5⟩)
              · exact .inr ⟨i, u, (hset i).2 (.inr rfl), hu, h3⟩
              · exact .inl h3
              · exact .inr ⟨j, v, (hset j).2 (.inl h3), h4, h5⟩
            · rintro (h3 | ⟨j, v, h3, h4, h5⟩)
              · exact .inr (.inl h3)
              · rcases (hset j).1 h3 with h3 | h3
                · exact .inr (.inr ⟨j, v, h3, h4, h5⟩)
                · subst h3
                  rw [hu] at h4
                  injection h4 with h4
                  injection h4 with _ h4
                  subst h4
                  exact .inl h5
          · have hil : i < listed.toList.length := by simp [hsz, hlt0]
            have h3 : listed.toList[i] = false := by
              have := Array.getElem?_eq_some_iff.1 hfalse
              obtain ⟨h4, h5⟩ := this
              simpa using h5
            have h4 : (listed.setIfInBounds i true).toList = listed.toList.set i true := by simp
            rw [h4, List.count_set hil, h3]
            have h5 : 0 < listed.toList.count false := List.count_pos_iff.2 (by rw [← h3]; exact List.getElem_mem hil)
            rw [if_pos (by rfl), if_neg (by decide)]
            omega
  have hb : RowKit.Below w.heap.size w { w with drawn := w.drawn + 1 } := ⟨rfl, rfl, rfl, Nat.le_refl _, fun _ _ => rfl⟩
  obtain ⟨i1, i2⟩ := step_new h.inv hb
  refine main ops.size (Array.replicate ops.size false) _ Γ a _ (by simp) ⟨i1, h.t.mono fun _ _ hv => hv.ext i2, h.defers⟩ ⟨i2, fun _ _ => rfl, rfl, fun _ _ => .inl rfl, fun _ h => h, fun _ h => h, fun _ _ _ => rfl⟩ (fun i hi => ?_) rfl rfl (fun s m hm hw => ?_) (fun x m hm hw => ?_) (fun x => ?_) ?_
  · rw [Array.getElem?_replicate] at hi
    split at hi <;> cases hi
  · rw [stay_t s 0 m (Nat.zero_le _) hm (fun j o _ h2 h3 h4 => ?_), hst0]
    have := (hw j o h3 h4).2 h2
    rw [Array.getElem?_replicate] at this
    split at this <;> cases this
  · rw [stay_h x 0 m (Nat.zero_le _) hm (fun j u _ h2 h3 h4 => ?_), hst0]
    have := (hw j u h3 h4).2 h2
    rw [Array.getElem?_replicate] at this
    split at this <;> cases this
  · refine ⟨⟨.inl, fun h => ?_⟩, ⟨.inl, fun h => ?_⟩⟩
    · rcases h with h | ⟨j, u, h1, _⟩
      · exact h
      · rw [Array.getElem?_replicate] at h1
        split at h1 <;> cases h1
    · rcases h with h | ⟨j, u, h1, _⟩
      · exact h
      · rw [Array.getElem?_replicate] at h1
        split at h1 <;> cases h1
  · rw [Array.toList_replicate]
    exact Nat.le_trans List.count_le_length (by simp)
end
end Go.Vm
