/- A small evaluator for the translated code, and the proof that what it computes the code does. -/
import Derived.Test.YtplbdggmaoanjaaVmAE
/-! Soundness, part 28: a function's contract. -/
namespace Go.Vm
open Go.RowKit

theorem ResR.map {R R' : AV → Value → Prop} {vs outs : List AV} (h : ∀ us, All2 R vs us → All2 R' outs us) {v : Value} (hr : ResR R vs v) : ResR R' outs v := by
  match vs, hr with
  | [], ⟨us, e, h1⟩ =>
    have h2 := h _ h1
    cases hu : us.toList with
    | nil =>
      rw [hu] at h2
      cases h2
      exact ⟨us, e, by rw [hu]; exact .nil⟩
    | cons _ _ => rw [hu] at h1; cases h1
  | [av], hr =>
    have h2 := h [v] (.cons hr .nil)
    cases h2 with
    | cons h3 h4 => cases h4; exact h3
  | a :: b :: r, ⟨us, e, h1⟩ =>
    have h2 := h _ h1
    cases hu : us.toList with
    | nil => rw [hu] at h1; cases h1
    | cons u1 us1 =>
      cases us1 with
      | nil => rw [hu] at h1; cases h1 with | cons _ h3 => cases h3
      | cons u2 us2 =>
        rw [hu] at h2
        cases h2 with
        | cons h3 h4 =>
          cases h4 with
          | cons h5 h6 => exact ⟨us, e, by rw [hu]; exact .cons h3 (.cons h5 h6)⟩

theorem outL_len : ∀ (ss : List SS) (x : (kdL ss).T), (outL ss x).length = ss.length
  | [], _ => rfl
  | s :: r, x => by simp only [outL, List.length_cons, outL_len r]

inductive FnsOk (P : Program) : List (FuncId × Nat × FnI) → Prop
  | nil : FnsOk P []
  | cons {f : FuncId} {v : Nat} {F : FnI} {r : List (FuncId × Nat × FnI)} : FnOk P f F → FnsOk P r → FnsOk P ((f, v, F) :: r)
theorem FnsOk.look {P : Program} {l : List (FuncId × Nat × FnI)} (h : FnsOk P l) : ∀ {f v F}, lookFn l f v = some F → FnOk P f F := by
  induction h with
  | nil => intro f v F h; cases h
  | cons h1 _ ih =>
    intro f v F h
    simp only [lookFn] at h
    split at h
    · rename_i hc
      simp only [Bool.and_eq_true] at hc
      injection h with h
      have e := Nat.eq_of_beq_eq_true hc.1
      subst e
      rw [← h]
      exact h1
    · exact ih h
/-- Whether each type is what is told of it. -/
def tysOk (P : Program) (f : TypeId → Option TI) : Nat → Bool
  | 0 => true
  | n + 1 => (match f n with | some i => tyOk P n i | none => true) && tysOk P f n
theorem tysOk_is {P : Program} {f : TypeId → Option TI} : ∀ {n : Nat}, tysOk P f n = true → ∀ t i, t < n → f t = some i → TyIs P t i
  | n + 1, h, t, i, ht, hi => by
    simp only [tysOk, Bool.and_eq_true] at h
    by_cases e : t = n
    · subst e
      rw [hi] at h
      exact tyOk_is h.1
    · exact tysOk_is h.2 t i (by omega) hi

theorem unflat_len : ∀ (tl : List SL) (outs : List AV), outs.length = (flatS tl).length → (unflat tl outs).length = tl.length
  | [], _, _ => rfl
  | .one _ :: r, [], h => by simp [flatS] at h
  | .one _ :: r, v :: vs, h => by
    simp only [unflat, List.length_cons]
    rw [unflat_len r vs (by simpa [flatS] using h)]
  | .agg cs :: r, vs, h => by
    simp only [unflat, List.length_cons]
    rw [unflat_len r (vs.drop cs.length) (by simp only [flatS, List.length_append] at h; simp only [List.length_drop]; omega)]
theorem finA_some {Γ : G} : ∀ {l : List Shape} {z : AltT l}, finA Γ l = some z → ∃ s ∈ l, ∃ y, ext s Γ = some y ∧ AltIs l z s y
  | [s], z, h => ⟨s, List.mem_cons_self, z, h, rfl, rfl⟩
  | s :: t :: r, z, h => by
    simp only [finA] at h
    split at h
    · rename_i y hy
      injection h with h
      subst h
      exact ⟨s, List.mem_cons_self, y, hy, rfl, rfl⟩
    · split at h
      · rename_i z' hz
        injection h with h
        subst h
        obtain ⟨s', h1, y, h2, h3⟩ := finA_some (l := t :: r) hz
        exact ⟨s', List.mem_cons_of_mem _ h1, y, h2, h3⟩
      · cases h

theorem fn_ok {P : Program} {E : Env} (hE : EnvOk P E) {f : FuncId} {F : FnI} {fn : Func} {k : Nat} (hf : P.funcs[f]? = some fn) (hname : fn.name ≠ "runtime.NumGoroutine") (hb : fn.body.isSome = true)
    (hsi : F.si.ok { t := [], h := List.replicate F.n .no, lg := [], lf := [] } = true) (hrun : ∀ x, runF E k fn F x = F.F x) : FnOk P f F := by
  refine ⟨hsi, ⟨fn, hf, hb, hname⟩, fun x y hy C w g vals hinv hargs => ?_⟩
  have hr := hrun x
  rw [hy] at hr
  unfold runF at hr
  split at hr
  · rename_i c hc
    split at hr
    · rename_i hcond
      have hlen : vals.size = F.si.tl.length := by
        have := hargs.length
        unfold Shape.outs at this
        rw [unflat_len _ _ (outL_len _ _)] at this
        simpa using this.symm
      have hrel : Rel C g (start fn F x) { tmps := vals ++ Array.replicate (fn.ntmps - vals.size) undef, defers := [] } w := by
        refine ⟨hinv, ?_, rfl⟩
        show All2 _ (F.si.outs x ++ List.replicate (fn.ntmps - F.si.tl.length) (.c .undef)) _
        rw [Array.toList_append]
        refine All2.append hargs ?_
        rw [hlen]
        have : ∀ n, All2 (AVR w g (start fn F x).h) (List.replicate n (.c .undef)) (List.replicate n undef) := by
          intro n
          induction n with
          | zero => exact .nil
          | succ n ih => exact .cons rfl ih
        simpa using this (fn.ntmps - F.si.tl.length)
      refine calls_of_wp hf hc (exec_ok hE k c g _ _ w (fin E fn F) _ hrel hr ?_)
      intro e g' Γ' a' w' h1 h2 h3
      have key : ∀ vs, rescs E Γ' fn.results.toList = some vs → finA { t := vs, h := Γ'.h, lg := Γ'.lg, lf := Γ'.lf } F.so = some y →
          a'.defers = [] ∧ ∃ v, (results fn a'.tmps).run P w' = .ok v w' ∧ ∃ v', Ending.returned v = .returned v' ∧ ∃ s z, AltIs F.so y s z ∧ ∃ g', Inv C w' g' (endH F x s z) ∧ Ext w g (startH F x) w' g' (endH F x s z) ∧ ResR (AVR w' g' (endH F x s z)) (s.outs z) v' ∧
            ∀ id, id ∉ s.ids → Live g (startH F x) id → w'.heap[g.bl id]? = w.heap[g.bl id]? := by
        intro vs hvs hx
        obtain ⟨s, hsm, z, hx, hz⟩ := finA_some hx
        have hcs := List.all_eq_true.1 hcond s hsm
        simp only [Bool.and_eq_true, decide_eq_true_eq] at hcs
        obtain ⟨hti, hok⟩ := hcs
        obtain ⟨v, h4, h5⟩ := results_ok hE.ty h2 hvs
        obtain ⟨vs', ex⟩ := ext_ok hx
        have hvl : ∀ {l : List ResultVar} {vs : List AV}, rescs E Γ' l = some vs → vs.length = l.length := by
          intro l
          induction l with
          | nil => intro vs h; injection h with h; subst h; rfl
          | cons r l ih =>
            intro vs h
            cases r with
            | tmp t =>
              simp only [rescs] at h
              split at h
              · split at h
                · rename_i m hm
                  injection h with h
                  subst h
                  simp [ih hm]
                · cases h
              · cases h
            | cell t ty =>
              simp only [rescs] at h
              split at h
              · rename_i i p hi hp
                obtain ⟨u, _, h7⟩ := h2.t.get t _ hp
                obtain ⟨cs, hk, _⟩ := loadx_ok h2.inv h7 h
                split at hk
                · split at hk
                  · rename_i m hm
                    injection hk with hk
                    subst hk
                    simp [ih hm]
                  · cases hk
                · cases hk
              · cases h
        have hfl : flatV s.tl vs = some vs' := by
          obtain ⟨vs0, h6, h8⟩ := ex.gather
          have h7 : fn.results.size = vs.length := by rw [hvl hvs]; simp
          rw [hti, h7] at h6
          rw [gather_range] at h6
          injection h6 with h6
          rw [h6]; exact h8
        obtain ⟨j1, j2, j3, j4⟩ := join_objs (Γ := start fn F x) (Γ' := { t := vs, h := Γ'.h, lg := Γ'.lg, lf := Γ'.lf }) hinv h2.inv h3.ext (fun id hid => h3.h id (fun hh => hid (ex.lg id hh))) (ok_is hok) ex
        refine ⟨h2.defers, v, h4, v, rfl, s, z, hz, _, j1, j2.ext ⟨fun b o hs => j3 b o (h3.ext.keeps.sub b o hs), h3.ext.keeps.cell⟩ (by rw [setAll_len, fzAll_len]), ResR.map (fun us hu => ?_) h5, fun id hid hl => h3.kept id (fun hh => hid (ex.lg id hh)) hl⟩
        obtain ⟨uvs, k3, k4⟩ := flat_ok (g2 := joinG g' { t := vs, h := Γ'.h, lg := Γ'.lg, lf := Γ'.lf } s vs') (H2 := endH F x s z) hu hfl
        exact k4 _ (j4 uvs k3)
      cases e with
      | exit id => simp [fin] at h1
      | normal =>
        simp only [fin] at h1
        split at h1
        · rename_i vs hvs
          exact key vs hvs h1
        · cases h1
      | ret =>
        simp only [fin] at h1
        split at h1
        · rename_i vs hvs
          exact key vs hvs h1
        · cases h1
    · cases hr
  · cases hr
end Go.Vm
