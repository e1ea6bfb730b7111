/- A small evaluator for the translated code, and the proof that what it computes the code does. -/
import Derived.Test.YtplbdggmaoanjaaVmAD
/-! Soundness, part 27: functions. -/
namespace Go.Vm
open Go.RowKit

section
variable {R : Type} {P : Program} {C : Ctx} {E : Env} {g : Gh} {Γ : G} {a : Act} {w : World}

/-- One result. -/
def resOne (tmps : Array Value) : ResultVar → Sem Value
  | .tmp t => pure (tmps.getD t undef)
  | .cell a t => do loadVar t (← asAddr (tmps.getD a undef))

theorem res_one (hE : EnvTy P E) (h : Rel C g Γ a w) : ∀ {l : List ResultVar} {vs : List AV}, rescs E Γ l = some vs → ∃ us, (l.mapM (resOne a.tmps)).run P w = .ok us w ∧ All2 (AVR w g Γ.h) vs us
  | [], vs, hr => by
    injection hr with hr
    subst hr
    exact ⟨[], by simp, .nil⟩
  | .tmp t :: r, vs, hr => by
    simp only [rescs] at hr
    split at hr
    · rename_i v hv
      split at hr
      · rename_i m hm
        injection hr with hr
        subst hr
        obtain ⟨us, h1, h2⟩ := res_one hE h hm
        obtain ⟨u, h3, h4⟩ := h.t.get t v hv
        have h5 : a.tmps.getD t undef = u := by
          have : a.tmps[t]? = some u := by simpa using h3
          rw [Array.getD_eq_getD_getElem?, this]
          rfl
        refine ⟨u :: us, ?_, .cons h4 h2⟩
        rw [List.mapM_cons]
        simp only [resOne, h5]
        simp [h1]
      · cases hr
    · cases hr
  | .cell t ty :: r, vs, hr => by
    simp only [rescs] at hr
    split at hr
    · rename_i i p hi hp
      obtain ⟨u, h3, h4⟩ := h.t.get t _ hp
      have h5 : a.tmps.getD t undef = u := by
        have : a.tmps[t]? = some u := by simpa using h3
        rw [Array.getD_eq_getD_getElem?, this]
        rfl
      obtain ⟨cs, hk, hlen, b, off, ws, e1, h6, h7⟩ := loadx_ok h.inv h4 hr
      have hty := hE.ty ty i hi
      have hl := h7.length
      have hrun := run_loadAt hty w (us := ws) (by omega) h6
      split at hk
      · rename_i v hv
        split at hk
        · rename_i m hm
          injection hk with hk
          subst hk
          obtain ⟨us, h1, h2⟩ := res_one hE h hm
          have key : ∃ uv, (loadVar ty ⟨b, off, none⟩).run P w = .ok uv w ∧ AVR w g Γ.h v uv := by
            cases ha : i.agg with
            | true =>
              rw [ha] at hv
              injection hv with hv
              subst hv
              have := hrun.1 ha
              simp only [Instr.loadAt, Instr.sureAddr] at this
              exact ⟨.agg ws.toArray, by simpa using this, ws.toArray, rfl, by simpa using h7⟩
            | false =>
              rw [ha] at hv
              cases h7 with
              | nil => cases hv
              | cons h8 h9 =>
                cases h9 with
                | nil =>
                  injection hv with hv
                  subst hv
                  have := hrun.2 ha _ rfl
                  simp only [Instr.loadAt, Instr.sureAddr] at this
                  exact ⟨_, by simpa using this, h8.1⟩
                | cons _ _ => cases hv
          obtain ⟨uv, h8, h9⟩ := key
          refine ⟨uv :: us, ?_, .cons h9 h2⟩
          rw [List.mapM_cons]
          simp only [resOne, h5, e1]
          simp [asAddr, h8, h1]
        · cases hk
      · cases hk
    · cases hr

theorem results_ok (hE : EnvTy P E) (h : Rel C g Γ a w) {fn : Func} {vs : List AV} (hr : rescs E Γ fn.results.toList = some vs) : ∃ v, (results fn a.tmps).run P w = .ok v w ∧ ResR (AVR w g Γ.h) vs v := by
  obtain ⟨us, h1, h2⟩ := res_one hE h hr
  have h3 : (fn.results.mapM (resOne a.tmps)).run P w = .ok us.toArray w := by
    rw [Array.mapM_eq_mapM_toList]
    simp [h1]
  refine ⟨if hh : us.toArray.size = 1 then us.toArray[0] else .tuple us.toArray, ?_, ?_⟩
  · unfold results
    show (fn.results.mapM (resOne a.tmps) >>= _).run P w = _
    simp [h3]
  · cases h2 with
    | nil => exact ⟨#[], rfl, .nil⟩
    | cons h4 h5 =>
      cases h5 with
      | nil => exact h4
      | cons h6 h7 => exact ⟨_, rfl, .cons h4 (.cons h6 h7)⟩
end
end Go.Vm
