/- A small evaluator for the translated code, and the proof that what it computes the code does. -/
import Derived.Test.YtplbdggmaoanjaaVmAA
/-! Soundness, part 24: operations in their order. -/
namespace Go.Vm
open Go.RowKit

section
variable {R : Type} {P : Program} {C : Ctx} {E : Env} {all : Array Oper} {K : G → Option R} {r : R}

theorem put_same {Γ : G} {d : Nat} {v : AV} (h : Γ.t[d]? = some v) : Γ.put (some d) v = Γ := by
  obtain ⟨t, hh, lg, lf⟩ := Γ
  simp only [G.put, G.mk.injEq, and_true]
  apply List.ext_getElem?
  intro i
  rw [List.getElem?_set]
  split
  · rename_i e
    subst e
    simp only at h
    rw [h, if_pos (List.getElem?_eq_some_iff.1 h).1]
  · rfl

theorem opsx_ok (hE : EnvOk P E) {Q : Exit → Act → World → Prop} : ∀ (l : List Oper) (g : Gh) (Γ : G) (a : Act) (w : World), Rel C g Γ a w → opsx E all l Γ K = some r →
    (∀ g' Γ' a' w', K Γ' = some r → Rel C g' Γ' a' w' → Tr (opDsts l) g Γ w g' Γ' w' → Q .normal a' w') → wpList P all Q l a w
  | [], g, Γ, a, w, h, hK, hn => hn g Γ a w hK h (Tr.refl _ _ _ _)
  | o :: l, g, Γ, a, w, h, hK, hn => by
    have hD : opDsts (o :: l) = o.dst.toList ++ opDsts l := by
      simp only [opDsts]
      cases o.dst <;> rfl
    refine wpList_step fun K0 hK0 => ?_
    have run : opx E Γ o (fun Γ' => opsx E all l Γ' K) = some r → o.wp P a w K0 Q := by
      intro h1
      refine goes_op hE h h1 K0 Q fun g' Γ' a' w' h2 h3 h4 => hK0 _ _ (opsx_ok hE l g' Γ' a' w' h3 h2 fun g2 Γ2 a2 w2 h5 h6 h7 => hn g2 Γ2 a2 w2 h5 h6 ?_)
      rw [hD]
      exact (h4.mono fun x hx => List.mem_append_left _ hx).trans (h7.mono fun x hx => List.mem_append_right _ hx)
    have skip : opsx E all l (Γ.put o.dst (.c .undef)) K = some r → K0 (a.put o.dst undef) w := by
      intro h1
      have h2 : Rel C g (Γ.put o.dst (.c .undef)) (a.put o.dst undef) w := h.put (av := .c .undef) (v := undef) rfl o.dst
      refine hK0 _ _ (opsx_ok hE l g _ _ w h2 h1 fun g2 Γ2 a2 w2 h5 h6 h7 => hn g2 Γ2 a2 w2 h5 h6 ?_)
      rw [hD]
      have := (Tr.refl [] g Γ w).put o.dst (.c .undef)
      exact (this.mono fun x hx => by rw [List.append_nil] at hx; exact List.mem_append_left _ hx).trans (h7.mono fun x hx => List.mem_append_right _ hx)
    simp only [opsx] at hK
    split at hK
    · rename_i hg
      rw [if_pos (by simp [Region.wanted, hg])]
      exact run hK
    · rename_i j want hg
      split at hK
      · rename_i d hd
        split at hK
        · rename_i b hb
          obtain ⟨u, hu, hv⟩ := h.t.get d _ hb
          have hu' : a.tmps[d]? = some (.bool b) := by
            have : u = .bool b := hv
            rw [this] at hu
            simpa using hu
          have hy : yielded all a.tmps j = some b := by
            simp [yielded, hd, hu']
          have hw : Region.wanted o (yielded all a.tmps) = (b == want) := by
            simp only [Region.wanted, hg, hy]
            cases b <;> cases want <;> rfl
          rw [hw]
          have hps := put_same hb
          cases b
          · rw [hps] at hK
            cases want
            · exact run hK
            · exact skip hK
          · rw [hps] at hK
            cases want
            · exact skip hK
            · exact run hK
        · rename_i hb
          obtain ⟨u, hu, hv⟩ := h.t.get d _ hb
          have hu' : a.tmps[d]? = some undef := by
            have : u = undef := hv
            rw [this] at hu
            simpa using hu
          have hy : yielded all a.tmps j = none := by
            simp [yielded, hd, hu', undef]
          rw [if_neg (by simp [Region.wanted, hg, hy])]
          exact skip hK
        · cases hK
      · cases hK
end
end Go.Vm
