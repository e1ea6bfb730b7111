/- A small evaluator for the translated code, and the proof that what it computes the code does. -/
import Derived.Test.YtplbdggmaoanjaaVmAB
/-! Soundness, part 25: code. -/
namespace Go.Vm
open Go.RowKit

section
variable {P : Program} {Q : Exit → Act → World → Prop} {a : Act} {w : World}
/-- A loop that comes to its end in at most n rounds. -/
theorem wp_loop_n {c : Code} (I : Nat → Act → World → Prop) (n : Nat) (h₀ : I n a w)
    (round : ∀ n a w, I n a w → c.wp P (Exit.then (fun a' w' => ∃ m, m < n ∧ I m a' w') Q) a w) : (Code.loop c).wp P Q a w := by
  intro b k cs
  have key : ∀ n a w, I n a w →
      ∃ e a' w', Q e a' w' ∧ Arrives P (lone (b.at a (.code c :: .inLoop c :: k)) cs w) b k cs e a' w' := by
    intro n
    induction n using Nat.strongRecOn with
    | _ n ih =>
      intro a w hI
      obtain ⟨e, a₁, w₁, hq, harr⟩ := round n a w hI b (.inLoop c :: k) cs
      cases e with
      | normal =>
        obtain ⟨m, hlt, hI₁⟩ := hq
        obtain ⟨e₂, a₂, w₂, hq₂, harr₂⟩ := ih m hlt a₁ w₁ hI₁
        exact ⟨e₂, a₂, w₂, hq₂, .of_steps (Steps.trans harr (.one step_inLoop)) harr₂⟩
      | exit id => exact ⟨_, a₁, w₁, hq, .pass (x := .inLoop c) rfl (fun _ _ => .inl (by simp)) harr⟩
      | goto l => exact ⟨_, a₁, w₁, hq, .pass (x := .inLoop c) rfl (fun _ _ => .inl (by simp)) harr⟩
      | ret => exact ⟨_, a₁, w₁, hq, .pass (x := .inLoop c) rfl (fun _ _ => .inl (by simp)) harr⟩
      | panic ch => exact ⟨_, a₁, w₁, hq, .pass (x := .inLoop c) rfl (fun _ _ => .inl (by simp)) harr⟩
      | outgrown => exact ⟨_, a₁, w₁, hq, .pass (x := .inLoop c) rfl (fun _ _ => .inl (by simp)) harr⟩
  obtain ⟨e, a', w', hq, harr⟩ := key n a w h₀
  exact ⟨e, a', w', hq, .of_steps (.one step_loop) harr⟩
end

def X.ex : X → Exit
  | .normal => .normal
  | .exit id => .exit id
  | .ret => .ret

/-- The book, with what a shape tells. -/
def G.plus (Γ' : G) (s : Shape) : G := { t := Γ'.t, h := Γ'.h, lg := Γ'.lg ++ s.ids, lf := Γ'.lf ++ s.fz }
theorem ExtOk.plus {s : Shape} {Γ' : G} {vs : List AV} {x : s.kd.T} (ex : ExtOk s Γ' vs x) : ExtOk s (Γ'.plus s) vs x := by
  refine ⟨ex.gather, fun i hi => ?_, fun i hi => ?_, ex.hot, ex.nodup, ex.srcs, ex.place, ex.xt, ex.xb, ex.xr⟩
  · simp only [G.plus, List.mem_append] at hi
    rcases hi with hi | hi
    · exact ex.lg i hi
    · exact hi
  · simp only [G.plus, List.mem_append] at hi
    rcases hi with hi | hi | hi
    · exact ex.reads i (by simp only [List.mem_append]; exact .inl hi)
    · exact ex.reads i (by simp only [List.mem_append]; exact .inr hi)
    · exact List.mem_append_left _ hi

section
variable {R : Type} {P : Program} {C : Ctx} {E : Env} {r : R}

theorem Rel.fresh {g : Gh} {Γ : G} {a : Act} {w : World} (h : Rel C g Γ a w) : Rel C g Γ.fresh a w := ⟨h.inv, h.t, h.defers⟩
theorem Rel.book {g : Gh} {Γ Γ' : G} {a : Act} {w : World} (h : Rel C g Γ a w) (h1 : Γ'.t = Γ.t) (h2 : Γ'.h = Γ.h) : Rel C g Γ' a w := by
  obtain ⟨t, hh, lg, lf⟩ := Γ
  obtain ⟨t', hh', lg', lf'⟩ := Γ'
  simp only at h1 h2
  subst h1 h2
  exact ⟨h.inv, h.t, h.defers⟩

/-- What a way's end may be. -/
def Ends (C : Ctx) (D : List Nat) (g : Gh) (Γ : G) (w : World) (K : X → G → Option R) (r : R) (Q : Exit → Act → World → Prop) : Prop :=
  ∀ e g' Γ' a' w', K e Γ' = some r → Rel C g' Γ' a' w' → Tr D g Γ w g' Γ' w' → Q e.ex a' w'
end
end Go.Vm
