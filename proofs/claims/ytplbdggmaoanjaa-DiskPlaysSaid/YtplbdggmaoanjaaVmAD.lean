/- A small evaluator for the translated code, and the proof that what it computes the code does. -/
import Derived.Test.YtplbdggmaoanjaaVmDR
/-! Soundness, part 26: code, by its form. -/
namespace Go.Vm
open Go.RowKit

theorem pickS_ok {Γ : G} : ∀ {l : List Shape} {s : Shape}, pickS Γ l = some s → s.ok Γ = true
  | a :: r, s, h => by
    simp only [pickS] at h
    split at h
    · rename_i h1
      injection h with h
      rw [← h]; exact h1
    · exact pickS_ok h

theorem loop_or (c : Code) : (∃ c', c = .loop c') ∨ ∀ c', c ≠ .loop c' := by
  cases c <;> first | exact .inl ⟨_, rfl⟩ | exact .inr (fun _ h => by cases h)

section
variable {R : Type} {P : Program} {C : Ctx} {E : Env} {r : R}

theorem exec_block {k : Nat} {id : Nat} {c : Code} {Γ : G} {K : X → G → Option R} (h : ∀ c', c ≠ .loop c') :
    exec E k (.block id c) Γ K = exec E k c Γ fun e Γ' => match e with
    | .exit id' => if id' = id then K .normal Γ' else K (.exit id') Γ'
    | e => K e Γ' := by
  cases c <;> first | exact absurd rfl (h _) | rfl

theorem Ends.trans {D D1 D2 : List Nat} {g g1 : Gh} {Γ Γ1 : G} {w w1 : World} {K : X → G → Option R} {Q : Exit → Act → World → Prop} (h : Ends C D g Γ w K r Q) (ht : Tr D1 g Γ w g1 Γ1 w1) (h1 : ∀ x ∈ D1, x ∈ D) (h2 : ∀ x ∈ D2, x ∈ D) :
    Ends C D2 g1 Γ1 w1 K r Q := fun e g' Γ' a' w' k1 k2 k3 => h e g' Γ' a' w' k1 k2 ((ht.mono h1).trans (k3.mono h2))

theorem ExtOk.after' {s : Shape} {Γ Γ' : G} {vs : List AV} {x : s.kd.T} (ex : ExtOk s Γ' vs x) : ExtOk s (Γ'.after Γ.fresh s) vs x := by
  refine ⟨ex.gather, fun i hi => ?_, fun i hi => ?_, ex.hot, ex.nodup, ex.srcs, ex.place, ex.xt, ex.xb, ex.xr⟩
  · simp only [G.after, G.fresh, List.mem_append, List.not_mem_nil, or_false] at hi
    rcases hi with hi | hi
    · exact ex.lg i hi
    · exact hi
  · simp only [G.after, G.fresh, List.mem_append, List.not_mem_nil, or_false] at hi
    rcases hi with hi | hi | hi
    · exact ex.reads i (by simp only [List.mem_append]; exact .inl hi)
    · exact ex.reads i (by simp only [List.mem_append]; exact .inr hi)
    · exact List.mem_append_left _ hi
/-- A round's book, with what was told at its head. -/
theorem Tr.round {D : List Nat} {g g1 g2 : Gh} {Γ Γ1 Γ2 : G} {w w1 w2 : World} {s : Shape} (h : Tr D g Γ.fresh w g1 (Γ1.after Γ.fresh s) w1) (k : Tr D g1 Γ1 w1 g2 Γ2 w2) : Tr D g Γ.fresh w g2 (Γ2.after Γ.fresh s) w2 := by
  refine h.trans ⟨k.ext, k.t, k.tl, fun id hn => ?_, fun id hi => ?_, fun id hi => ?_, fun id hn hl => k.kept id (fun hh => hn (by simp [G.after, hh])) hl⟩
  · rcases k.h id (fun hh => hn (by simp [G.after, hh])) with h1 | ⟨h1, h2⟩
    · exact .inl h1
    · exact .inr ⟨by simp [G.after, h1], h2⟩
  · simp only [G.after, List.mem_append] at hi ⊢
    rcases hi with (hi | hi) | hi
    · exact .inl (.inl (k.lg id hi))
    · exact .inl (.inr hi)
    · exact .inr hi
  · simp only [G.after, List.mem_append] at hi ⊢
    rcases hi with (hi | hi) | hi
    · exact .inl (.inl (k.lf id hi))
    · exact .inl (.inr hi)
    · exact .inr hi
theorem Tr.unfresh {D : List Nat} {g g2 : Gh} {Γ Γ2 : G} {w w2 : World} {s : Shape} (h : Tr D g Γ.fresh w g2 (Γ2.after Γ.fresh s) w2) : Tr D g Γ w g2 (Γ2.after Γ s) w2 := by
  refine ⟨h.ext, h.t, h.tl, fun id hn => ?_, fun id hi => by simp [G.after, hi], fun id hi => by simp [G.after, hi], fun id hn hl => h.kept id (fun hh => hn (by
    simp only [G.after, G.fresh, List.mem_append, List.not_mem_nil, or_false] at hh ⊢
    exact .inl hh)) hl⟩
  rcases h.h id (fun hh => hn (by
    simp only [G.after, G.fresh, List.mem_append, List.not_mem_nil, or_false] at hh ⊢
    exact .inl hh)) with h1 | ⟨h1, h2⟩
  · exact .inl h1
  · refine .inr ⟨?_, h2⟩
    simp only [G.after, G.fresh, List.mem_append, List.not_mem_nil, or_false] at h1 ⊢
    exact .inl h1

theorem exec_ok (hE : EnvOk P E) (k : Nat) : ∀ (c : Code) (g : Gh) (Γ : G) (a : Act) (w : World) (K : X → G → Option R) (Q : Exit → Act → World → Prop), Rel C g Γ a w → exec E k c Γ K = some r → Ends C (dsts c) g Γ w K r Q → c.wp P Q a w
  | .skip, g, Γ, a, w, K, Q, h, hK, hn => wp_skip (hn .normal g Γ a w hK h (Tr.refl _ _ _ _))
  | .exit id, g, Γ, a, w, K, Q, h, hK, hn => wp_exit (hn (.exit id) g Γ a w hK h (Tr.refl _ _ _ _))
  | .ret, g, Γ, a, w, K, Q, h, hK, hn => wp_ret (hn .ret g Γ a w hK h (Tr.refl _ _ _ _))
  | .region id ops draw, g, Γ, a, w, K, Q, h, hK, hn => by
    simp only [exec] at hK
    split at hK
    · split at hK
      · cases hK
      · rename_i hd
        cases draw with
        | true => exact absurd rfl hd
        | false => exact wp_region_list (opsx_ok hE ops.toList g Γ a w h hK fun g' Γ' a' w' h1 h2 h3 => hn .normal g' Γ' a' w' h1 h2 h3)
    · split at hK
      · cases hK
      rename_i s hs
      have hok := pickS_ok hs
      split at hK
      · rename_i hc
        obtain ⟨x, hx, hK⟩ := Option.bind_eq_some_iff.1 hK
        have key : ∀ g' Γ' a' w', ext s Γ' = some x → Rel C g' Γ' a' w' → Tr (opDsts ops.toList) g Γ.fresh w g' Γ' w' → Q .normal a' w' := by
          intro g' Γ' a' w' h1 h2 h3
          obtain ⟨vs, ex⟩ := ext_ok h1
          obtain ⟨g2, h4, h5⟩ := join_ok h h2 h3 hok (allIn_ok hc) ex
          exact hn .normal g2 _ a' w' hK h4 h5
        cases draw with
        | false => exact wp_region_list (opsx_ok hE ops.toList g Γ.fresh a w h.fresh hx key)
        | true =>
          simp only at hx
          split at hx
          · rename_i hdr
            exact drawn_ok hE hdr h.fresh hx (fun Γ1 Γ2 e1 e2 e3 e4 => ext_same s e1 e2 e3 e4) key
          · cases hx
      · cases hK
  | .seq x y, g, Γ, a, w, K, Q, h, hK, hn => by
    simp only [exec] at hK
    split at hK
    · refine wp_seq (exec_ok hE k x g Γ a w _ _ h hK ?_)
      intro e g1 Γ1 a1 w1 h1 h2 h3
      cases e with
      | normal => exact exec_ok hE k y g1 Γ1 a1 w1 K Q h2 h1 (hn.trans h3 (fun _ hx => List.mem_append_left _ hx) (fun _ hx => List.mem_append_right _ hx))
      | exit id => exact hn _ g1 Γ1 a1 w1 h1 h2 (h3.mono fun _ hx => List.mem_append_left _ hx)
      | ret => exact hn _ g1 Γ1 a1 w1 h1 h2 (h3.mono fun _ hx => List.mem_append_left _ hx)
    · split at hK
      · cases hK
      rename_i s hs
      have hok := pickS_ok hs
      split at hK
      · rename_i hc
        simp only [jn] at hK
        refine wp_seq (exec_ok hE k x g Γ.fresh a w _ _ h.fresh hK ?_)
        intro e g1 Γ1 a1 w1 h1 h2 h3
        cases e with
        | normal =>
          simp only at h1
          split at h1
          · rename_i z hz
            obtain ⟨vs, ex⟩ := ext_ok hz
            obtain ⟨g2, h4, h5⟩ := join_ok h h2 h3 hok (allIn_ok hc) ex
            exact exec_ok hE k y g2 _ a1 w1 K Q h4 h1 (hn.trans h5 (fun _ hx => List.mem_append_left _ hx) (fun _ hx => List.mem_append_right _ hx))
          · cases h1
        | exit id => exact hn _ g1 _ a1 w1 h1 (h2.book rfl rfl) ((h3.after s).mono fun _ hx => List.mem_append_left _ hx)
        | ret => exact hn _ g1 _ a1 w1 h1 (h2.book rfl rfl) ((h3.after s).mono fun _ hx => List.mem_append_left _ hx)
      · cases hK
  | .cond c x y, g, Γ, a, w, K, Q, h, hK, hn => by
    simp only [exec] at hK
    split at hK
    · rename_i t ht
      have hv := h.ev c
      rw [ht] at hv
      have hv : a.eval c = .bool t := hv
      cases t with
      | true => exact wp_cond_true hv (exec_ok hE k x g Γ a w K Q h hK (hn.trans (Tr.refl [] _ _ _) (fun _ hx => by cases hx) (fun _ hx => List.mem_append_left _ hx)))
      | false => exact wp_cond_false hv (exec_ok hE k y g Γ a w K Q h hK (hn.trans (Tr.refl [] _ _ _) (fun _ hx => by cases hx) (fun _ hx => List.mem_append_right _ hx)))
    · cases hK
  | .block id c, g, Γ, a, w, K, Q, h, hK, hn => by
    rcases loop_or c with ⟨c', rfl⟩ | hne
    · simp only [exec] at hK
      split at hK
      · cases hK
      · rename_i s hs
        split at hK
        · rename_i hc
          have hti := allIn_ok hc
          have hok0 := pickS_ok hs
          have hok : s.ok Γ.fresh = true := hok0
          split at hK
          · rename_i x hx
            refine wp_block (wp_loop_n (fun n a' w' => ∃ x g', Rel C g' (inj s (dsts c') Γ x) a' w' ∧ Tr (dsts c') g Γ.fresh w g' ((inj s (dsts c') Γ x).after Γ.fresh s) w' ∧
              loopX (fun x j => exec E k c' (inj s (dsts c') Γ x) fun e Γ' => match e with
                | .normal => match ext s Γ' with
                  | some y => j y
                  | none => none
                | .exit id' => if id' = id then K .normal (Γ'.after Γ s) else K (.exit id') (Γ'.after Γ s)
                | .ret => K .ret (Γ'.after Γ s)) n x = some r) k ?_ ?_)
            · obtain ⟨vs, ex⟩ := ext_ok hx
              obtain ⟨g2, h4, h5⟩ := join_ok (Γ := Γ.fresh) h.fresh h.fresh (Tr.refl _ _ _ _) hok hti ex
              exact ⟨x, g2, h4.book rfl rfl, h5, hK⟩
            · rintro n a1 w1 ⟨x1, g1, h1, h2, h3⟩
              cases n with
              | zero => simp [loopX] at h3
              | succ n =>
                simp only [loopX] at h3
                refine exec_ok hE k c' g1 _ a1 w1 _ _ h1 h3 ?_
                intro e g2 Γ2 a2 w2 k1 k2 k3
                have k4 := h2.round k3
                cases e with
                | normal =>
                  simp only at k1
                  split at k1
                  · rename_i y hy
                    obtain ⟨vs, ex⟩ := ext_ok hy
                    obtain ⟨g3, h4, h5⟩ := join_ok (Γ := Γ.fresh) h.fresh (Γ' := Γ2.after Γ.fresh s) (k2.book rfl rfl) k4 hok hti (ExtOk.after' ex)
                    exact ⟨n, Nat.lt_succ_self n, y, g3, h4.book rfl rfl, h5, k1⟩
                  · cases k1
                | exit id' =>
                  simp only at k1
                  simp only [X.ex, Exit.then, Exit.inBlock]
                  split at k1
                  · rename_i he
                    rw [if_pos he]
                    exact hn .normal g2 _ a2 w2 k1 (k2.book rfl rfl) k4.unfresh
                  · rename_i he
                    rw [if_neg he]
                    exact hn (.exit id') g2 _ a2 w2 k1 (k2.book rfl rfl) k4.unfresh
                | ret => exact hn .ret g2 _ a2 w2 k1 (k2.book rfl rfl) k4.unfresh
          · cases hK
        · cases hK
    · rw [exec_block hne] at hK
      refine wp_block (exec_ok hE k c g Γ a w _ _ h hK ?_)
      intro e g1 Γ1 a1 w1 h1 h2 h3
      cases e with
      | normal => exact hn _ g1 Γ1 a1 w1 h1 h2 h3
      | exit id' =>
        simp only at h1
        simp only [X.ex, Exit.inBlock]
        split at h1
        · rename_i he
          rw [if_pos he]
          exact hn .normal g1 Γ1 a1 w1 h1 h2 h3
        · rename_i he
          rw [if_neg he]
          exact hn (.exit id') g1 Γ1 a1 w1 h1 h2 h3
      | ret => exact hn _ g1 Γ1 a1 w1 h1 h2 h3
  | .loop _, _, _, _, _, _, _, _, hK, _ => by simp [exec] at hK
  | .rangeFunc _ _ _ _, _, _, _, _, _, _, _, hK, _ => by simp [exec] at hK
  | .scope _, _, _, _, _, _, _, _, hK, _ => by simp [exec] at hK
  | .label _, _, _, _, _, _, _, _, hK, _ => by simp [exec] at hK
  | .goto _, _, _, _, _, _, _, _, hK, _ => by simp [exec] at hK
  | .refuse _, _, _, _, _, _, _, _, hK, _ => by simp [exec] at hK
termination_by c => SizeOf.sizeOf c
end
end Go.Vm
