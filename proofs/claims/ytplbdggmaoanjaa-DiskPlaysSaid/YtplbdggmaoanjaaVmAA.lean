/- A small evaluator for the translated code, and the proof that what it computes the code does. -/
import Derived.Test.YtplbdggmaoanjaaVmZ
/-! Soundness, part 23: each operation. -/
namespace Go.Vm
open Go.RowKit

structure EnvOk (P : Program) (E : Env) : Prop where
  ty : EnvTy P E
  fn : EnvFn P E
  mixed : P.follows .mixedOrders = true

section
variable {R : Type} {P : Program} {C : Ctx} {E : Env} {o : Oper} {g : Gh} {Γ : G} {a : Act} {w : World} {K : G → Option R} {r : R}

theorem goes_opcall (hE : EnvOk P E) {c : Call} (h : Rel C g Γ a w) (ho : o.op = .call c) (hK : opx E Γ o K = some r) : Goes P C o g Γ a w K r := by
  obtain ⟨callee, args, argTypes⟩ := c
  have hK0 := hK
  simp only [opx, ho] at hK
  split at hK
  · rename_i x
    split at hK
    · rename_i f k y hx
      exact goes_call hE.fn h ho rfl hx hK
    · cases hK
  · exact goes_len hE.ty h ho hK0
  · split at hK
    · rename_i s x t t' d e1 e2 hd
      split at hK
      · rename_i hty
        split at hK
        · rename_i i cs cx hi es ex
          split at hK
          · rename_i e hde
            split at hK
            · rename_i ie hie
              split at hK
              · rename_i hsz
                have h1 : args = #[s, x] := by rw [← Array.toArray_toList (xs := args), e1]
                have h2 : argTypes = #[t, t'] := by rw [← Array.toArray_toList (xs := argTypes), e2]
                exact goes_append (ts := #[]) hE.ty h ho rfl h1 h2 hd hty hi hde hie hsz.1 hsz.2.1 hsz.2.2 es ex hK
              · cases hK
            · cases hK
          · cases hK
        · cases hK
      · cases hK
    · cases hK
  · exact goes_min h ho hK0
  · cases hK

theorem goes_op (hE : EnvOk P E) (h : Rel C g Γ a w) (hK : opx E Γ o K = some r) : Goes P C o g Γ a w K r := by
  cases ho : o.op with
  | move x => exact goes_move h (.inl ho) (by simpa only [opx, ho] using hK)
  | assign x => exact goes_move h (.inr ho) (by simpa only [opx, ho] using hK)
  | pick c x y => exact goes_pick h ho hK
  | binOp op t x y ty => exact goes_binOp hE.ty h ho hK
  | unOp op t x => exact goes_unOp h ho hK
  | convert s d x => exact goes_convert hE.ty h ho hK
  | nilCheck x => exact goes_nilCheck h ho hK
  | box t x => exact goes_box h ho hK
  | alloc t => exact goes_alloc hE.ty h ho hK
  | load t x => exact goes_load hE.ty h ho hK
  | store t x y => exact goes_store hE.ty h ho hK
  | fieldAddr s x f => exact goes_fieldAddr hE.ty h ho hK
  | indexAddr t x ix => exact goes_indexAddr hE.ty h ho hK
  | index t x ix => exact goes_index hE.ty h ho hK
  | slice t x lo hi mx => exact goes_slice hE.ty h ho hK
  | build t parts => exact goes_build hE.ty h ho hK
  | buildSlice t n parts => exact goes_buildSlice hE.ty h ho hK
  | makeSlice t n c => exact goes_makeSlice hE.ty h ho hK
  | extract x j => exact goes_extract h ho hK
  | makeFunc fn first cs => exact goes_makeFunc h ho hK
  | call c => exact goes_opcall hE h ho hK
  | _ => simp only [opx, ho] at hK; cases hK
end
end Go.Vm
