/- A small evaluator for the translated code, and the proof that what it computes the code does. -/
import Derived.Test.YtplbdggmaoanjaaVmI
import Derived.Great.BuildSlice
/-! Soundness, part 8: places, parts, lengths. -/
namespace Go.Vm
open Go.RowKit

section
variable {R : Type} {P : Program} {C : Ctx} {E : Env} {o : Oper} {g g' : Gh} {Γ Γ1 : G} {a : Act} {w w' : World} {K : G → Option R} {r : R} {H : List Obj}

theorem goes_fieldAddr (hE : EnvTy P E) {s : TypeId} {x : Operand} {f : Nat} (h : Rel C g Γ a w) (ho : o.op = .fieldAddr s x f) (hK : opx E Γ o K = some r) : Goes P C o g Γ a w K r := by
  simp only [opx, ho] at hK
  have hx := h.ev x
  split at hK
  · rename_i i p hi hp
    rw [hp] at hx
    split at hK
    · rename_i offs hd
      split at hK
      · rename_i n m hf
        split at hK
        · rename_i q hq
          obtain ⟨fs, y, ti, h1, h2, h3, h4, h5⟩ := (hE.ty s i hi).field hd hf
          have fin : ∀ b off, a.eval x = .pointer (some ⟨b, off, none⟩) → VR w g Γ.h q (.pointer (some ⟨b, off + n, none⟩)) → Goes P C o g Γ a w K r := by
            intro b off he hv
            refine goes_same h (v := .pointer (some ⟨b, off + n, none⟩)) (av := .c q) ?_ hv hK
            simp [execOp, ho, he, Instr.fieldAt, Instr.sureAddr, run_underlying h1, h2, fieldPlace, sizeOf, typeInfo, h4, h5, h3, add_mk]
          unfold addOff at hq
          split at hq
          · rename_i id off
            injection hq with hq
            subst hq
            obtain ⟨h6, h7⟩ := hx
            exact fin _ _ h7 ⟨h6, rfl⟩
          · rename_i k z off
            injection hq with hq
            subst hq
            obtain ⟨b, o', us, h6, h7, h8⟩ := hx
            exact fin _ _ h6 ⟨b, o', us, by rw [Nat.add_assoc], h7, h8⟩
          · rename_i id ver j off
            split at hq
            · rename_i e k l ver' fz hob
              split at hq
              · rename_i hv
                injection hq with hq
                subst hq
                obtain ⟨e2, k2, l2, ver2, fz2, h6, h7, h8⟩ := hx
                rw [hob] at h6
                cases h6
                obtain ⟨h9, h10, h11⟩ := h8 hv
                exact fin _ _ h11 ⟨e, k, l, ver', fz, hob, h7, fun _ => ⟨h9, h10, by rw [Nat.add_assoc]⟩⟩
              · cases hq
            · cases hq
          · cases hq
        · cases hK
      · cases hK
    · cases hK
  · cases hK

theorem elemSz_is (hE : EnvTy P E) {t : TypeId} {n : Nat} (h : elemSz E t = some n) : ∃ e ti, P.underlying t = some (.slice e) ∧ P.info? e = some ti ∧ ti.size = n := by
  unfold elemSz at h
  split at h
  · rename_i i hi
    split at h
    · rename_i e he
      split at h
      · rename_i ie hie
        injection h with h
        obtain ⟨ti, d, z, h1, _, h3, _⟩ := (hE.ty e ie hie).ex
        exact ⟨e, ti, (hE.ty t i hi).slice he, h1, by rw [h3, h]⟩
      · cases h
    · cases h
  · cases h
theorem isStrTy_is (hE : EnvTy P E) {t : TypeId} (h : isStrTy E t = true) : P.underlying t = some .string := by
  unfold isStrTy at h
  split at h
  · rename_i i hi
    split at h
    · rename_i hd
      exact (hE.ty t i hi).str hd
    · cases h
  · cases h

theorem rd_some {α : Type} {l : List α} {i : Int} {y : α} (h : rd l i = some y) : 0 ≤ i ∧ ∃ hlt : i.toNat < l.length, l[i.toNat] = y := by
  unfold rd at h
  split at h
  · rename_i h0
    obtain ⟨h1, h2⟩ := List.getElem?_eq_some_iff.1 h
    exact ⟨h0, h1, h2⟩
  · cases h

theorem run_indexAt_slice {t e : TypeId} {ti : TypeInfo} (hu : P.underlying t = some (.slice e)) (hi : P.info? e = some ti) (w : World) (b off len cap : Nat) (k : IntKind) (i : Int) (h0 : 0 ≤ i) (h1 : i < len) :
    (Instr.indexAt t (.slice (some ⟨b, off, none⟩) len cap) (.int k i)).run P w = .ok (.pointer (some ⟨b, off + i.toNat * ti.size, none⟩)) w := by
  simp [Instr.indexAt, asIntOf, run_underlying hu, h0, h1, sizeOf, typeInfo, hi, add_mk]

theorem goes_indexAddr (hE : EnvTy P E) {t : TypeId} {x ix : Operand} (h : Rel C g Γ a w) (ho : o.op = .indexAddr t x ix) (hK : opx E Γ o K = some r) : Goes P C o g Γ a w K r := by
  simp only [opx, ho] at hK
  have hx := h.ev x
  have hi := h.ev ix
  split at hK
  · rename_i k l ik i e1 e2
    rw [e1] at hx
    rw [e2] at hi
    have ei : a.eval ix = .int ik i := hi
    split at hK
    · rename_i hsz
      obtain ⟨e, ti, hu, hti, hs⟩ := elemSz_is hE hsz
      obtain ⟨y, hy, hk⟩ := Option.bind_eq_some_iff.1 hK
      obtain ⟨h0, hlt, rfl⟩ := rd_some hy
      have hx' : RdV w g.St (.slice k) [a.eval x] l := hx
      simp only [RdV] at hx'
      obtain ⟨A, c, he, hc, hr⟩ := hx'
      obtain ⟨b, off, rfl, hel⟩ := hr (by omega)
      obtain ⟨us, h1, h2⟩ := hel _ hlt
      simp only [List.cons.injEq, and_true] at he
      refine goes_same h (v := .pointer (some ⟨b, off + i.toNat * k.size, none⟩)) (av := .c (.rptr k l[i.toNat] 0)) ?_ ⟨b, _, us, by rw [Nat.add_zero], h1, h2⟩ hk
      simp [execOp, ho, he, ei, run_indexAt_slice hu hti w b off l.length c ik i h0 (by omega), hs]
    · cases hK
  · rename_i id ver ik i e1 e2
    rw [e1] at hx
    rw [e2] at hi
    have ei : a.eval ix = .int ik i := hi
    split at hK
    · rename_i e0 k l ver' fz hob
      split at hK
      · rename_i hc
        obtain ⟨hc1, hsz⟩ := hc
        obtain ⟨e, ti, hu, hti, hs⟩ := elemSz_is hE hsz
        obtain ⟨y, hy, hk⟩ := Option.bind_eq_some_iff.1 hK
        obtain ⟨h0, hlt, _⟩ := rd_some hy
        obtain ⟨e2', k2, l2, ver2, fz2, h6, h7, h8⟩ := hx
        rw [hob] at h6
        cases h6
        have hv := h8 hc1
        rcases h.inv.obj id _ hob with ⟨_, hnil⟩ | ⟨cap, cur, h9, h10, _⟩
        · rw [hnil] at hlt
          simp at hlt
        · rw [h9] at hv
          refine goes_same h (v := .pointer (some ⟨g.bl id, 0 + i.toNat * k.size, none⟩)) (av := .c (.eptr id ver i 0)) ?_ ⟨e0, k, l, ver', fz, hob, h7, fun _ => ⟨h0, by omega, by simp⟩⟩ hk
          simp [execOp, ho, hv, ei, run_indexAt_slice hu hti w (g.bl id) 0 l.length cap ik i h0 (by omega), hs]
      · cases hK
    · cases hK
  · cases hK

theorem goes_index (hE : EnvTy P E) {t : TypeId} {x ix : Operand} (h : Rel C g Γ a w) (ho : o.op = .index t x ix) (hK : opx E Γ o K = some r) : Goes P C o g Γ a w K r := by
  simp only [opx, ho] at hK
  have hx := h.ev x
  have hi := h.ev ix
  split at hK
  · rename_i s ik i e1 e2
    rw [e1] at hx
    rw [e2] at hi
    have ei : a.eval ix = .int ik i := hi
    have ex : a.eval x = .string s := hx
    split at hK
    · rename_i hst
      have hu := isStrTy_is hE hst
      obtain ⟨y, hy, hk⟩ := Option.bind_eq_some_iff.1 hK
      obtain ⟨h0, hlt, rfl⟩ := rd_some hy
      have hlt' : i.toNat < s.size := by simpa [strBytes] using hlt
      refine goes_same h (v := .int .u8 (s[i.toNat]'hlt').toNat) (av := .c (.int .u8 _)) ?_ (show _ = _ from ?_) hk
      · simp [execOp, ho, ex, ei, Instr.index, asIntOf, run_underlying hu, h0, hlt']
      · simp [strBytes]
        rfl
    · cases hK
  · cases hK
end
end Go.Vm
