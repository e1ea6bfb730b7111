/- A small evaluator for the translated code, and the proof that what it computes the code does. -/
import Derived.Test.YtplbdggmaoanjaaVmS
/-! Soundness, part 17: make, function values. -/
namespace Go.Vm
open Go.RowKit

section
variable {R : Type} {P : Program} {C : Ctx} {E : Env} {o : Oper} {g g' : Gh} {Γ Γ1 : G} {a : Act} {w w' : World} {K : G → Option R} {r : R}

theorem goes_makeSlice (hE : EnvTy P E) {t : TypeId} {n c : Operand} (h : Rel C g Γ a w) (ho : o.op = .makeSlice t n c) (hK : opx E Γ o K = some r) : Goes P C o g Γ a w K r := by
  simp only [opx, ho] at hK
  split at hK
  · rename_i d i nk nn ck cn hd hi en ec
    have hn := h.ev n
    have hc := h.ev c
    rw [en] at hn
    rw [ec] at hc
    have hn : a.eval n = .int nk nn := hn
    have hc : a.eval c = .int ck cn := hc
    split at hK
    · rename_i e hde
      split at hK
      · rename_i ie hie
        split at hK
        · rename_i z hz hno
          split at hK
          · rename_i hsz
            obtain ⟨hs1, hs2, hs3⟩ := hsz
            split at hK
            · rename_i hb
              obtain ⟨hb1, rfl, hb2⟩ := hb
              have hu := (hE.ty t i hi).slice hde
              obtain ⟨ti, de, zv, h1, _, h3, h4, _, _, h7, h8, h9⟩ := (hE.ty e ie hie).ex
              have hz1 := zeroEq_ok w g Γ.h _ _ h8
              have hzn := zeros_ok hz1 nn.toNat
              have hrun := run_make (P := P) w t e ti zv hu h1 h7 nk ck nn nn hb1 (Int.le_refl _) (by rw [h4, Int.mul_comm]; omega) (by
                have : nn ≤ nn * ie.bytes := by
                  have : nn * 1 ≤ nn * (ie.bytes : Int) := Int.mul_le_mul_of_nonneg_left (by omega) hb1
                  omega
                omega)
              rw [h3, ← h9] at hrun
              have hrun' : (execOp a.eval o).run P w = .ok (.value (.slice (some ⟨w.heap.size, 0, none⟩) nn.toNat nn.toNat)) (w.alloc (.cells (madeCells zv.cells (nn.toNat * zv.cells.size)) e)) := by
                simp only [execOp, ho]
                rw [hn, hc]
                simp [hrun]
              have hrd : RdV w g.St ie.kd zv.cells.toList z := decAll_ok h.inv.obj hz1 hz (by
                have : ownIds ie.zero = [] := by
                  have : ∀ (vs : List Value) (cs : List Cell), zeroEq vs cs = true → ownIds cs = [] := by
                    intro vs cs
                    induction cs generalizing vs with
                    | nil => intro _; rfl
                    | cons c cs ih =>
                      intro hh
                      cases vs with
                      | nil => cases c <;> simp [zeroEq] at hh
                      | cons v vs =>
                        unfold zeroEq at hh
                        split at hh <;> simp_all [ownIds]
                        all_goals (first | exact ih _ hh | exact ih _ hh.2 | skip)
                  exact this _ _ h8
                rw [this]
                intro id hid
                cases hid)
              have hzl : zv.cells.size = ie.kd.size := by
                have := hrd.len
                simpa using this
              have hcap : nn.toNat ≤ maxLen := by
                have : nn * 1 ≤ nn * (ie.bytes : Int) := Int.mul_le_mul_of_nonneg_left (by omega) hb1
                simp only [maxLen]
                omega
              have hnr := new_row h.inv hno e ie.kd (List.replicate nn.toNat z) 0 false (cur := madeCells zv.cells (nn.toNat * zv.cells.size)) (cap := nn.toNat) (by simp) hcap (by rw [size_madeCells, hzl]) (fun i hi => by
                refine ⟨zv.cells.toList, by simpa using hrd, fun j hj => ?_⟩
                have hi' : i < nn.toNat := by simpa using hi
                have hj' : j < zv.cells.size := by simpa using hj
                have hlt : i * ie.kd.size + j < nn.toNat * zv.cells.size := by
                  rw [← hzl]
                  have : (i + 1) * zv.cells.size ≤ nn.toNat * zv.cells.size := Nat.mul_le_mul_right _ hi'
                  rw [Nat.add_mul, Nat.one_mul] at this
                  omega
                unfold madeCells
                rw [Array.getElem?_map, Array.getElem?_range, if_pos hlt]
                simp only [Option.map_some]
                rw [← hzl]
                have hm : (i * zv.cells.size + j) % zv.cells.size = j := by
                  rw [Nat.mul_comm, Nat.mul_add_mod]
                  exact Nat.mod_eq_of_lt hj'
                rw [hm, getElem!_pos zv.cells j hj']
                simp)
              rw [List.length_replicate] at hnr
              refine goes_value hrun' (g' := g.setRow d w.heap.size (.slice (some ⟨w.heap.size, 0, none⟩) nn.toNat nn.toNat)) (Γ1 := Γ.obj d (.row e ie.kd (List.replicate nn.toNat z) 0 false)) (av := .c (.own d 0)) ⟨hnr.1, h.t.mono fun _ _ hv => hv.ext hnr.2, h.defers⟩
                ⟨e, ie.kd, _, 0, false, set_get_eq hno, Nat.le_refl _, fun _ => by simp [Gh.setRow]⟩ (Tr.obj hnr.2 (kept_new h.inv fun b hb => heap_old w _ b hb)) (by rw [hd]; exact hK)
            · cases hK
          · cases hK
        · cases hK
      · cases hK
    · cases hK
  · cases hK

theorem caps_ok (h : Rel C g Γ a w) (all : List Nat) : ∀ (cs : List Operand) (k : Kd) (x : k.T) (ids : List Nat), caps Γ E cs = some ⟨k, x, ids⟩ → (∀ i ∈ ids, i ∈ all) → RdV w (g.fz Γ.h all).St k (cs.map a.eval) x
  | [], k, x, ids, hc, _ => by
    simp only [caps, Option.some.injEq] at hc
    injection hc with h1 h2
    subst h1
    rfl
  | o :: r, k, x, ids, hc, hi => by
    have hat := Ext.at w g Γ.h all
    have hv := h.ev o
    unfold caps at hc
    split at hc
    · rename_i id e1
      rw [e1] at hv
      obtain ⟨_, hp⟩ := hv
      split at hc
      · rename_i t cs fz hob
        split at hc
        · rename_i i _
          split at hc
          · rename_i y hy
            split at hc
            · rename_i k2 z ids2 hr
              simp only [Option.some.injEq] at hc
              injection hc with h1 h2
              subst h1
              have h2 := eq_of_heq h2
              injection h2 with h2 h3
              subst h2 h3
              have hrest := caps_ok h all r k2 z ids2 hr (fun j hj => hi j (by simp [hj]))
              obtain ⟨vs, h4, h5⟩ := h.inv.objAt all id _ hob
              have h6 := decAll_ok (h.inv.objAt all) h5 hy ((Full.fz' g Γ.h all).mono fun j hj => hi j (by simp [hj]))
              simp only [RdV]
              refine ⟨[.pointer (some ⟨g.bl id, 0, none⟩)], r.map a.eval, by simp [hp], ⟨g.bl id, 0, vs.toList, rfl, h6, fun j hj => ⟨?_, ?_⟩⟩, hrest⟩
              · refine .inr ⟨id, hi id (by simp), rfl, .inr ⟨t, cs, fz, hob, ?_⟩⟩
                rw [Nat.zero_add, h5.length]
                exact hj
              · have hj' : j < vs.size := by simpa using hj
                have h4' : w.heap[g.bl id]? = some (.cells vs t (0, 0)) := h4
                simp [World.cell?, h4', hj']
            · cases hc
          · cases hc
        · cases hc
      · cases hc
    · rename_i k1 y e1
      rw [e1] at hv
      split at hc
      · rename_i k2 z ids2 hr
        simp only [Option.some.injEq] at hc
        injection hc with h1 h2
        subst h1
        have h2 := eq_of_heq h2
        injection h2 with h2 h3
        subst h2 h3
        have hrest := caps_ok h all r k2 z ids2 hr hi
        have hv' : VR w (g.fz Γ.h all) Γ.h (.rptr k1 y 0) (a.eval o) := VR.ext hat hv
        obtain ⟨b, o', us, h4, h5, h6⟩ := hv'
        simp only [RdV]
        exact ⟨[.pointer (some ⟨b, o' + 0, none⟩)], r.map a.eval, by rw [List.map_cons, h4]; rfl, ⟨b, o', us, rfl, h5, h6⟩, hrest⟩
      · cases hc
    · cases hc

theorem goes_makeFunc {fn : Fn} {first cs : Array Operand} (h : Rel C g Γ a w) (ho : o.op = .makeFunc fn first cs) (hK : opx E Γ o K = some r) : Goes P C o g Γ a w K r := by
  simp only [opx, ho] at hK
  split at hK
  · rename_i f hf
    split at hK
    · rename_i k x ids hc
      have h1 := caps_ok h ids cs.toList k x ids hc (fun _ hi => hi)
      have hfirst : first = #[] := by
        rw [← Array.toArray_toList (xs := first), hf]
      have hrun : (execOp a.eval o).run P w = .ok (.value (.func (.func f) #[] (cs.map a.eval))) w := by
        simp [execOp, ho, Instr.makeFunc, hfirst]
      refine goes_value hrun (g' := g.fz Γ.h ids) (Γ1 := Γ.fz ids) (av := .c (.clo f k x)) (h.fz ids) ?_ (Tr.fz ids) hK
      show RdV _ _ _ _ _
      simp only [RdV]
      exact ⟨_, rfl, by rw [Array.toList_map]; exact h1⟩
    · cases hK
  · cases hK
end
end Go.Vm
