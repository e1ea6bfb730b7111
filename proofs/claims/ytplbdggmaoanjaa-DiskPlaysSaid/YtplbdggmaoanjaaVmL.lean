/- A small evaluator for the translated code, and the proof that what it computes the code does. -/
import Derived.Test.YtplbdggmaoanjaaVmK
/-! Soundness, part 10: literals of slices, make, append, len, min. -/
namespace Go.Vm
open Go.RowKit

section
variable {R : Type} {P : Program} {C : Ctx} {E : Env} {o : Oper} {g g' : Gh} {Γ Γ1 : G} {a : Act} {w w' : World} {K : G → Option R} {r : R} {H : List Obj}

theorem lenTy_is (hE : EnvTy P E) {t : TypeId} {v : AV} (h : lenTy E t v = true) : (∃ s, v = .c (.str s) ∧ P.underlying t = some .string) ∨ ((∀ s, v ≠ .c (.str s)) ∧ ∃ e, P.underlying t = some (.slice e)) := by
  unfold lenTy at h
  split at h
  · exact .inl ⟨_, rfl, isStrTy_is hE h⟩
  · rename_i hne
    refine .inr ⟨fun s e => hne s e, ?_⟩
    split at h
    · rename_i i hi
      split at h
      · rename_i e hd
        exact ⟨e, (hE.ty t i hi).slice hd⟩
      · cases h
    · cases h

theorem call_builtin {b : Builtin} {args : Array Operand} {ats : Array TypeId} (ho : o.op = .call { callee := .builtin b, args := args, argTypes := ats }) (w : World) :
    (execOp a.eval o).run P w = (builtin b ats o.type (args.map fun | .const _ => true | _ => false) (args.map a.eval)).run P w := by
  simp [execOp, ho, resolve, invoke]
  rfl

theorem goes_len (hE : EnvTy P E) {args : Array Operand} {ats : Array TypeId} (h : Rel C g Γ a w) (ho : o.op = .call { callee := .builtin .len, args := args, argTypes := ats }) (hK : opx E Γ o K = some r) : Goes P C o g Γ a w K r := by
  simp only [opx, ho] at hK
  split at hK
  · rename_i x t e1 e2
    have ea : args = #[x] := by rw [← Array.toArray_toList (xs := args), e1]
    have et : ats = #[t] := by rw [← Array.toArray_toList (xs := ats), e2]
    split at hK
    · rename_i hty
      have hx := h.ev x
      have fin : ∀ n : Int, (Builtin.len_ #[t] o.type #[a.eval x]).run P w = .ok (.int .i64 n) w → K (Γ.put o.dst (.c (.int .i64 n))) = some r → Goes P C o g Γ a w K r := by
        intro n h1 h2
        refine goes_same h (v := .int .i64 n) (av := .c (.int .i64 n)) ?_ rfl h2
        rw [call_builtin ho, ea, et]
        simp [builtin, h1]
      have fsl : (∀ s, Γ.ev x ≠ .c (.str s)) → ∀ A n c, a.eval x = .slice A n c → K (Γ.put o.dst (.c (.int .i64 n))) = some r → Goes P C o g Γ a w K r := by
        intro hns A n c he hk
        rcases lenTy_is hE hty with ⟨s, hs, _⟩ | ⟨_, e, hu⟩
        · exact absurd hs (hns s)
        · refine fin n ?_ hk
          simp [Builtin.len_, run_underlying hu, he, goInt]
      generalize hX : Γ.ev x = X at hx hK hty fsl
      unfold lenx at hK
      split at hK
      · rename_i s
        have ex : a.eval x = .string s := hx
        rcases lenTy_is hE hty with ⟨s', hs, hu⟩ | ⟨hns, _⟩
        · refine fin s.size ?_ hK
          simp [Builtin.len_, run_underlying hu, ex, goInt]
        · exact absurd rfl (hns s)
      · rename_i k l
        have hx' : RdV w g.St (.slice k) [a.eval x] l := hx
        simp only [RdV] at hx'
        obtain ⟨A, c, he, _⟩ := hx'
        simp only [List.cons.injEq, and_true] at he
        exact fsl (by simp) A l.length c he hK
      · have ex : a.eval x = nilSlice := hx
        exact fsl (by simp) none 0 0 ex hK
      · rename_i id ver
        split at hK
        · rename_i e k l ver' fz hob
          split at hK
          · rename_i hv
            obtain ⟨e2', k2, l2, ver2, fz2, h6, h7, h8⟩ := hx
            rw [hob] at h6
            cases h6
            have hvv := h8 hv
            rcases h.inv.obj id _ hob with ⟨h9, hnil⟩ | ⟨cap, cur, h9, _⟩
            · rw [h9] at hvv
              rw [hnil] at hK
              exact fsl (by simp) none 0 0 hvv hK
            · rw [h9] at hvv
              exact fsl (by simp) _ _ _ hvv hK
          · cases hK
        · cases hK
      · cases hK
    · cases hK
  · cases hK

theorem goes_min {args : Array Operand} {ats : Array TypeId} (h : Rel C g Γ a w) (ho : o.op = .call { callee := .builtin .min, args := args, argTypes := ats }) (hK : opx E Γ o K = some r) : Goes P C o g Γ a w K r := by
  simp only [opx, ho] at hK
  split at hK
  · rename_i x y e1
    have ea : args = #[x, y] := by rw [← Array.toArray_toList (xs := args), e1]
    have hx := h.ev x
    have hy := h.ev y
    split at hK
    · rename_i k m k' n e2 e3
      rw [e2] at hx
      rw [e3] at hy
      have ex : a.eval x = .int k m := hx
      have ey : a.eval y = .int k' n := hy
      split at hK
      · refine goes_same h (v := .int k (if n < m then n else m)) (av := .c (.int k (if n < m then n else m))) ?_ rfl hK
        rw [call_builtin ho, ea]
        simp [builtin, Builtin.min_, Builtin.min2, ex, ey]
      · cases hK
    · cases hK
  · cases hK

/-! ### Many values laid side by side -/
theorem decMany_ok (hobj : ∀ id ob, H[id]? = some ob → ObjOk w g H id ob) {k : Kd} : ∀ (n : Nat) (cs : List Cell) (vs : List Value) (l : List k.T), All2 (VC w g H) cs vs → decMany H k n cs = some l → Full g H (ownIds cs) →
    l.length = n ∧ vs.length = n * k.size ∧ ∀ i (hi : i < l.length), ∃ us, RdV w g.St k us l[i] ∧ ∀ j (hj : j < us.length), vs[i * k.size + j]? = some us[j]
  | 0, cs, vs, l, h, hd, _ => by
    cases cs with
    | nil =>
      injection hd with hd
      subst hd
      cases h
      exact ⟨rfl, by simp, fun i hi => absurd hi (by simp)⟩
    | cons c cs => cases hd
  | n + 1, cs, vs, l, h, hd, hf => by
    simp only [decMany] at hd
    split at hd
    · rename_i x rest hx
      split at hd
      · rename_i l' hl
        injection hd with hd
        subst hd
        obtain ⟨us, vs', rfl, h1, h2, h3⟩ := dec_ok hobj k cs vs x rest h hx hf
        obtain ⟨h4, h5, h6⟩ := decMany_ok hobj n rest vs' l' h2 hl (hf.mono h3)
        have hul := h1.len
        refine ⟨by simp [h4], by simp [hul, h5, Nat.add_mul, Nat.add_comm], fun i hi => ?_⟩
        cases i with
        | zero =>
          refine ⟨us, h1, fun j hj => ?_⟩
          rw [Nat.zero_mul, Nat.zero_add, List.getElem?_append_left hj]
          exact List.getElem?_eq_getElem hj
        | succ i =>
          obtain ⟨us', h7, h8⟩ := h6 i (by simpa using hi)
          refine ⟨us', h7, fun j hj => ?_⟩
          rw [List.getElem?_append_right (by rw [hul, Nat.add_mul]; omega)]
          have e : (i + 1) * k.size + j - us.length = i * k.size + j := by rw [hul, Nat.add_mul]; omega
          rw [e]
          exact h8 j hj
      · cases hd
    · cases hd

theorem repCells_len (z : List Cell) : ∀ n, (repCells z n).length = n * z.length
  | 0 => by simp [repCells]
  | n + 1 => by simp [repCells, repCells_len z n, Nat.add_mul, Nat.add_comm]
theorem repCells_get (z : List Cell) : ∀ (n j : Nat), j < n * z.length → (repCells z n)[j]? = z[j % z.length]?
  | 0, j, h => by simp at h
  | n + 1, j, h => by
    simp only [repCells]
    by_cases hj : j < z.length
    · rw [List.getElem?_append_left hj, Nat.mod_eq_of_lt hj]
    · rw [List.getElem?_append_right (by omega), repCells_get z n _ (by rw [Nat.add_mul] at h; omega)]
      congr 1
      rw [Nat.mod_eq_sub_mod (Nat.le_of_not_lt hj)]

theorem zeros_ok {z : List Cell} {zs : Array Value} (h : All2 (VC w g H) z zs.toList) (n : Nat) : All2 (VC w g H) (repCells z n) (madeCells zs (n * zs.size)).toList := by
  have hl : z.length = zs.size := by simpa using h.length
  refine All2.of_get (by rw [repCells_len, hl]; simp [size_madeCells]) fun i c v hc hv => ?_
  have hlt : i < n * zs.size := by
    have := (List.getElem?_eq_some_iff.1 hv).1
    simpa [size_madeCells] using this
  rw [repCells_get _ _ _ (by rw [hl]; exact hlt)] at hc
  obtain ⟨u, hu, hr⟩ := h.get _ c hc
  have hpos : 0 < zs.size := by
    rcases Nat.eq_zero_or_pos zs.size with h0 | h0
    · rw [h0] at hlt; simp at hlt
    · exact h0
  have e : v = zs[i % zs.size]! := by
    simp only [madeCells, Array.toList_map, List.getElem?_map] at hv
    have hr2 : (Array.range (n * zs.size)).toList[i]? = some i := by simp [hlt]
    rw [hr2] at hv
    simpa using hv.symm
  have hm : i % zs.size < zs.size := Nat.mod_lt _ hpos
  have e2 : zs[i % zs.size]! = u := by
    rw [hl] at hu
    rw [getElem!_pos zs (i % zs.size) hm]
    have : zs.toList[i % zs.size]? = some zs[i % zs.size] := by simp
    rw [this] at hu
    injection hu
  rw [e, e2]
  exact hr

theorem madeCells_zero (z : Array Value) : madeCells z 0 = #[] := by simp [madeCells]

theorem run_buildSlice0 {t e : TypeId} {ti : TypeInfo} (hu : P.underlying t = some (.slice e)) (hi : P.info? e = some ti) (w : World) : (Instr.buildSlice t 0 #[]).run P w = .ok (.slice (some ⟨w.heap.size, 0, none⟩) 0 0) (w.alloc (.cells #[] e)) := by
  simp [Instr.buildSlice, run_underlying hu, sizeOf, typeInfo, hi, Instr.fill, newRow, Array.range_zero']

theorem fillx_none (Γ : G) (n : Nat) (hn : 0 < n) : ∀ (ps : List (Nat × Operand)) (cs : List Cell), cs.length = 0 → (∃ cs', fillx Γ (fun j => some (j * n, n)) ps cs = some cs') → ps = []
  | [], _, _, _ => rfl
  | (i, x) :: r, cs, h0, ⟨cs', h⟩ => by
    simp only [fillx] at h
    split at h
    · rename_i off size vs hp hv
      injection hp with hp
      injection hp with hp1 hp2
      split at h
      · omega
      · cases h
    · cases h

theorem goes_buildSlice (hE : EnvTy P E) {t : TypeId} {n : Nat} {parts : Array (Nat × Operand)} (h : Rel C g Γ a w) (ho : o.op = .buildSlice t n parts) (hK : opx E Γ o K = some r) : Goes P C o g Γ a w K r := by
  simp only [opx, ho] at hK
  split at hK
  · rename_i d i hd hi
    split at hK
    · rename_i e hde
      split at hK
      · rename_i ie hie
        split at hK
        · rename_i hsz
          obtain ⟨hs1, hs2, hs3⟩ := hsz
          split at hK
          · rename_i cs hf
            split at hK
            · rename_i l hl
              have hu := (hE.ty t i hi).slice hde
              obtain ⟨ti, de, z, h1, _, h3, _, _, _, h7, h8, h9⟩ := (hE.ty e ie hie).ex
              have hz := zeros_ok (zeroEq_ok w g Γ.h _ _ h8) n
              obtain ⟨arr, h5, h6⟩ := fillx_ok h (fun j => some (j * ie.size, ie.size)) parts.toList _ cs (madeCells z.cells (n * z.cells.size)) hf hz
              -- the operation
              have hrun : (Instr.buildSlice t n (parts.map fun (i, x) => (i, a.eval x))).run P w = .ok (.slice (some ⟨w.heap.size, 0, none⟩) n n) (w.alloc (.cells arr e)) := by
                by_cases hn : n = 0
                · subst hn
                  have hp : parts = #[] := by
                    have := fillx_none Γ ie.size hs2 parts.toList (repCells ie.zero 0) rfl ⟨cs, hf⟩
                    rw [← Array.toArray_toList (xs := parts), this]
                  subst hp
                  have ha : arr = #[] := by
                    simp [Instr.fill, madeCells_zero] at h5
                    exact h5
                  rw [ha]
                  simpa using run_buildSlice0 hu h1 w
                · have hpos : 0 < n := Nat.pos_of_ne_zero hn
                  refine run_buildSlice w t e n _ arr ti z hu h1 h7 (by rw [h3]; omega) (by rw [h3]; exact Nat.ne_of_gt (Nat.mul_pos hpos hs2)) ?_
                  rw [h3]
                  have : (Array.range (n * ie.size)).map (z.cells[· % z.cells.size]!) = madeCells z.cells (n * z.cells.size) := by unfold madeCells; rw [h9]
                  rw [this, Array.toList_map]
                  exact h5
              have hrun' : (execOp a.eval o).run P w = .ok (.value (.slice (some ⟨w.heap.size, 0, none⟩) n n)) (w.alloc (.cells arr e)) := by
                simp only [execOp, ho]
                simp [hrun]
              have hf1 := h.inv.fz (ownIds cs)
              have hx1 := Ext.fz w g Γ.h (ownIds cs)
              have hat := Ext.at w g Γ.h (ownIds cs)
              obtain ⟨h10, h11, h12⟩ := decMany_ok (h.inv.objAt (ownIds cs)) n cs arr.toList l (h6.ext hat) hl (Full.fz' g Γ.h (ownIds cs))
              have hcap : n ≤ maxLen := by
                have : n ≤ n * ie.size := Nat.le_mul_of_pos_right _ hs2
                simp only [maxLen]
                omega
              cases hown : E.own d with
              | true =>
                rw [hown] at hK
                simp only [cond_true] at hK
                split at hK
                · rename_i hno
                  have hno1 : (Γ.fz (ownIds cs)).h[d]? = some .no := by
                    have := fzAll_some (ids := ownIds cs) hno
                    split at this <;> exact this
                  have hnr := new_row hf1 hno1 e ie.kd l 0 false (cur := arr) (cap := n) (by omega) hcap (by have : arr.size = n * ie.kd.size := by simpa using h11
                                                                                                             exact this) (fun i hi => by
                    obtain ⟨us, b1, b2⟩ := h12 i hi
                    exact ⟨us, b1, fun j hj => by have := b2 j hj; simpa using this⟩)
                  refine goes_value hrun' (g' := (g.fz Γ.h (ownIds cs)).setRow d w.heap.size (.slice (some ⟨w.heap.size, 0, none⟩) l.length n)) (Γ1 := (Γ.fz (ownIds cs)).obj d (.row e ie.kd l 0 false)) (av := .c (.own d 0)) ⟨hnr.1, h.t.mono fun _ _ hv => (hv.ext hx1).ext hnr.2, h.defers⟩
                    ⟨e, ie.kd, l, 0, false, set_get_eq hno1, Nat.le_refl _, fun _ => by simp [Gh.setRow, h10]⟩ ((Tr.fz (ownIds cs)).trans (Tr.obj hnr.2 (kept_new hf1 fun b hb => heap_old w _ b hb))) (by rw [hd]; exact hK)
                · cases hK
              | false =>
                rw [hown] at hK
                simp only [cond_false] at hK
                have hb : Below w.heap.size w (w.alloc (.cells arr e)) := (Below.refl _ _).alloc (Nat.le_refl _) _
                have hsn := step_new hf1 hb
                refine goes_value hrun' (g' := { St := fun b o => (g.fz Γ.h (ownIds cs)).St b o ∨ (w.heap.size ≤ b ∧ b < (w.alloc (.cells arr e)).heap.size), bl := g.bl, rv := g.rv }) (Γ1 := Γ.fz (ownIds cs)) (av := .c (.sl ie.kd l)) ⟨hsn.1, h.t.mono fun _ _ hv => (hv.ext hx1).ext hsn.2, h.defers⟩ ?_ ((Tr.fz (ownIds cs)).trans ⟨hsn.2, fun _ _ => rfl, rfl, fun _ _ => .inl rfl, fun _ h => h, fun _ h => h, fun j _ hl => heap_old w _ _ (hf1.new j hl).2⟩) (by rw [hd]; exact hK)
                show RdV _ _ _ _ _
                simp only [RdV]
                refine ⟨some ⟨w.heap.size, 0, none⟩, n, by rw [h10], by omega, fun _ => ⟨w.heap.size, 0, rfl, fun i hi => ?_⟩⟩
                obtain ⟨us, b1, b2⟩ := h12 i hi
                refine ⟨us, b1.keep hsn.2.keeps, fun j hj => ⟨.inr ⟨Nat.le_refl _, by rw [size_alloc]; omega⟩, ?_⟩⟩
                have := b2 j hj
                rw [Nat.zero_add]
                simp only [World.cell?, show (w.alloc (.cells arr e)).heap[w.heap.size]? = _ from heap_alloc_new w _]
                simpa using this
            · cases hK
          · cases hK
        · cases hK
      · cases hK
    · cases hK
  · cases hK
end
end Go.Vm
