/- A small evaluator for the translated code, and the proof that what it computes the code does. -/
import Derived.Test.YtplbdggmaoanjaaVmH
/-! Soundness, part 7: variables, loads, stores. -/
namespace Go.Vm
open Go.RowKit

section
variable {R : Type} {P : Program} {C : Ctx} {E : Env} {o : Oper} {g g' : Gh} {Γ Γ1 : G} {a : Act} {w w' : World} {K : G → Option R} {r : R} {H : List Obj}

theorem add_mk (b n m : Nat) : (⟨b, n, none⟩ : Addr).add m = ⟨b, n + m, none⟩ := by unfold Addr.add; split <;> simp_all

theorem cells_of_one {v : Value} (h : v.oneCell' = true) : v.cells = #[v] := by
  cases v <;> first | rfl | (simp [Value.oneCell'] at h)

theorem row_one (h : Inv C w g H) {id : Nat} {e : TypeId} {k : Kd} {l : List k.T} {ver : Nat} {fz : Bool} (hn : H[id]? = some (.row e k l ver fz)) : (g.rv id).oneCell' = true := by
  rcases h.obj id _ hn with ⟨h1, _⟩ | ⟨cap, cur, h1, _⟩
  · rw [h1]; rfl
  · rw [h1]; rfl

theorem known_one (h : Inv C w g H) {c : Cell} {v : Value} (hv : VR w g H c v) (hk : c.known H = true) : VC w g H c v := by
  refine ⟨hv, ?_⟩
  cases c with
  | own id ver =>
    obtain ⟨e, k, l, ver', fz, h1, _, h3⟩ := hv
    simp only [Cell.known, h1, beq_iff_eq] at hk
    rw [h3 hk]
    exact row_one h h1
  | junk => cases hk
  | undef => cases hk
  | eptr _ _ _ _ => cases hk
  | _ => exact hv.one (by simp) (by simp) (by simp) (by simp)

theorem cells_ok (h : Inv C w g H) {av : AV} {v : Value} {cs : List Cell} (hv : AVR w g H av v) (hc : av.cells H = some cs) : All2 (VC w g H) cs v.cells.toList := by
  cases av with
  | c x =>
    simp only [AV.cells] at hc
    split at hc
    · rename_i hk
      injection hc with hc
      subst hc
      have := known_one h hv hk
      rw [cells_of_one this.2]
      exact .cons this .nil
    · cases hc
  | agg l =>
    injection hc with hc
    subst hc
    obtain ⟨vs, rfl, h2⟩ := hv
    exact h2
  | tup l => cases hc

theorem run_newVar (w : World) (t : TypeId) (v : Value) : (newVar t v).run P w = .ok ⟨w.heap.size, 0, none⟩ (w.alloc (.cells v.cells t)) := by
  simp [newVar, newRow]

theorem goes_box {t : TypeId} {x : Operand} (h : Rel C g Γ a w) (ho : o.op = .box t x) (hK : opx E Γ o K = some r) : Goes P C o g Γ a w K r := by
  simp only [opx, ho] at hK
  split at hK
  · rename_i d i cs hd hi hc
    split at hK
    · split at hK
      · rename_i hno
        have hcs := cells_ok h.inv (h.ev x) hc
        obtain ⟨h1, h2⟩ := new_box h.inv hno t hcs
        refine goes_value (v := .pointer (some ⟨w.heap.size, 0, none⟩)) (av := .c (.ptr d 0)) (Γ1 := Γ.obj d (.box t cs false)) (w' := w.alloc (.cells (a.eval x).cells t)) ?_ ⟨h1, h.t.mono fun _ _ hv => hv.ext h2, h.defers⟩ ⟨⟨t, cs, false, ?_⟩, by simp [Gh.setBl]⟩ (Tr.obj h2 (kept_new h.inv fun b hb => heap_old w _ b hb)) (by rw [hd]; exact hK)
        · simp [execOp, ho, Instr.box, run_newVar]
        · exact set_get_eq hno
      · cases hK
    · cases hK
  · cases hK

theorem goes_alloc (hE : EnvTy P E) {t : TypeId} (h : Rel C g Γ a w) (ho : o.op = .alloc t) (hK : opx E Γ o K = some r) : Goes P C o g Γ a w K r := by
  simp only [opx, ho] at hK
  split at hK
  · rename_i d i hd hi
    split at hK
    · rename_i hno
      obtain ⟨ti, de, z, h1, _, _, _, _, _, h7, h8, _⟩ := (hE.ty t i hi).ex
      have hcs := zeroEq_ok w g Γ.h _ _ h8
      obtain ⟨h9, h10⟩ := new_box h.inv hno t hcs
      refine goes_value (v := .pointer (some ⟨w.heap.size, 0, none⟩)) (av := .c (.ptr d 0)) (Γ1 := Γ.obj d (.box t i.zero false)) (w' := w.alloc (.cells z.cells t)) ?_ ⟨h9, h.t.mono fun _ _ hv => hv.ext h10, h.defers⟩ ⟨⟨t, i.zero, false, ?_⟩, by simp [Gh.setBl]⟩ (Tr.obj h10 (kept_new h.inv fun b hb => heap_old w _ b hb)) (by rw [hd]; exact hK)
      · simp [execOp, ho, Instr.alloc, run_newVar, zeroValue, typeInfo, h1, h7]
      · exact set_get_eq hno
    · cases hK
  · cases hK

/-- Cells that lie behind a pointer. -/
def LoadOk (w : World) (g : Gh) (H : List Obj) (v : Value) (cs : List Cell) : Prop :=
  ∃ b o us, v = .pointer (some ⟨b, o, none⟩) ∧ (∀ j (hj : j < us.length), w.cell? ⟨b, o + j, none⟩ = some us[j]) ∧ All2 (VC w g H) cs us

theorem loadx_ok (h : Inv C w g H) {n : Nat} {p : Cell} {v : Value} {K : List Cell → Option R} (hv : VR w g H p v) (hK : loadx H n p K = some r) :
    ∃ cs, K cs = some r ∧ cs.length = n ∧ LoadOk w g H v cs := by
  unfold loadx at hK
  split at hK
  · rename_i id off
    split at hK
    · rename_i t cs fz hob
      split at hK
      · rename_i hle
        obtain ⟨vs, h1, h2⟩ := h.obj id _ hob
        have hl := h2.length
        obtain ⟨_, rfl⟩ := hv
        refine ⟨_, hK, by simp; omega, g.bl id, off, (vs.toList.drop off).take n, rfl, fun j hj => ?_, (h2.drop off).take n⟩
        simp only [List.length_take, List.length_drop] at hj
        simp only [World.cell?, h1]
        rw [List.getElem_take, List.getElem_drop]
        simp
      · cases hK
    · cases hK
  · rename_i k x off
    split at hK
    · rename_i hle
      obtain ⟨b, o', us, rfl, h1, h2⟩ := hv
      have h3 := enc_ok (g := g) (H := H) k x us h1
      have hl := h3.length
      have hel := enc_len k x
      refine ⟨_, hK, by simp; omega, b, o' + off, (us.drop off).take n, rfl, fun j hj => ?_, (h3.drop off).take n⟩
      simp only [List.length_take, List.length_drop] at hj
      rw [List.getElem_take, List.getElem_drop, Nat.add_assoc]
      exact (h2 (off + j) (by omega)).2
    · cases hK
  · rename_i id ver i off
    split at hK
    · rename_i e k l ver' fz hob
      split at hK
      · rename_i hc
        obtain ⟨e2, k2, l2, ver2, fz2, h1, _, h3⟩ := hv
        rw [hob] at h1
        cases h1
        obtain ⟨h4, h5, rfl⟩ := h3 hc.1
        have hlt : i.toNat < l.length := by omega
        have hrd : rd l i = some l[i.toNat] := by simp [rd, h4, hlt]
        rw [hrd] at hK
        simp only [Option.bind_some] at hK
        rcases h.obj id _ hob with ⟨_, hnil⟩ | ⟨cap, cur, h6, h7, h8, h9, h10, h11⟩
        · rw [hnil] at hlt
          simp at hlt
        · obtain ⟨us, h12, h13⟩ := h11 _ hlt
          have h14 := enc_ok (g := g) (H := H) k l[i.toNat] us h12
          have hl := h14.length
          have hel := enc_len k l[i.toNat]
          refine ⟨_, hK, by simp; omega, g.bl id, i.toNat * k.size + off, (us.drop off).take n, rfl, fun j hj => ?_, (h14.drop off).take n⟩
          simp only [List.length_take, List.length_drop] at hj
          rw [List.getElem_take, List.getElem_drop]
          simp only [World.cell?, h7]
          have := h13 (off + j) (by omega)
          rw [← Nat.add_assoc] at this
          simpa using this
      · cases hK
    · cases hK
  · cases hK


theorem run_isAgg {t : TypeId} {i : TI} (h : TyIs P t i) (w : World) : (isAgg t).run P w = .ok i.agg w := by
  obtain ⟨ti, d, z, _, h2, _, _, h5, _⟩ := h.ex
  unfold isAgg
  rw [← h5]
  cases d <;> simp [run_underlying h2, isAggD]

theorem run_loadAt {t : TypeId} {i : TI} (ht : TyIs P t i) (w : World) {b o : Nat} {us : List Value} (hl : us.length = i.size) (hc : ∀ j (hj : j < us.length), w.cell? ⟨b, o + j, none⟩ = some us[j]) :
    (i.agg = true → (Instr.loadAt t (.pointer (some ⟨b, o, none⟩))).run P w = .ok (.agg us.toArray) w) ∧ (i.agg = false → ∀ v, us = [v] → (Instr.loadAt t (.pointer (some ⟨b, o, none⟩))).run P w = .ok v w) := by
  obtain ⟨ti, d, z, h1, _, h3, _⟩ := ht.ex
  have hagg := run_isAgg (P := P) ht w
  constructor
  · intro ha
    have h2 := run_loadCells_list (P := P) w ⟨b, o, none⟩ us (fun j v hj => by
      rw [add_mk]
      have hlt := (List.getElem?_eq_some_iff.1 hj).1
      rw [hc j hlt, ← hj]
      simp [hlt])
    rw [hl, ← h3] at h2
    simp [Instr.loadAt, Instr.sureAddr, loadVar, hagg, ha, sizeOf, typeInfo, h1, h2]
  · intro ha v hv
    subst hv
    have := hc 0 (by simp)
    simp only [Nat.add_zero, List.getElem_cons_zero] at this
    simp [Instr.loadAt, Instr.sureAddr, loadVar, hagg, ha, this]

theorem goes_load (hE : EnvTy P E) {t : TypeId} {x : Operand} (h : Rel C g Γ a w) (ho : o.op = .load t x) (hK : opx E Γ o K = some r) : Goes P C o g Γ a w K r := by
  simp only [opx, ho] at hK
  have hx := h.ev x
  split at hK
  · rename_i i p hi hp
    rw [hp] at hx
    obtain ⟨cs, hk, hlen, b, off, us, e1, h2, h3⟩ := loadx_ok h.inv hx hK
    have hty := hE.ty t i hi
    have hl := h3.length
    have hr := run_loadAt hty w (us := us) (by omega) h2
    split at hk
    · rename_i v hv
      cases ha : i.agg with
      | true =>
        rw [ha] at hv
        injection hv with hv
        subst hv
        refine goes_same h (v := .agg us.toArray) (av := .agg cs) ?_ ⟨us.toArray, rfl, by simpa using h3⟩ hk
        simp [execOp, ho, e1, hr.1 ha]
      | false =>
        rw [ha] at hv
        cases h3 with
        | nil => cases hv
        | cons h4 h5 =>
          cases h5 with
          | nil =>
            injection hv with hv
            subst hv
            refine goes_same h (v := _) (av := .c _) ?_ h4.1 hk
            simp [execOp, ho, e1, hr.2 ha _ rfl]
          | cons _ _ => cases hv
    · cases hk
  · cases hK

theorem setCells_len : ∀ (vs : List Cell) (cs : List Cell) (o : Nat), (setCells cs o vs).length = cs.length
  | [], _, _ => rfl
  | v :: r, cs, o => by
    simp only [setCells]
    rw [setCells_len r]
    simp

theorem setCells_ok {α β : Type} {Rr : α → β → Prop} (f : List α → Nat → List α → List α) (hf0 : ∀ cs o, f cs o [] = cs) (hf1 : ∀ cs o v r, f cs o (v :: r) = f (cs.set o v) (o + 1) r) :
    ∀ (vs : List α) (us : List β) (cs : List α) (ws : List β) (o : Nat), All2 Rr vs us → All2 Rr cs ws → o + us.length ≤ ws.length → All2 Rr (f cs o vs) (ws.take o ++ us ++ ws.drop (o + us.length))
  | _, _, cs, ws, o, .nil, h, _ => by
    rw [hf0]
    simpa using h
  | _, _, cs, ws, o, .cons (a := x) (b := u) (l := vs) (m := us) h1 h2, h, hle => by
    rw [hf1]
    have := setCells_ok f hf0 hf1 vs us (cs.set o x) (ws.set o u) (o + 1) h2 (h.set h1 o) (by simp at hle ⊢; omega)
    have e : (ws.set o u).take (o + 1) ++ us ++ (ws.set o u).drop (o + 1 + us.length) = ws.take o ++ (u :: us) ++ ws.drop (o + (u :: us).length) := by
      have hlt : o < ws.length := by simp at hle; omega
      rw [List.take_succ_eq_append_getElem (by simpa using hlt), List.take_set_of_le (Nat.le_refl _), List.drop_set_of_lt (by omega)]
      simp [Nat.add_assoc, Nat.add_comm 1]
    rw [e] at this
    exact this

theorem run_storeAt {t : TypeId} {i : TI} (ht : TyIs P t i) (w : World) {b o : Nat} {e : TypeId} {cur : Array Value} {x : Value} (hb : w.heap[b]? = some (.cells cur e (0, 0))) (hl : x.cells.size = i.size) (hle : o + x.cells.size ≤ cur.size) (h1 : ∀ v ∈ x.cells.toList, v.oneCell' = true) :
    (Instr.storeAt t (.pointer (some ⟨b, o, none⟩)) x).run P w = .ok () (w.setRow b (cur.toList.take o ++ x.cells.toList ++ cur.toList.drop (o + x.cells.toList.length)).toArray) := by
  obtain ⟨ti, d, z, h2, _, h3, _⟩ := ht.ex
  have hst := run_storeCells_at P b o e x.cells.toList 0 cur w hb (by simpa using hle) h1
  simp only [Nat.add_zero] at hst
  simp only [Instr.storeAt, Instr.sureAddr, storeVar, Sem.run_bind, Sem.run_pure, Result.andThen_ok, sizeOf, typeInfo]
  simp [h2, h3, hl, hst]

theorem All2.ones {cs : List Cell} {vs : List Value} (h : All2 (VC w g H) cs vs) : ∀ v ∈ vs, v.oneCell' = true := by
  induction h with
  | nil => intro v hv; cases hv
  | cons h0 _ ih =>
    intro v hv
    rcases List.mem_cons.1 hv with rfl | hv
    · exact h0.2
    · exact ih v hv

theorem splice_get {α : Type} (L V : List α) (p : Nat) (h : p + V.length ≤ L.length) (j : Nat) :
    (L.take p ++ V ++ L.drop (p + V.length))[j]? = if j < p then L[j]? else if j < p + V.length then V[j - p]? else L[j]? := by
  have hp : (L.take p).length = p := by simp; omega
  by_cases h1 : j < p
  · rw [if_pos h1, List.append_assoc, List.getElem?_append_left (by omega), List.getElem?_take, if_pos h1]
  · rw [if_neg h1, List.append_assoc, List.getElem?_append_right (by omega), hp]
    by_cases h2 : j < p + V.length
    · rw [if_pos h2, List.getElem?_append_left (by omega)]
    · rw [if_neg h2, List.getElem?_append_right (by omega), List.getElem?_drop]
      congr 1
      omega

theorem splice_len {α : Type} (L V : List α) (p : Nat) (h : p + V.length ≤ L.length) : (L.take p ++ V ++ L.drop (p + V.length)).length = L.length := by
  rw [List.length_append, List.length_append, List.length_take, List.length_drop, Nat.min_eq_left (by omega)]
  omega

theorem ownIds_set : ∀ (cs : List Cell) (o : Nat) (v : Cell) (y : Nat), y ∈ ownIds (cs.set o v) → y ∈ ownIds cs ∨ y ∈ ownIds [v]
  | [], _, _, _, h => by simp [ownIds] at h
  | c :: cs, 0, v, y, h => by
    rw [List.set_cons_zero, ownIds_cons_mem] at h
    rcases h with h | h
    · exact .inr h
    · exact .inl (ownIds_cons_mem.2 (.inr h))
  | c :: cs, o + 1, v, y, h => by
    rw [List.set_cons_succ, ownIds_cons_mem] at h
    rcases h with h | h
    · exact .inl (ownIds_cons_mem.2 (.inl h))
    · rcases ownIds_set cs o v y h with h | h
      · exact .inl (ownIds_cons_mem.2 (.inr h))
      · exact .inr h
theorem ownIds_setCells : ∀ (vs cs : List Cell) (o : Nat) (y : Nat), y ∈ ownIds (setCells cs o vs) → y ∈ ownIds cs ∨ y ∈ ownIds vs
  | [], _, _, _, h => .inl h
  | v :: r, cs, o, y, h => by
    simp only [setCells] at h
    rcases ownIds_setCells r _ _ y h with h | h
    · rcases ownIds_set cs o v y h with h | h
      · exact .inl h
      · exact .inr (ownIds_cons_mem.2 (.inl h))
    · exact .inr (ownIds_cons_mem.2 (.inr h))

/-- The same objects over what is stable then. -/
theorem Ext.at (w : World) (g : Gh) (H : List Obj) (ids : List Nat) : Ext w g H w (g.fz H ids) H :=
  ⟨⟨fun b o h => .inl h, fun _ _ _ => rfl⟩, fun id o h => ⟨o, h, by cases o <;> first | trivial | exact ⟨⟨_, _, rfl⟩, rfl⟩ | exact ⟨_, _, _, _, _, rfl, .inl ⟨rfl, rfl, rfl, rfl, rfl⟩⟩⟩⟩

theorem goes_store (hE : EnvTy P E) {t : TypeId} {x y : Operand} (h : Rel C g Γ a w) (ho : o.op = .store t x y) (hK : opx E Γ o K = some r) : Goes P C o g Γ a w K r := by
  simp only [opx, ho] at hK
  have hx := h.ev x
  split at hK
  · rename_i i p vs hi hp hvs
    rw [hp] at hx
    have hty := hE.ty t i hi
    have hcs := cells_ok h.inv (h.ev y) hvs
    have hcl := hcs.length
    split at hK
    · rename_i hsz
      have fin : ∀ g' Γ1 w', (Instr.storeAt t (a.eval x) (a.eval y)).run P w = .ok () w' → Inv C w' g' Γ1.h → Ext w g Γ.h w' g' Γ1.h → Γ1.t = Γ.t → Tr [] g Γ w g' Γ1 w' → K (Γ1.put o.dst (.c .junk)) = some r → Goes P C o g Γ a w K r := by
        intro g' Γ1 w' h1 h2 h3 h4 h5 h6 next Q hn
        unfold Oper.wp
        have : (execOp a.eval o).run P w = .ok .skip w' := by simp [execOp, ho, h1]
        rw [this]
        have hr : Rel C g' Γ1 a w' := ⟨h2, by rw [h4]; exact h.t.mono fun _ _ hv => hv.ext h3, h.defers⟩
        exact hn g' _ _ w' h6 (hr.put (av := .c .junk) (v := undef) trivial o.dst) ((h5.put o.dst _).mono (by simp))
      unfold storex at hK
      split at hK
      · rename_i id off
        split at hK
        · rename_i t' cs hob
          split at hK
          · rename_i hle
            obtain ⟨ws, h1, h2⟩ := h.inv.obj id _ hob
            have hl := h2.length
            obtain ⟨_, hpt⟩ := hx
            have hsc := setCells_ok (Rr := VC w g Γ.h) setCells (fun _ _ => rfl) (fun _ _ _ _ => rfl) vs (a.eval y).cells.toList cs ws.toList off hcs h2 (by rw [← hcl]; omega)
            have hsb := set_box h.inv hob (cs' := setCells cs off vs) (vs' := (ws.toList.take off ++ (a.eval y).cells.toList ++ ws.toList.drop (off + (a.eval y).cells.toList.length)).toArray) (by simpa using hsc)
            refine fin g (Γ.obj id (.box t' (setCells cs off vs) false)) _ ?_ hsb.1 hsb.2 rfl (Tr.obj hsb.2 (kept_set h.inv (.inl ⟨_, _, _, hob⟩) fun b hb => heap_setRow_ne w _ b _ hb)) hK
            rw [hpt]
            exact run_storeAt hty w h1 (by simp at hcl; omega) (by simp at hcl hl; omega) hcs.ones
          · cases hK
        · cases hK
      · rename_i id ver j off
        split at hK
        · rename_i e k l ver' hob
          split at hK
          · rename_i hc
            obtain ⟨hc1, hc2, hc3⟩ := hc
            obtain ⟨e2, k2, l2, ver2, fz2, h1, _, h3⟩ := hx
            rw [hob] at h1
            cases h1
            obtain ⟨h4, h5, hpt⟩ := h3 hc1
            have hlt : j.toNat < l.length := by omega
            have hrd : rd l j = some l[j.toNat] := by simp [rd, h4, hlt]
            rw [hrd] at hK
            simp only [Option.bind_some] at hK
            split at hK
            · rename_i z hz
              have hf1 := h.inv.fz (ownIds vs)
              have hob1 : (Γ.fz (ownIds vs)).h[id]? = some (.row e k l ver' false) := by
                have := fzAll_some (ids := ownIds vs) hob
                rw [if_neg hc3] at this
                exact this
              rcases h.inv.obj id _ hob with ⟨_, hnil⟩ | ⟨cap, cur, h6, h7, h8, h9, h10, h11⟩
              · rw [hnil] at hlt
                simp at hlt
              · obtain ⟨us, h12, h13⟩ := h11 _ hlt
                have hat := Ext.at w g Γ.h (ownIds vs)
                have h14 := enc_ok (g := g.fz Γ.h (ownIds vs)) (H := Γ.h) k l[j.toNat] us (h12.keep hat.keeps)
                have hul := h12.len
                have hvl : (a.eval y).cells.toList.length = vs.length := hcl.symm
                have h15 := setCells_ok (Rr := VC w (g.fz Γ.h (ownIds vs)) Γ.h) setCells (fun _ _ => rfl) (fun _ _ _ _ => rfl) vs (a.eval y).cells.toList (enc k l[j.toNat]) us off (hcs.ext hat) h14 (by omega)
                have h16 := decAll_ok (h.inv.objAt (ownIds vs)) h15 hz ((Full.fz' g Γ.h (ownIds vs)).mono fun q hq => by
                  rcases ownIds_setCells vs _ off q hq with hq | hq
                  · rw [enc_own] at hq
                    cases hq
                  · exact hq)
                have hblk : (g.fz Γ.h (ownIds vs)).bl id = g.bl id := rfl
                have hlast : j.toNat * k.size + k.size ≤ cur.size := by
                  have : (j.toNat + 1) * k.size ≤ cap * k.size := Nat.mul_le_mul_right _ (by omega)
                  rw [Nat.add_mul, Nat.one_mul] at this
                  omega
                have hcur : cur.toList.length = cur.size := by simp
                have hsr := set_row (y := z) (us' := us.take off ++ (a.eval y).cells.toList ++ us.drop (off + (a.eval y).cells.toList.length)) (i := j.toNat) (cap := cap) (cur := cur)
                  (cur' := (cur.toList.take (j.toNat * k.size + off) ++ (a.eval y).cells.toList ++ cur.toList.drop (j.toNat * k.size + off + (a.eval y).cells.toList.length)).toArray)
                  hf1 hob1 h6 h7 hlt h8 h9 h10 (fun q hq => by
                    obtain ⟨us2, a1, a2⟩ := h11 q hq
                    exact ⟨us2, a1.keep hat.keeps, a2⟩) h16 (by rw [List.size_toArray, splice_len _ _ _ (by omega)]; simp)
                  (fun q hq => by
                    have hq' : (us.take off ++ (a.eval y).cells.toList ++ us.drop (off + (a.eval y).cells.toList.length))[q]? = some (us.take off ++ (a.eval y).cells.toList ++ us.drop (off + (a.eval y).cells.toList.length))[q] := List.getElem?_eq_getElem hq
                    rw [← hq', List.getElem?_toArray, splice_get _ _ _ (by omega), splice_get _ _ _ (by omega)]
                    have hqk : q < k.size := by rw [splice_len _ _ _ (by omega)] at hq; omega
                    by_cases b1 : q < off
                    · rw [if_pos (by omega), if_pos b1]
                      have := h13 q (by omega)
                      simpa [List.getElem?_eq_getElem (show q < us.length by omega)] using this
                    · rw [if_neg (by omega), if_neg b1]
                      by_cases b2 : q < off + (a.eval y).cells.toList.length
                      · rw [if_pos (by omega), if_pos b2]
                        congr 1
                        omega
                      · rw [if_neg (by omega), if_neg b2]
                        have := h13 q (by omega)
                        simpa [List.getElem?_eq_getElem (show q < us.length by omega)] using this)
                  (fun q hq => by
                    rw [List.getElem?_toArray, splice_get _ _ _ (by omega)]
                    rw [Nat.add_mul, Nat.one_mul] at hq
                    by_cases b1 : q < j.toNat * k.size + off
                    · rw [if_pos b1]
                      simp
                    · rw [if_neg b1, if_neg (by omega)]
                      simp)
                refine fin _ ((Γ.fz (ownIds vs)).obj id (.row e k (l.set j.toNat z) ver' false)) _ ?_ hsr.1 ((Ext.fz w g Γ.h (ownIds vs)).trans hsr.2) rfl ((Tr.fz (ownIds vs)).trans (Tr.obj hsr.2 (kept_set hf1 (.inr ⟨_, _, _, _, _, hob1, by show g.rv id ≠ nilSlice; rw [h6]; simp [nilSlice]⟩) fun b hb => heap_setRow_ne w _ b _ hb))) hK
                rw [hpt, hblk]
                exact run_storeAt hty w h7 (by simp at hcl; omega) (by simp at hvl; omega) hcs.ones
            · cases hK
          · cases hK
        · cases hK
      · cases hK
    · cases hK
  · cases hK
end
end Go.Vm
