/- A small evaluator for the translated code, and the proof that what it computes the code does. -/
import Derived.Test.YtplbdggmaoanjaaVmYR
/-! Soundness, part 22: calls. -/
namespace Go.Vm
open Go.RowKit

structure EnvFn (P : Program) (E : Env) : Prop where
  fn : ∀ f v F, E.fn f v = some F → FnOk P f F

theorem unIds_append (dom : List (Nat × Nat)) : ∀ (a b : List Cell), unIds dom (a ++ b) = unIds dom a ++ unIds dom b
  | [], _ => rfl
  | c :: a, b => by
    cases c <;> simp [unIds, unIds_append dom a b]
theorem unIds_flat (dom : List (Nat × Nat)) {l : List AV} {av : AV} (h : av ∈ l) : ∀ i ∈ unIds dom (avCellsAll av), i ∈ unIds dom (l.flatMap avCellsAll) := by
  induction l with
  | nil => cases h
  | cons b r ih =>
    intro i hi
    rw [List.flatMap_cons, unIds_append]
    rcases List.mem_cons.1 h with rfl | h
    · exact List.mem_append_left _ hi
    · exact List.mem_append_right _ (ih h i hi)
theorem unIds_flat2 (dom : List (Nat × Nat)) (H : List Obj) {l : List (Nat × Nat)} {p : Nat × Nat} (h : p ∈ l) : ∀ i ∈ unIds dom (objCells H p.2), i ∈ unIds dom (l.flatMap fun p => objCells H p.2) := by
  induction l with
  | nil => cases h
  | cons b r ih =>
    intro i hi
    rw [List.flatMap_cons, unIds_append]
    rcases List.mem_cons.1 h with rfl | h
    · exact List.mem_append_left _ hi
    · exact List.mem_append_right _ (ih h i hi)

section
variable {R : Type} {P : Program} {C : Ctx} {E : Env} {o : Oper} {g g' g1 g3 : Gh} {Γ Γ1 : G} {a : Act} {w w' : World} {K : G → Option R} {r : R} {H HS HE H2 : List Obj} {dom : List (Nat × Nat)}

theorem reAV_ok (hd : DomIs dom H HS HE) (hH2 : ∀ f a o, (f, a) ∈ dom → HE[f]? = some o → o ≠ .no → H2[a]? = some (reObj dom H a o)) {av : AV} {v : Value} (hv : AVR w' g3 HE av v) :
    AVR w' (g1.back g3 dom HE) H2 (reAV dom H av) v := by
  cases av with
  | c x => exact reCell_ok hd hH2 hv
  | agg l =>
    obtain ⟨us, e, h1⟩ := hv
    exact ⟨us, e, reCells_ok hd hH2 h1⟩
  | tup l => trivial

theorem pair_ok {w : World} {g : Gh} {q : AV} {v : Value} (h : AVR w g H q v) : if (pairAV q).1 then ∃ us, v = Value.agg us ∧ All2 (VC w g H) (pairAV q).2 us.toList else ∃ x, (pairAV q).2 = [x] ∧ VR w g H x v := by
  cases q with
  | c x => simp only [pairAV, Bool.false_eq_true, if_false]; exact ⟨x, rfl, h⟩
  | agg cs => simp only [pairAV, if_true]; exact h
  | tup _ => simp only [pairAV, Bool.false_eq_true, if_false]; exact ⟨_, rfl, trivial⟩

theorem resAV_ok (hd : DomIs dom H HS HE) (hH2 : ∀ f a o, (f, a) ∈ dom → HE[f]? = some o → o ≠ .no → H2[a]? = some (reObj dom H a o)) {l : List AV} {v : Value} (hv : ResR (AVR w' g3 HE) l v) :
    AVR w' (g1.back g3 dom HE) H2 (resAV dom H l) v := by
  have key : ∀ us, All2 (AVR w' g3 HE) l us → All2 (fun (p : Bool × List Cell) u => if p.1 then ∃ us, u = Value.agg us ∧ All2 (VC w' (g1.back g3 dom HE) H2) p.2 us.toList else ∃ x, p.2 = [x] ∧ VR w' (g1.back g3 dom HE) H2 x u)
      (l.map fun v => pairAV (reAV dom H v)) us := by
    intro us h
    clear hv
    induction h with
    | nil => exact .nil
    | cons h0 _ ih =>
      refine .cons ?_ ih
      have := reAV_ok (g1 := g1) hd hH2 h0
      rename_i av v _ _ _
      exact pair_ok this
  match l, hv with
  | [], hv =>
    obtain ⟨us, e, h1⟩ := hv
    exact ⟨us, e, key _ h1⟩
  | [av], hv => exact reAV_ok hd hH2 hv
  | a :: b :: r, hv =>
    obtain ⟨us, e, h1⟩ := hv
    exact ⟨us, e, key _ h1⟩

theorem turned_mem {ids : List Nat} {H1 HE : List Obj} : ∀ {r : List (Nat × Nat)} {f a i : Nat}, (f, a) ∈ r → i ∈ (match HE[f]? with | some .no => [] | some o => (match keepOb ids f o H1[a]? with | some _ => [] | none => [a]) | none => []) → i ∈ turned ids H1 HE r
  | (f0, b) :: r, f, a, i, h, hi => by
    simp only [turned, List.mem_append]
    rcases List.mem_cons.1 h with h | h
    · injection h with e1 e2
      subst e1 e2
      exact .inl hi
    · exact .inr (turned_mem h hi)
theorem pickC_fn {E : Env} {Γ : G} {f : FuncId} {args : List AV} {F : FnI} {dom : List (Nat × Nat)} : ∀ {l : List (Nat × List (Nat × Nat))}, pickC E Γ f args l = some (F, dom) → ∃ v, E.fn f v = some F
  | [(v, d)], h => by
    simp only [pickC] at h
    split at h
    · rename_i F' hF
      injection h with h
      injection h with h1 h2
      exact ⟨v, by rw [hF, h1]⟩
    · cases h
  | (v, d) :: p :: r, h => by
    simp only [pickC] at h
    split at h
    · rename_i F' hF
      split at h
      · injection h with h
        injection h with h1 h2
        exact ⟨v, by rw [hF, h1]⟩
      · exact pickC_fn h
    · exact pickC_fn h
theorem alt_ex : ∀ (l : List Shape) (z : AltT l), ∃ s y, AltIs l z s y
  | [s], z => ⟨s, z, rfl, rfl⟩
  | s :: t :: r, .inl z => ⟨s, z, rfl, rfl⟩
  | s :: t :: r, .inr z => by
    obtain ⟨s', y, h⟩ := alt_ex (t :: r) z
    exact ⟨s', y, h⟩

theorem goes_callx (hE : EnvFn P E) {f : FuncId} {args : List AV} {vals : Array Value} (h : Rel C g Γ a w) (hargs : All2 (AVR w g Γ.h) args vals.toList)
    (hrun : (∃ fn, P.funcs[f]? = some fn ∧ fn.body.isSome = true ∧ fn.name ≠ "runtime.NumGoroutine") → (execOp a.eval o).run P w = .ok (.enter f vals) w) (hK : callx E Γ f args o.dst K = some r) : Goes P C o g Γ a w K r := by
  unfold callx at hK
  split at hK
  · cases hK
  · rename_i F dom hF
    obtain ⟨v0, hF⟩ := pickC_fn hF
    have fo := hE.fn _ _ _ hF
    simp only at hK
    split at hK
    · rename_i hen
      obtain ⟨x, hx, hK⟩ := Option.bind_eq_some_iff.1 hK
      obtain ⟨z, hz, hK⟩ := Option.bind_eq_some_iff.1 hK
      have en := entry_is hen
      generalize hrds : unReads dom Γ.h args = rds at *
      have hr0 : ∀ i ∈ rds, fOf dom i = none := by
        intro i hi
        rw [← hrds] at hi
        unfold unReads at hi
        rcases List.mem_append.1 hi with hi | hi <;> exact unIds_out hi
      have hr1 : ∀ p ∈ dom, ∀ i ∈ unIds dom (objCells Γ.h p.2), i ∈ rds := by
        intro p hp i hi
        rw [← hrds]
        exact List.mem_append_right _ (unIds_flat2 dom Γ.h hp i hi)
      -- some alternative is the one: its domain is right
      obtain ⟨s0, y0, h0⟩ := alt_ex F.so z
      have hd0 : domOk dom Γ.h (startH F x) (endH F x s0 y0) = true := by
        have := altK_some hK h0
        split at this
        · assumption
        · cases this
      have hd0 := dom_is hd0
      have hF1 := (un_inv h.inv hd0.n1 hd0.n2 en.dom rds hr0 hr1).reset
      have hat := Ext.at w g Γ.h rds
      have hav : All2 (AVR w ((g.fz Γ.h rds).un dom) (unHeap dom Γ.h F.n)) (args.map (unAV dom Γ.h)) vals.toList := by
        have key : ∀ (l : List AV) (us : List Value), All2 (AVR w g Γ.h) l us → (∀ av ∈ l, av ∈ args) → All2 (AVR w ((g.fz Γ.h rds).un dom) (unHeap dom Γ.h F.n)) (l.map (unAV dom Γ.h)) us := by
          intro l us hl
          induction hl with
          | nil => intro _; exact .nil
          | cons h0 _ ih =>
            intro hm
            refine .cons (unAV_ok (h.inv.objAt rds) hd0.n1 en.dom (Full.fz' g Γ.h rds) (h0.ext hat) (fun i hi => ?_)) (ih fun av hv => hm av (List.mem_cons_of_mem _ hv))
            rw [← hrds]
            exact List.mem_append_left _ (unIds_flat dom (hm _ List.mem_cons_self) i hi)
        exact key _ _ hargs (fun _ h => h)
      obtain ⟨g2, hent⟩ := enters hF1 (unHeap_len _) fo.si en hav hx
      intro next Q hnx
      unfold Oper.wp
      rw [hrun fo.body, Oper.upon_enter]
      refine (fo.call x z hz _ w g2 vals hent.inv hent.args).mono ?_
      rintro e w' ⟨v, rfl, s, y, hsy, g3, hI, hX, hres, hkp⟩
      have hK := altK_some hK hsy
      split at hK
      · rename_i hdo
        have hd := dom_is hdo
        obtain ⟨b1, b2, b3, b4⟩ := back_ok h.inv hr0 en.dom hent hd hI hX
        have hl2 : (copyBack dom Γ.h (endH F x s y) dom (fzAll rds Γ.h)).length = Γ.h.length := by rw [copyBack_len, fzAll_len]
        obtain ⟨c1, c2⟩ := restore_ok (ids := s.ids) h.inv hr0 en.dom hent hd hl2 b1 b2 b3 hkp
        have hA := fun a => (restore_alk (ids := s.ids) hd hl2 b2 b3 a).1
        have hc := fun a => (restore_alk (ids := s.ids) hd hl2 b2 b3 a).2
        have b2' := b2.alk hA
        have hno : ∀ {f a}, (f, a) ∈ dom → a ∉ rds := by
          intro f a hm hh
          have := hr0 a hh
          rw [aOf_fOf hd.n2 (aOf_in hd.n1 hm)] at this
          cases this
        have hrel : Rel C ((g.fz Γ.h rds).back g3 dom (endH F x s y)) (Γ.back dom rds s.ids (endH F x s y)) a w' :=
          ⟨c1, h.t.mono fun _ _ hv => (hv.ext (Ext.fz w g Γ.h rds)).ext b2', h.defers⟩
        refine hnx ((g.fz Γ.h rds).back g3 dom (endH F x s y)) _ _ _ hK ?_ ?_
        · exact hrel.put ((resAV_ok hd b3 hres).alk hA) o.dst
        · have htr : Tr [] g Γ w ((g.fz Γ.h rds).back g3 dom (endH F x s y)) (Γ.back dom rds s.ids (endH F x s y)) w' := by
            have hlv : ∀ id, Live g Γ.h id → Live (g.fz Γ.h rds) (fzAll rds Γ.h) id := by
              rintro id (⟨t, cs, fz, h1⟩ | ⟨e, k, l, ver, fz, h1, h2⟩)
              · have := fzAll_some (ids := rds) h1
                split at this <;> exact .inl ⟨_, _, _, this⟩
              · have := fzAll_some (ids := rds) h1
                split at this <;> exact .inr ⟨_, _, _, _, _, this, h2⟩
            have hdom : ∀ f a, (f, a) ∈ dom → a ∉ turned s.ids (fzAll rds Γ.h) (endH F x s y) dom → (∃ o', keptOb s.ids (fzAll rds Γ.h) (endH F x s y) f a = some o') ∨ hasOb (endH F x s y) f = false := by
              intro f a hm hn
              have hn' : a ∉ (match (endH F x s y)[f]? with | some .no => [] | some o => (match keepOb s.ids f o (fzAll rds Γ.h)[a]? with | some _ => [] | none => [a]) | none => []) := fun hh => hn (turned_mem hm hh)
              unfold keptOb hasOb
              cases ho : (endH F x s y)[f]? with
              | none => exact .inr rfl
              | some o =>
                cases o with
                | no => exact .inr rfl
                | box t cs fz =>
                  rw [ho] at hn'
                  dsimp only at hn' ⊢
                  cases hk : keepOb s.ids f (.box t cs fz) (fzAll rds Γ.h)[a]? with
                  | none => rw [hk] at hn'; simp at hn'
                  | some o' => exact .inl ⟨_, rfl⟩
                | row e k l ver fz =>
                  rw [ho] at hn'
                  dsimp only at hn' ⊢
                  cases hk : keepOb s.ids f (.row e k l ver fz) (fzAll rds Γ.h)[a]? with
                  | none => rw [hk] at hn'; simp at hn'
                  | some o' => exact .inl ⟨_, rfl⟩
            refine ⟨(Ext.fz w g Γ.h rds).trans b2', fun _ _ => rfl, rfl, fun id hid => ?_, fun id hid => by simp [G.back, hid], fun id hid => by simp [G.back, hid], fun id hid hl => ?_⟩
            · have hid' : id ∉ turned s.ids (fzAll rds Γ.h) (endH F x s y) dom := fun hh => hid (List.mem_append_left _ hh)
              by_cases hin : id ∈ dom.map (·.2)
              · obtain ⟨⟨f, a'⟩, hm, e⟩ := List.mem_map.1 hin
                dsimp only at e
                subst e
                have hrd := hno hm
                have hfz : (fzAll rds Γ.h)[a']? = Γ.h[a']? := by rw [fzAll_get, if_neg hrd]
                rcases hdom f a' hm hid' with ⟨o', hk⟩ | hk
                · have h4 := restore_in (ids := s.ids) (H1 := fzAll rds Γ.h) (HE := endH F x s y) hd.n2 hm (H := copyBack dom Γ.h (endH F x s y) dom (fzAll rds Γ.h)) (by rw [hl2]; exact hd.lt f a' hm)
                  rw [hk] at h4
                  dsimp only at h4
                  obtain ⟨_, _, h2⟩ := kept_is b2 b3 hm hk
                  rw [hfz] at h2
                  show (restore s.ids (fzAll rds Γ.h) (endH F x s y) dom (copyBack dom Γ.h (endH F x s y) dom (fzAll rds Γ.h)))[a']? = _ ∨ (_ ∧ (restore s.ids (fzAll rds Γ.h) (endH F x s y) dom (copyBack dom Γ.h (endH F x s y) dom (fzAll rds Γ.h)))[a']? = _)
                  have hflag : ∀ fz fz0 : Bool, isFz (restore s.ids (fzAll rds Γ.h) (endH F x s y) dom (copyBack dom Γ.h (endH F x s y) dom (fzAll rds Γ.h))) a' = (fz0 || fz) → isFz Γ.h a' = fz → (fz0 || fz) = fz ∨ (fz0 || fz) = true ∧ a' ∈ (dom.map (·.2)).filter (fun a => isFz (restore s.ids (fzAll rds Γ.h) (endH F x s y) dom (copyBack dom Γ.h (endH F x s y) dom (fzAll rds Γ.h))) a && !isFz Γ.h a) ++ (rds ++ Γ.lf) := by
                    intro fz fz0 e1 e2
                    cases fz with
                    | true => left; simp
                    | false =>
                      cases fz0 with
                      | false => left; rfl
                      | true =>
                        right
                        refine ⟨rfl, List.mem_append_left _ (List.mem_filter.2 ⟨hin, ?_⟩)⟩
                        rw [e1, e2]
                        rfl
                  rcases h2 with ⟨t, cs, fz, cs0, fz0, h3, _, rfl, _⟩ | ⟨_, e, k, l, ver, fz, fz0, h3, rfl, _⟩
                  · rcases hflag fz fz0 (by simp [isFz, h4]) (by simp [isFz, h3]) with q | ⟨q1, q2⟩
                    · rw [q] at h4
                      exact .inl (h4.trans h3.symm)
                    · rw [q1] at h4
                      exact .inr ⟨q2, by rw [h4, h3]; rfl⟩
                  · rcases hflag fz fz0 (by simp [isFz, h4]) (by simp [isFz, h3]) with q | ⟨q1, q2⟩
                    · rw [q] at h4
                      exact .inl (h4.trans h3.symm)
                    · rw [q1] at h4
                      exact .inr ⟨q2, by rw [h4, h3]; rfl⟩
                · left
                  show (restore s.ids (fzAll rds Γ.h) (endH F x s y) dom (copyBack dom Γ.h (endH F x s y) dom (fzAll rds Γ.h)))[a']? = _
                  have h4 := restore_in (ids := s.ids) (H1 := fzAll rds Γ.h) (HE := endH F x s y) hd.n2 hm (H := copyBack dom Γ.h (endH F x s y) dom (fzAll rds Γ.h)) (by rw [hl2]; exact hd.lt f a' hm)
                  have h5 := copyBack_in (dom := dom) (H0 := Γ.h) (HE := endH F x s y) hd.n2 hm (H := fzAll rds Γ.h) (by rw [fzAll_len]; exact hd.lt f a' hm)
                  have h6 : keptOb s.ids (fzAll rds Γ.h) (endH F x s y) f a' = none := by
                    unfold keptOb
                    unfold hasOb at hk
                    split at hk
                    · rename_i ho; rw [ho]; rfl
                    · cases hk
                    · rename_i ho; rw [ho]
                  rw [h6] at h4
                  rw [h4]
                  dsimp only
                  rw [h5]
                  unfold hasOb at hk
                  split at hk
                  · rename_i ho; first | (rw [ho]; exact hfz) | exact hfz
                  · cases hk
                  · rename_i ho; first | (rw [ho]; exact hfz) | exact hfz
              · show (restore s.ids (fzAll rds Γ.h) (endH F x s y) dom (copyBack dom Γ.h (endH F x s y) dom (fzAll rds Γ.h)))[id]? = _ ∨ (_ ∧ (restore s.ids (fzAll rds Γ.h) (endH F x s y) dom (copyBack dom Γ.h (endH F x s y) dom (fzAll rds Γ.h)))[id]? = _)
                rw [restore_out hin, copyBack_out hin, fzAll_get]
                split
                · rename_i hr
                  exact .inr ⟨by show _ ∈ _ ++ (rds ++ Γ.lf); simp [hr], rfl⟩
                · exact .inl rfl
            · have hid' : id ∉ turned s.ids (fzAll rds Γ.h) (endH F x s y) dom := fun hh => hid (List.mem_append_left _ hh)
              by_cases hin : id ∈ dom.map (·.2)
              · obtain ⟨⟨f, a'⟩, hm, e⟩ := List.mem_map.1 hin
                dsimp only at e
                subst e
                rcases hdom f a' hm hid' with ⟨o', hk⟩ | hk
                · exact c2 f a' o' hm hk (hlv _ hl)
                · exact b4 a' (fun f' hf' => by
                    rw [aOf_fOf hd.n2 (aOf_in hd.n1 hm)] at hf'
                    injection hf' with hf'
                    rw [← hf']; exact hk) (hlv _ hl)
              · exact b4 id (fun f' hf' => by rw [fOf_none.2 hin] at hf'; cases hf') (hlv _ hl)
          have := htr.put o.dst (resAV dom Γ.h (s.outs y))
          rw [List.append_nil] at this
          exact this
      · cases hK
    · cases hK

theorem run_callFunc {f : FuncId} {args : Array Value} (hf : ∃ fn, P.funcs[f]? = some fn ∧ fn.body.isSome = true ∧ fn.name ≠ "runtime.NumGoroutine") (w : World) : (callFunc f args).run P w = .ok (.enter f args) w := by
  obtain ⟨fn, h1, h2, h3⟩ := hf
  cases hb : fn.body with
  | none => rw [hb] at h2; cases h2
  | some c => simp [callFunc, h1, h3, hb]

theorem goes_call (hE : EnvFn P E) {c : Call} {x : Operand} {f : FuncId} {k : Kd} {y : k.T} (h : Rel C g Γ a w) (ho : o.op = .call c) (hc : c.callee = .value x) (hx : Γ.ev x = .c (.clo f k y))
    (hK : callx E Γ f (c.args.toList.map Γ.ev ++ (enc k y).map AV.c) o.dst K = some r) : Goes P C o g Γ a w K r := by
  have hv := h.ev x
  rw [hx] at hv
  have hv : RdV w g.St (.clo f k) [a.eval x] y := hv
  simp only [RdV] at hv
  obtain ⟨caps, hv1, hv2⟩ := hv
  injection hv1 with hv1
  refine goes_callx hE (vals := c.args.map a.eval ++ caps) h ?_ (fun hf => ?_) hK
  · rw [Array.toList_append, Array.toList_map]
    refine All2.append ?_ ?_
    · have : ∀ l : List Operand, All2 (AVR w g Γ.h) (l.map Γ.ev) (l.map a.eval) := by
        intro l
        induction l with
        | nil => exact .nil
        | cons o l ih => exact .cons (h.ev o) ih
      exact this _
    · exact (All2.toAV (enc_ok k y _ hv2)).1
  · have := run_callFunc (args := c.args.map a.eval ++ caps) hf w
    simp [execOp, ho, hc, resolve, hv1, Deferred.ofValue, invoke, this]
end
end Go.Vm
