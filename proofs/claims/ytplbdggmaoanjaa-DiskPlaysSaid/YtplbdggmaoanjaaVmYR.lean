/- A small evaluator for the translated code, and the proof that what it computes the code does. -/
import Derived.Test.YtplbdggmaoanjaaVmY
/-! Soundness, part 21b: what a call has not turned. -/
namespace Go.Vm
open Go.RowKit

theorem restore_len {ids : List Nat} {H1 HE : List Obj} : ∀ (r : List (Nat × Nat)) (H : List Obj), (restore ids H1 HE r H).length = H.length
  | [], _ => rfl
  | (f, b) :: r, H => by
    simp only [restore]
    rw [restore_len r]
    split
    · split <;> simp
    · rfl
theorem restore_out {ids : List Nat} {H1 HE : List Obj} : ∀ {r : List (Nat × Nat)} {H : List Obj} {a : Nat}, a ∉ r.map (·.2) → (restore ids H1 HE r H)[a]? = H[a]?
  | [], _, _, _ => rfl
  | (f, b) :: r, H, a, h => by
    simp only [List.map_cons, List.mem_cons, not_or] at h
    simp only [restore]
    rw [restore_out h.2]
    split
    · split
      · exact set_get_ne h.1
      · rfl
    · rfl
/-- What is kept of an object. -/
def keptOb (ids : List Nat) (H1 HE : List Obj) (f a : Nat) : Option Obj := match HE[f]? with | some o => keepOb ids f o H1[a]? | none => none
theorem restore_in {ids : List Nat} {H1 HE : List Obj} : ∀ {r : List (Nat × Nat)} {H : List Obj} {f a : Nat}, (r.map (·.2)).Nodup → (f, a) ∈ r → a < H.length →
    (restore ids H1 HE r H)[a]? = (match keptOb ids H1 HE f a with | some o' => some o' | none => H[a]?)
  | (f0, b) :: r, H, f, a, hn, h, hl => by
    simp only [List.map_cons, List.nodup_cons] at hn
    simp only [restore]
    rcases List.mem_cons.1 h with h | h
    · injection h with e1 e2
      subst e1 e2
      rw [restore_out hn.1]
      unfold keptOb
      cases hq : HE[f]? with
      | none => rfl
      | some o =>
        dsimp only
        cases hk : keepOb ids f o H1[a]? with
        | none => rfl
        | some o' => exact set_get_eq (List.getElem?_eq_getElem hl)
    · have hne : a ≠ b := fun e => hn.1 (by rw [← e]; exact List.mem_map_of_mem (f := (·.2)) h)
      have key : ∀ H' : List Obj, H'.length = H.length → H'[a]? = H[a]? → (restore ids H1 HE r H')[a]? = (match keptOb ids H1 HE f a with | some o' => some o' | none => H[a]?) := by
        intro H' e1 e2
        have := restore_in (ids := ids) (H1 := H1) (HE := HE) hn.2 h (H := H') (by rw [e1]; exact hl)
        rw [e2] at this
        exact this
      split
      · split
        · exact key _ (by simp) (set_get_ne hne)
        · exact key H rfl rfl
      · exact key H rfl rfl

theorem keepOb_some {ids : List Nat} {f : Nat} {o : Obj} {p : Option Obj} {o' : Obj} (h : keepOb ids f o p = some o') : f ∉ ids ∧
    ((∃ t0 cs0 fz0 t cs fz, o = .box t0 cs0 fz0 ∧ p = some (.box t cs fz) ∧ o' = .box t cs (fz0 || fz)) ∨
     ∃ e0 k0 l0 fz0 e k l ver fz, o = .row e0 k0 l0 0 fz0 ∧ p = some (.row e k l ver fz) ∧ o' = .row e k l ver (fz0 || fz)) := by
  unfold keepOb at h
  split at h
  · split at h
    · cases h
    · rename_i hc
      injection h with h
      exact ⟨fun hh => hc (List.contains_iff_mem.2 hh), .inl ⟨_, _, _, _, _, _, rfl, rfl, h.symm⟩⟩
  · split at h
    · cases h
    · rename_i hc
      injection h with h
      simp only [Bool.or_eq_true, bne_iff_ne, ne_eq, not_or, Decidable.not_not] at hc
      obtain ⟨h1, h2⟩ := hc
      subst h2
      exact ⟨fun hh => h1 (List.contains_iff_mem.2 hh), .inr ⟨_, _, _, _, _, _, _, _, _, rfl, rfl, h.symm⟩⟩
  · cases h

/-- Objects of one form. -/
inductive Alk : Option Obj → Option Obj → Prop
  | same (o : Option Obj) : Alk o o
  | box (t : TypeId) (cs cs' : List Cell) (fz fz' : Bool) : Alk (some (.box t cs fz)) (some (.box t cs' fz'))
  | row (e e' : TypeId) (k : Kd) (l l' : List k.T) (ver : Nat) (fz fz' : Bool) (h : l'.length = l.length) : Alk (some (.row e k l ver fz)) (some (.row e' k l' ver fz'))

theorem VR.alk {w : World} {g : Gh} {H H' : List Obj} (hA : ∀ a : Nat, Alk H[a]? H'[a]?) : ∀ {c : Cell} {v : Value}, VR w g H c v → VR w g H' c v
  | .junk, _, _ => trivial
  | .undef, _, h => h
  | .int _ _, _, h => h
  | .bool _, _, h => h
  | .str _, _, h => h
  | .sl _ _, _, h => h
  | .rptr _ _ _, _, h => h
  | .clo _ _ _, _, h => h
  | .nils, _, h => h
  | .nilp, _, h => h
  | .own id ver, v, h => by
    obtain ⟨e, k, l, ver', fz, h0, h1, h2⟩ := h
    have := hA id
    rw [h0] at this
    generalize hq : H'[id]? = q at this
    cases this with
    | same => exact ⟨_, _, _, _, _, hq, h1, h2⟩
    | row _ e' _ _ l' _ _ fz' hl => exact ⟨_, _, _, _, _, hq, h1, h2⟩
  | .ptr id off, v, h => by
    obtain ⟨⟨t, cs, fz, h0⟩, h1⟩ := h
    have := hA id
    rw [h0] at this
    generalize hq : H'[id]? = q at this
    cases this with
    | same => exact ⟨⟨_, _, _, hq⟩, h1⟩
    | box => exact ⟨⟨_, _, _, hq⟩, h1⟩
  | .eptr id ver i off, v, h => by
    obtain ⟨e, k, l, ver', fz, h0, h1, h2⟩ := h
    have := hA id
    rw [h0] at this
    generalize hq : H'[id]? = q at this
    cases this with
    | same => exact ⟨_, _, _, _, _, hq, h1, h2⟩
    | row _ e' _ _ l' _ _ fz' hl => exact ⟨_, _, _, _, _, hq, h1, fun hv => by rw [hl]; exact h2 hv⟩
theorem All2.alk {w : World} {g : Gh} {H H' : List Obj} (hA : ∀ a : Nat, Alk H[a]? H'[a]?) {cs : List Cell} {vs : List Value} (h : All2 (VC w g H) cs vs) : All2 (VC w g H') cs vs := h.mono fun _ _ h => ⟨h.1.alk hA, h.2⟩
theorem AVR.alk {w : World} {g : Gh} {H H' : List Obj} (hA : ∀ a : Nat, Alk H[a]? H'[a]?) : ∀ {c : AV} {v : Value}, AVR w g H c v → AVR w g H' c v
  | .c _, _, h => VR.alk hA h
  | .agg _, _, h => by
    obtain ⟨vs, h0, h1⟩ := h
    exact ⟨vs, h0, h1.alk hA⟩
  | .tup _, _, h => by
    obtain ⟨vs, h0, h1⟩ := h
    refine ⟨vs, h0, h1.mono ?_⟩
    intro p u hp
    split at hp
    · rename_i hb
      obtain ⟨us, h2, h3⟩ := hp
      rw [if_pos hb]
      exact ⟨us, h2, h3.alk hA⟩
    · rename_i hb
      obtain ⟨x, h2, h3⟩ := hp
      rw [if_neg hb]
      exact ⟨x, h2, h3.alk hA⟩
theorem Alk.live {g : Gh} {H H' : List Obj} (hA : ∀ a : Nat, Alk H[a]? H'[a]?) {a : Nat} (h : Live g H' a) : Live g H a := by
  have := hA a
  rcases h with ⟨t, cs, fz, h1⟩ | ⟨e, k, l, ver, fz, h1, h2⟩
  · rw [h1] at this
    generalize hq : H[a]? = q at this
    cases this with
    | same => exact .inl ⟨_, _, _, hq⟩
    | box => exact .inl ⟨_, _, _, hq⟩
  · rw [h1] at this
    generalize hq : H[a]? = q at this
    cases this with
    | same => exact .inr ⟨_, _, _, _, _, hq, h2⟩
    | row => exact .inr ⟨_, _, _, _, _, hq, h2⟩
theorem Ext.alk {w w' : World} {g g' : Gh} {H H' H'' : List Obj} (hx : Ext w g H w' g' H') (hA : ∀ a : Nat, Alk H'[a]? H''[a]?) : Ext w g H w' g' H'' := by
  refine ⟨hx.keeps, fun id o ho => ?_⟩
  obtain ⟨o', h1, h2⟩ := hx.later id o ho
  have := hA id
  rw [h1] at this
  generalize hq : H''[id]? = q at this
  cases this with
  | same => exact ⟨o', rfl, h2⟩
  | box t cs cs' fz fz' =>
    refine ⟨_, rfl, ?_⟩
    cases o with
    | no => trivial
    | box t2 cs2 fz2 =>
      obtain ⟨⟨_, _, h3⟩, h4⟩ := h2
      cases h3
      exact ⟨⟨_, _, rfl⟩, h4⟩
    | row _ _ _ _ _ => obtain ⟨_, _, _, _, _, h3, _⟩ := h2; cases h3
  | row e e' k l l' ver fz fz' hl =>
    refine ⟨_, rfl, ?_⟩
    cases o with
    | no => trivial
    | box _ _ _ => obtain ⟨⟨_, _, h3⟩, _⟩ := h2; cases h3
    | row e2 k2 l2 ver2 fz2 =>
      obtain ⟨_, _, _, _, _, h3, h4⟩ := h2
      cases h3
      exact ⟨_, _, _, _, _, rfl, by rw [hl]; exact h4⟩

section
variable {C C' : Ctx} {w w' : World} {g g1 g2 g3 gB : Gh} {H H2 HS HE : List Obj} {dom : List (Nat × Nat)} {F : FnI} {vals : List Value} {x : F.si.kd.T} {rds ids : List Nat}

/-- Why an object is kept. -/
theorem kept_is (b2 : Ext w (g.fz H rds) (fzAll rds H) w' gB H2) (hin : ∀ f a o, (f, a) ∈ dom → HE[f]? = some o → o ≠ .no → H2[a]? = some (reObj dom H a o)) {f a : Nat} {o' : Obj} (hm : (f, a) ∈ dom) (hk : keptOb ids (fzAll rds H) HE f a = some o') :
    f ∉ ids ∧ gB.bl a = g.bl a ∧ ((∃ t cs fz cs0 fz0, (fzAll rds H)[a]? = some (.box t cs fz) ∧ HE[f]? = some (.box t cs0 fz0) ∧ o' = .box t cs (fz0 || fz) ∧ ∃ cs2, H2[a]? = some (.box t cs2 fz0)) ∨
      (gB.rv a = g.rv a ∧ ∃ e k l ver fz fz0, (fzAll rds H)[a]? = some (.row e k l ver fz) ∧ o' = .row e k l ver (fz0 || fz) ∧ ∃ e2, ∃ l2 : List k.T, HE[f]? = some (.row e2 k l2 0 fz0) ∧ H2[a]? = some (.row e2 k l2 ver fz0) ∧ l2.length = l.length)) := by
  unfold keptOb at hk
  split at hk
  · rename_i o ho
    obtain ⟨hf, h1⟩ := keepOb_some hk
    rcases h1 with ⟨t0, cs0, fz0, t, cs, fz, rfl, h2, h3⟩ | ⟨e0, k0, l0, fz0, e, k, l, ver, fz, rfl, h2, h3⟩
    · have h4 := hin f a _ hm ho (by simp)
      obtain ⟨o2, h5, ⟨cs2, fz2, rfl⟩, h6⟩ := b2.later _ _ h2
      rw [h4] at h5
      simp only [reObj, Option.some.injEq, Obj.box.injEq] at h5
      obtain ⟨rfl, h5, rfl⟩ := h5
      exact ⟨hf, h6, .inl ⟨_, _, _, _, _, h2, ho, h3, _, h4⟩⟩
    · have h4 := hin f a _ hm ho (by simp)
      obtain ⟨o2, h5, e2, k2, l2, ver2, fz2, rfl, h6⟩ := b2.later _ _ h2
      have hcv : curVer H a = ver := by
        obtain ⟨fz5, h7, _⟩ := fzAll_row h2
        simp [curVer, h7]
      rw [h4] at h5
      simp only [reObj, Option.some.injEq] at h5
      injection h5 with q1 q2 q3 q4 q5
      subst q1 q2 q5
      have q3 := eq_of_heq q3
      subst q3
      rw [hcv] at q4
      rcases h6 with ⟨q6, q7, q8, q9, q10⟩ | h6
      · subst q7
        refine ⟨hf, q10, .inr ⟨q9, _, _, _, _, _, _, h2, h3, _, _, ho, ?_, q8⟩⟩
        rw [h4]
        simp [reObj, hcv]
      · omega
  · cases hk

theorem restore_alk (hd : DomIs dom H HS HE) (hl : H2.length = H.length) (b2 : Ext w (g.fz H rds) (fzAll rds H) w' gB H2) (hin : ∀ f a o, (f, a) ∈ dom → HE[f]? = some o → o ≠ .no → H2[a]? = some (reObj dom H a o)) (a : Nat) :
    Alk H2[a]? (restore ids (fzAll rds H) HE dom H2)[a]? ∧ ((restore ids (fzAll rds H) HE dom H2)[a]? = H2[a]? ∨ ∃ f o', (f, a) ∈ dom ∧ keptOb ids (fzAll rds H) HE f a = some o' ∧ (restore ids (fzAll rds H) HE dom H2)[a]? = some o') := by
  by_cases ha : a ∈ dom.map (·.2)
  · obtain ⟨⟨f, a'⟩, hm, e⟩ := List.mem_map.1 ha
    dsimp only at e
    subst e
    have h1 := restore_in (ids := ids) (H1 := fzAll rds H) (HE := HE) hd.n2 hm (H := H2) (by rw [hl]; exact hd.lt f a' hm)
    cases hk : keptOb ids (fzAll rds H) HE f a' with
    | none =>
      rw [hk] at h1
      rw [h1]
      exact ⟨.same _, .inl rfl⟩
    | some o' =>
      rw [hk] at h1
      rw [h1]
      refine ⟨?_, .inr ⟨f, o', hm, hk, rfl⟩⟩
      obtain ⟨_, _, h2⟩ := kept_is b2 hin hm hk
      rcases h2 with ⟨t, cs, fz, cs0, fz0, h3, h4, rfl, cs2, h5⟩ | ⟨_, e, k, l, ver, fz, fz0, h3, rfl, e2, l2, h4, h5, h6⟩
      · rw [h5]; exact .box _ _ _ _ _
      · rw [h5]; exact .row _ _ _ _ _ _ _ _ h6.symm
  · rw [restore_out ha]
    exact ⟨.same _, .inl rfl⟩

theorem restore_ok (h : Inv C w g H) (hr0 : ∀ i ∈ rds, fOf dom i = none) (hn : ∀ p ∈ dom, p.1 < F.n)
    (hE : Enters C' w ((g.fz H rds).un dom) g2 (unHeap dom H F.n) F x vals)
    (hd : DomIs dom H HS HE) (hl : H2.length = H.length) (b1 : Inv C w' gB H2) (b2 : Ext w (g.fz H rds) (fzAll rds H) w' gB H2)
    (hin : ∀ f a o, (f, a) ∈ dom → HE[f]? = some o → o ≠ .no → H2[a]? = some (reObj dom H a o))
    (hkp : ∀ f, f ∉ ids → Live g2 (startH F x) f → w'.heap[g2.bl f]? = w.heap[g2.bl f]?) :
    Inv C w' gB (restore ids (fzAll rds H) HE dom H2) ∧ (∀ f a o', (f, a) ∈ dom → keptOb ids (fzAll rds H) HE f a = some o' → Live (g.fz H rds) (fzAll rds H) a → w'.heap[g.bl a]? = w.heap[g.bl a]?) := by
  have hA := fun a => (restore_alk (ids := ids) hd hl b2 hin a).1
  have hc := fun a => (restore_alk (ids := ids) hd hl b2 hin a).2
  have h1 := h.fz rds
  have hblk : ∀ f a o', (f, a) ∈ dom → keptOb ids (fzAll rds H) HE f a = some o' → Live (g.fz H rds) (fzAll rds H) a → w'.heap[g.bl a]? = w.heap[g.bl a]? := by
    intro f a o' hm hk hlv
    obtain ⟨hf, _, h2⟩ := kept_is b2 hin hm hk
    have haf := aOf_in hd.n1 hm
    have hlf : Live g2 (startH F x) f ∧ g2.bl f = g.bl a := by
      rcases hlv with ⟨t, cs, fz, h3⟩ | ⟨e, k, l, ver, fz, h3, h4⟩
      · obtain ⟨fz5, h5, _⟩ := fzAll_box h3
        obtain ⟨cs', fz', h6, h7⟩ := hE.box f t _ fz5 (unHeap_in haf h5 (hn _ hm))
        exact ⟨.inl ⟨_, _, _, h6⟩, by rw [h7]; simp [Gh.un, haf, Gh.fz]⟩
      · obtain ⟨fz5, h5, _⟩ := fzAll_row h3
        obtain ⟨ver', fz', h6, h7, h8⟩ := hE.row f e k l 0 fz5 (unHeap_in haf h5 (hn _ hm))
        refine ⟨.inr ⟨_, _, _, _, _, h6, ?_⟩, by rw [h8]; simp [Gh.un, haf, Gh.fz]⟩
        rw [h7]
        simpa [Gh.un, haf] using h4
    have := hkp f hf hlf.1
    rwa [hlf.2] at this
  refine ⟨⟨b1.below, b1.sub, b1.old, b1.lt, ?_, fun a hlv => b1.new a (Alk.live hA hlv), fun i j hi hj => b1.apart i j (Alk.live hA hi) (Alk.live hA hj), ?_, ?_⟩, hblk⟩
  · intro a ob hob
    rcases hc a with he | ⟨f, o', hm, hk, he⟩
    · rw [hob] at he
      have := b1.obj a ob he.symm
      cases ob with
      | no => trivial
      | box t cs fz =>
        obtain ⟨vs, h3, h4⟩ := this
        exact ⟨vs, h3, h4.alk hA⟩
      | row e k l ver fz => exact this
    · rw [hob] at he
      injection he with he
      subst he
      obtain ⟨hf, hbl, h2⟩ := kept_is b2 hin hm hk
      rcases h2 with ⟨t, cs, fz, cs0, fz0, h3, h4, rfl, cs2, h5⟩ | ⟨hrv, e, k, l, ver, fz, fz0, h3, rfl, e2, l2, h4, h5, h6⟩
      · obtain ⟨vs, h7, h8⟩ := h1.obj a _ h3
        refine ⟨vs, ?_, (h8.ext b2).alk hA⟩
        rw [hbl, hblk f a _ hm hk (.inl ⟨_, _, _, h3⟩)]
        exact h7
      · have h7 := h1.obj a _ h3
        show RowOk w' gB.St (gB.rv a) (gB.bl a) e k l
        rw [hrv, hbl]
        exact RowOk.keep b2.keeps (fun hnn => hblk f a _ hm hk (.inr ⟨_, _, _, _, _, h3, hnn⟩)) h7
  · intro a t cs fz hob o hs
    rcases hc a with he | ⟨f, o', hm, hk, he⟩
    · rw [hob] at he
      exact b1.box a t cs fz he.symm o hs
    · rw [hob] at he
      injection he with he
      subst he
      obtain ⟨hf, hbl, h2⟩ := kept_is b2 hin hm hk
      rcases h2 with ⟨t, cs, fz, cs0, fz0, h3, h4, h7, cs2, h5⟩ | ⟨hrv, e, k, l, ver, fz, fz0, h3, h7, _⟩
      · injection h7 with _ _ h7
        rw [h7, b1.box a _ _ _ h5 o hs]
        rfl
      · cases h7
  · intro a e k l ver fz hob hne o hs
    rcases hc a with he | ⟨f, o', hm, hk, he⟩
    · rw [hob] at he
      exact b1.row a e k l ver fz he.symm hne o hs
    · rw [hob] at he
      injection he with he
      subst he
      obtain ⟨hf, hbl, h2⟩ := kept_is b2 hin hm hk
      rcases h2 with ⟨t, cs, fz, cs0, fz0, h3, h4, h7, cs2, h5⟩ | ⟨hrv, e', k', l', ver', fz', fz0, h3, h7, e2, l2, h4, h5, h6⟩
      · cases h7
      · cases h7
        have := b1.row a _ _ _ _ _ h5 hne o hs
        rw [this.1, ← h6]
        exact ⟨rfl, this.2⟩
end
end Go.Vm
