/- A small evaluator for the translated code, and the proof that what it computes the code does. -/
import Derived.Test.YtplbdggmaoanjaaVmAF
import Derived.ProofKit
import Derived.OpenShut
import Derived.ChangeOld
import Derived.Below
import Derived.Carry
import Derived.SizedLaws
import Derived.ChangeArms
/-! A law's arguments, read as kinds; a law's answer. -/
namespace Go.Vm
open Go.RowKit

/-- A value that came in: its numbers are of their kinds, nothing is too long. -/
def Wf : (k : Kd) → k.T → Prop
  | .int k, n => (Lit.int k n).wf = true
  | .bool, _ => True
  | .str, s => s.size ≤ maxLen
  | .slice k, l => l.length ≤ maxLen ∧ ∀ x ∈ l, Wf k x
  | .ptr k, x => Wf k x
  | .clo _ k, x => Wf k x
  | .unit, _ => True
  | .pair a b, x => Wf a x.1 ∧ Wf b x.2

/-- Is this type's data of this kind? In the second form: of the fields from a place on. -/
def kdOk (P : Program) : Kd → (TypeId ⊕ (List Field × Nat)) → Bool
  | .int k, .inl t => (match P.underlying t with | some (.int k') => k' == k | _ => false)
  | .bool, .inl t => (match P.underlying t with | some .bool => true | _ => false)
  | .str, .inl t => (match P.underlying t with | some .string => true | _ => false)
  | .slice k, .inl t => (match P.underlying t with | some (.slice e) => P.cellsOf e == k.size && decide (0 < k.size) && kdOk P k (.inl e) | _ => false)
  | .pair a b, .inl t => (match P.underlying t with
    | some (.struct fs) => P.cellsOf t == (Kd.pair a b).size && (match fs.toList with
      | f :: r => f.offset == 0 && P.cellsOf f.type == a.size && kdOk P a (.inl f.type) && kdOk P b (.inr (r, a.size))
      | [] => false)
    | _ => false)
  | .pair a b, .inr (f :: r, o) => f.offset == o && P.cellsOf f.type == a.size && kdOk P a (.inl f.type) && kdOk P b (.inr (r, o + a.size))
  | .unit, .inr ([], _) => true
  | _, _ => false

section
variable {H : Type} {en : TypeId × Value → H} {P : Program} {w : World} {base : Nat} {spare : Nat → Bool} {held : Bool}
def Old (w : World) : Nat → Nat → Prop := fun b _ => b < w.heap.size

theorem cell_lt {b o : Nat} {v : Value} (h : w.cell? ⟨b, o, none⟩ = some v) : b < w.heap.size := by
  unfold World.cell? at h
  split at h
  · rename_i h1
    exact (Array.getElem?_eq_some_iff.1 h1).1
  · cases h
theorem spot_none {a : Addr} {v : Value} (h : w.cell? a = some v) : a = ⟨a.block, a.off, none⟩ := by
  obtain ⟨b, o, s⟩ := a
  cases s with
  | none => rfl
  | some s =>
    unfold World.cell? at h
    split at h
    · simp at h
    · cases h

/-- Fields, one behind the other. -/
theorem fields_rd (F : List Field) (T : TypeId → List Value → Option (DataW H × List MemPlace)) (ih : ∀ (a : Kd) (t : TypeId) (cs : List Value) (y : DataW H × List MemPlace), kdOk P a (.inl t) = true → T t cs = some y → ∃ x : a.T, RdV w (Old w) a cs x ∧ Wf a x) :
    ∀ (b : Kd) (r : List Field) (o : Nat) (cs : List Value), kdOk P b (.inr (r, o)) = true → cs.length = o + b.size → (∀ f ∈ r, ∃ y, T f.type ((cs.drop f.offset).take (P.cellsOf f.type)) = some y) → ∃ x : b.T, RdV w (Old w) b (cs.drop o) x ∧ Wf b x
  | .unit, [], o, cs, _, hl, _ => ⟨(), by simp only [RdV]; rw [List.drop_eq_nil_iff]; simp only [Kd.size] at hl; omega, trivial⟩
  | .unit, _ :: _, o, cs, h, _, _ => by simp [kdOk] at h
  | .pair a b, [], o, cs, h, _, _ => by simp [kdOk] at h
  | .pair a b, f :: r, o, cs, h, hl, hf => by
    simp only [kdOk, Bool.and_eq_true, beq_iff_eq] at h
    obtain ⟨⟨⟨h1, h2⟩, h3⟩, h4⟩ := h
    obtain ⟨y, hy⟩ := hf f List.mem_cons_self
    obtain ⟨x, k1, k2⟩ := ih a f.type _ y h3 hy
    rw [h1, h2] at k1
    obtain ⟨z, k3, k4⟩ := fields_rd F T ih b r (o + a.size) cs h4 (by simp only [Kd.size] at hl; omega) (fun f hf' => hf f (List.mem_cons_of_mem _ hf'))
    refine ⟨(x, z), ?_, k2, k4⟩
    simp only [RdV]
    refine ⟨_, _, ?_, k1, k3⟩
    rw [← List.drop_drop, List.take_append_drop]
  | .int _, _, _, _, h, _, _ => by simp [kdOk] at h
  | .bool, _, _, _, h, _, _ => by simp [kdOk] at h
  | .str, _, _, _, h, _, _ => by simp [kdOk] at h
  | .slice _, _, _, _, h, _, _ => by simp [kdOk] at h
  | .ptr _, _, _, _, h, _, _ => by simp [kdOk] at h
  | .clo _ _, _, _, _, h, _, _ => by simp [kdOk] at h

theorem list_ex {α : Type} {n : Nat} {Q : Nat → α → Prop} (h : ∀ i, i < n → ∃ x, Q i x) : ∃ l : List α, l.length = n ∧ ∀ i (hi : i < l.length), Q i l[i] := by
  induction n with
  | zero => exact ⟨[], rfl, fun i hi => by simp at hi⟩
  | succ n ih =>
    obtain ⟨l, h1, h2⟩ := ih (fun i hi => h i (by omega))
    obtain ⟨x, hx⟩ := h n (by omega)
    refine ⟨l ++ [x], by simp [h1], fun i hi => ?_⟩
    by_cases hil : i < l.length
    · rw [List.getElem_append_left hil]
      exact h2 i hil
    · have : i = n := by simp at hi; omega
      subst this
      rw [List.getElem_append_right (by omega)]
      simpa using hx

theorem trod_rd : ∀ (fuel : Nat) (k : Kd) (t : TypeId) (cs : List Value) (y : DataW H × List MemPlace), kdOk P k (.inl t) = true → DataW.trod en P w base spare held fuel t cs = some y → ∃ x : k.T, RdV w (Old w) k cs x ∧ Wf k x := by
  intro fuel
  induction fuel with
  | zero => intro k t cs y _ h; simp [DataW.trod] at h
  | succ n ih =>
    intro k t cs y hk h
    cases k with
    | int ik =>
      simp only [kdOk] at hk
      split at hk
      · rename_i k' hu
        simp only [beq_iff_eq] at hk
        subst hk
        obtain ⟨m, rfl, _, h1⟩ := DataW.trod_int hu h
        exact ⟨m, by simp only [RdV], h1⟩
      · cases hk
    | bool =>
      simp only [kdOk] at hk
      split at hk
      · rename_i hu
        obtain ⟨m, rfl, _⟩ := DataW.trod_bool hu h
        exact ⟨m, by simp only [RdV], trivial⟩
      · cases hk
    | str =>
      simp only [kdOk] at hk
      split at hk
      · rename_i hu
        obtain ⟨m, rfl, _, h1⟩ := DataW.trod_string hu h
        exact ⟨m, by simp only [RdV], h1⟩
      · cases hk
    | slice k =>
      simp only [kdOk] at hk
      split at hk
      · rename_i e hu
        simp only [Bool.and_eq_true, beq_iff_eq, decide_eq_true_eq] at hk
        obtain ⟨⟨h1, h2⟩, h3⟩ := hk
        rcases DataW.trod_slice hu h with ⟨rfl, _⟩ | ⟨a, len, cap, elems, rest, m, hm, rfl, _, _, hl, hc, hel, hi, _, _⟩
        · exact ⟨[], by simp only [RdV]; exact ⟨none, 0, rfl, Nat.le_refl _, fun h => by simp at h⟩, Nat.zero_le _, fun x hx => by simp at hx⟩
        · injection hm with hm
          subst hm
          have key : ∀ i, i < len → ∃ x : k.T, (∃ us, RdV w (Old w) k us x ∧ w.cells? base (a.add (i * k.size)) k.size = some us) ∧ Wf k x := by
            intro i hil
            have h4 := hi i hil
            rw [h1] at h4
            have h5 : elems[i]? = some (elems[i]'(by omega)) := List.getElem?_eq_getElem _
            rw [h5, Option.bind_eq_some_iff] at h4
            obtain ⟨us, h6, h7⟩ := h4
            obtain ⟨x, h8, h9⟩ := ih k e us _ h3 h7
            exact ⟨x, ⟨us, h8, h6⟩, h9⟩
          obtain ⟨l, hll, hlx⟩ := list_ex key
          subst hll
          refine ⟨l, ?_, Nat.le_trans hl hc, fun x hx => ?_⟩
          · simp only [RdV]
            refine ⟨some a, cap, rfl, hl, fun h0 => ?_⟩
            have hcell : ∀ i (h : i < l.length), ∃ us, RdV w (Old w) k us l[i] ∧ us.length = k.size ∧ ∀ j, j < k.size → w.cell? ((a.add (i * k.size)).add j) = us[j]? := by
              intro i hil
              obtain ⟨⟨us, h4, h5⟩, _⟩ := hlx i hil
              obtain ⟨_, h6, h7⟩ := World.cells?_some h5
              exact ⟨us, h4, h6, h7⟩
            have hsp : a = ⟨a.block, a.off, none⟩ := by
              obtain ⟨us, _, h6, h7⟩ := hcell 0 h0
              have h8 := h7 0 h2
              rw [Nat.zero_mul] at h8
              have e1 : (a.add 0).add 0 = a := by simp [Addr.add]
              rw [e1, List.getElem?_eq_getElem (by omega)] at h8
              exact spot_none h8
            refine ⟨a.block, a.off, by rw [← hsp], fun i hil => ?_⟩
            obtain ⟨us, h4, h6, h7⟩ := hcell i hil
            refine ⟨us, h4, fun j hj => ?_⟩
            have h8 := h7 j (by omega)
            rw [hsp] at h8
            have e2 : ((⟨a.block, a.off, none⟩ : Addr).add (i * k.size)).add j = ⟨a.block, a.off + i * k.size + j, none⟩ := by
              rw [add_mk, add_mk]
            rw [e2, List.getElem?_eq_getElem hj] at h8
            exact ⟨cell_lt h8, h8⟩
          · obtain ⟨i, hil, rfl⟩ := List.getElem_of_mem hx
            exact (hlx i hil).2
      · cases hk
    | ptr k => simp [kdOk] at hk
    | clo f k => simp [kdOk] at hk
    | unit => simp [kdOk] at hk
    | pair a b =>
      simp only [kdOk] at hk
      split at hk
      · rename_i fs hu
        simp only [Bool.and_eq_true, beq_iff_eq] at hk
        obtain ⟨hsz, hk⟩ := hk
        split at hk
        · rename_i f r hfs
          simp only [Bool.and_eq_true, beq_iff_eq] at hk
          obtain ⟨⟨⟨h1, h2⟩, h3⟩, h4⟩ := hk
          obtain ⟨xs, m, hm, _, hlen, hxl, hx⟩ := DataW.trod_struct hu h
          injection hm with hm
          subst hm
          have hT : ∀ f ∈ fs.toList, ∃ y, DataW.trod en P w base spare held n f.type ((cs.drop f.offset).take (P.cellsOf f.type)) = some y := by
            intro f hf
            obtain ⟨i, hi, rfl⟩ := List.getElem_of_mem hf
            have h5 := hx i (fs.toList[i]) (by simp)
            have hi' : i < fs.size := by simpa using hi
            exact ⟨xs[i]'(by omega), by rw [h5]; exact List.getElem?_eq_getElem _⟩
          rw [hfs] at hT
          have := fields_rd (P := P) (w := w) [] (DataW.trod en P w base spare held n) (fun a t cs y => ih a t cs y) (.pair a b) (f :: r) 0 cs (by simp only [kdOk, Bool.and_eq_true, beq_iff_eq]; exact ⟨⟨⟨h1, h2⟩, h3⟩, by simpa using h4⟩) (by rw [hlen, hsz]; simp) hT
          simpa using this
        · cases hk
      · cases hk

/-- The arguments of a law: each of a kind. -/
def argsOk (P : Program) : List SS → List TypeId → Bool
  | [], [] => true
  | .v agg k :: r, t :: ts => kdOk P k (.inl t) && (match P.underlying t with | some (.struct _) => agg | some (.int _) => !agg | some .bool => !agg | some .string => !agg | some (.slice _) => !agg | _ => false) && decide (agg = true ∨ k.size = 1) && P.readableRec t && decide (t < P.types.size) && argsOk P r ts
  | _, _ => false
def WfL : (ss : List SS) → (kdL ss).T → Prop
  | [], _ => True
  | s :: r, x => Wf s.kd x.1 ∧ WfL r x.2

theorem args_rd {b0 : Nat} {g : Gh} (hg : g.St = Old w) : ∀ (ss : List SS) (ts : List TypeId) (vs : List Value) (ds : List (DataW H)) (ps : List MemPlace), argsOk P ss ts = true → DataW.TrodAll en P w base spare held ts vs ds ps →
    (∀ (j : Nat) t v, ts[j]? = some t → vs[j]? = some v → Value.okWide P w .any b0 t v) → ∃ x : (kdL ss).T, All2 (AVR w g []) (outL ss x) vs ∧ WfL ss x
  | [], [], [], [], _, _, _, _ => ⟨(), .nil, trivial⟩
  | [], [], _ :: _, _, _, _, h, _ => by simp [DataW.TrodAll] at h
  | [], [], [], _ :: _, _, _, h, _ => by simp [DataW.TrodAll] at h
  | [], _ :: _, _, _, _, h, _, _ => by simp [argsOk] at h
  | s :: r, [], _, _, _, h, _, _ => by cases s <;> simp [argsOk] at h
  | s :: r, t :: ts, [], _, _, _, h, _ => by simp [DataW.TrodAll] at h
  | s :: r, t :: ts, _ :: _, [], _, _, h, _ => by simp [DataW.TrodAll] at h
  | s :: r, t :: ts, v :: vs, d :: ds, ps, hk, h, hv => by
    cases s with
    | v agg k =>
      simp only [argsOk, Bool.and_eq_true, decide_eq_true_eq] at hk
      obtain ⟨⟨⟨⟨⟨k1, k2⟩, k3⟩, _⟩, _⟩, k4⟩ := hk
      obtain ⟨p, q, h1, h2, _⟩ := h
      obtain ⟨y, h3, h4⟩ := args_rd hg r ts vs ds q k4 h2 (fun j t v ht hv' => hv (j + 1) t v (by simpa using ht) (by simpa using hv'))
      obtain ⟨fuel, h5⟩ := h1
      obtain ⟨x, h6, h7⟩ := trod_rd fuel k t _ _ k1 h5
      refine ⟨(x, y), .cons ?_ h3, h7, h4⟩
      have h8 := hv 0 t v rfl rfl
      rw [← hg] at h6
      have h9 := enc_ok (g := g) (H := []) k x _ h6
      show AVR w g [] (valAV agg (enc k x)) v
      have one : agg = false → v.oneCell' = true := by
        intro ha
        subst ha
        split at k2
        · cases k2
        · rename_i hu; obtain ⟨n, rfl⟩ := WideShapes.okWide_int hu h8; rfl
        · rename_i hu; obtain ⟨n, rfl⟩ := WideShapes.okWide_bool hu h8; rfl
        · rename_i hu; obtain ⟨n, rfl⟩ := WideShapes.okWide_string hu h8; rfl
        · rename_i hu; obtain ⟨_, _, _, rfl⟩ := WideShapes.okWide_slice hu h8; rfl
        · cases k2
      cases agg with
      | true =>
        split at k2
        · rename_i hu
          obtain ⟨cs, rfl, _⟩ := WideShapes.okWide_struct hu h8
          exact ⟨cs, rfl, h9⟩
        all_goals (first | cases k2 | simp at k2)
      | false =>
        have h10 := one rfl
        rw [cells_of_one h10] at h9
        have hn : k.size = 1 := by rcases k3 with h | h
                                   · cases h
                                   · exact h
        have h11 : (enc k x).length = 1 := by rw [enc_len, hn]
        simp only [valAV]
        cases he : enc k x with
        | nil => rw [he] at h11; cases h11
        | cons c r =>
          rw [he] at h9 h11
          cases r with
          | nil => cases h9 with | cons h12 _ => exact h12.1
          | cons _ _ => simp at h11
    | _ => simp [argsOk] at hk

theorem trodAll_len : ∀ {ts : List TypeId} {vs : List Value} {ds : List (DataW H)} {ps : List MemPlace}, DataW.TrodAll en P w base spare held ts vs ds ps → ds.length = ts.length
  | [], [], [], _, _ => rfl
  | [], _ :: _, _, _, h => by simp [DataW.TrodAll] at h
  | [], [], _ :: _, _, h => by simp [DataW.TrodAll] at h
  | _ :: _, [], _, _, h => by simp [DataW.TrodAll] at h
  | _ :: _, _ :: _, [], _, h => by simp [DataW.TrodAll] at h
  | _ :: _, _ :: _, _ :: _, _, h => by
    obtain ⟨_, _, _, h2, _⟩ := h
    simp [trodAll_len h2]

/-- The arguments read behind the call as before. -/
theorem args_back {w' : World} (hl : laidOutB P = true) (hb : Below w.heap.size w w') : ∀ (ss : List SS) (ts : List TypeId) (vs : List Value) (ds : List (DataW H)) (ps : List MemPlace), argsOk P ss ts = true → DataW.TrodAll en P w 0 (fun _ => true) true ts vs ds ps →
    DataW.TrodAll en P w' 0 (fun b => decide (b < w.heap.size)) true ts vs ds ps
  | [], [], [], [], _, _, h => h
  | [], [], _ :: _, _, _, _, h => by simp [DataW.TrodAll] at h
  | [], [], [], _ :: _, _, _, h => by simp [DataW.TrodAll] at h
  | [], _ :: _, _, _, _, h, _ => by simp [argsOk] at h
  | s :: r, [], _, _, _, h, _ => by cases s <;> simp [argsOk] at h
  | s :: r, t :: ts, [], _, _, _, h => by simp [DataW.TrodAll] at h
  | s :: r, t :: ts, _ :: _, [], _, _, h => by simp [DataW.TrodAll] at h
  | s :: r, t :: ts, v :: vs, d :: ds, ps, hk, h => by
    cases s with
    | v agg k =>
      simp only [argsOk, Bool.and_eq_true, decide_eq_true_eq] at hk
      obtain ⟨⟨⟨⟨⟨k1, k2⟩, k3⟩, k5⟩, k6⟩, k4⟩ := hk
      obtain ⟨p, q, h1, h2, h3⟩ := h
      have hlt : ∀ x ∈ p, x.block < w.heap.size := by
        obtain ⟨m, hm⟩ := h1
        exact DataW.trod_lt m _ _ _ hm
      exact ⟨p, q, Below.trod hl k5 k6 h1 hb hlt, args_back hl hb r ts vs ds q k4 h2, h3⟩
    | _ => simp [argsOk] at hk
end

/-- A function that only makes new memory, and hands back what lies nowhere. -/
theorem fn_plain {P : Program} {f : FuncId} {F : FnI} (hsi : F.si.ok { t := [], h := List.replicate F.n .no, lg := [], lf := [] } = true) (hb : ∃ fn, P.funcs[f]? = some fn ∧ fn.body.isSome = true ∧ fn.name ≠ "runtime.NumGoroutine")
    (h : ∀ x z, F.F x = some z → ∀ (w : World) (g : Gh) (vals : Array Value), All2 (AVR w g (startH F x)) (F.si.outs x) vals.toList →
      Calls P f vals w fun e w' => ∃ v, e = .returned v ∧ Below w.heap.size w w' ∧ ∃ s y, AltIs F.so z s y ∧ endH F x s y = startH F x ∧ ∀ g', ResR (AVR w' g' (startH F x)) (s.outs y) v) : FnOk P f F := by
  refine ⟨hsi, hb, fun x z hz C w g vals hinv hargs => ?_⟩
  refine (h x z hz w g vals hargs).mono ?_
  rintro e w' ⟨v, rfl, hbl, s, y, h1, h2, h3⟩
  have hs := step_new hinv hbl
  refine ⟨v, rfl, s, y, h1, ?_⟩
  rw [h2]
  exact ⟨_, hs.1, hs.2, h3 _, fun id _ hl => hbl.block _ (hinv.new id hl).2⟩

/-- A law: out of its contract. -/
theorem law_calls {P : Program} {f : FuncId} {F : FnI} {w : World} {args : Array Value} {x : F.si.kd.T} {z : AltT F.so} (ok : FnOk P f F) (hz : F.F x = some z)
    (hx : All2 (AVR w { St := Old w, bl := fun _ => 0, rv := fun _ => nilSlice } []) (F.si.outs x) args.toList) (hno : startH F x = List.replicate F.n .no)
    (hres : ∀ s y, AltIs F.so z s y → s.outs y = [.c (.bool true)]) :
    Calls P f args w fun e w' => e = .returned (.bool true) ∧ Below w.heap.size w w' := by
  have hinv0 : Inv { w0 := w, S0 := Old w, own := fun _ => False } w { St := Old w, bl := fun _ => 0, rv := fun _ => nilSlice } [] :=
    ⟨⟨rfl, rfl, rfl, Nat.le_refl _, fun _ _ _ => rfl⟩, fun _ _ h => h, fun _ _ h => .inl h, fun _ _ h => h, fun id ob h => by simp at h, fun id h => by
      rcases h with ⟨_, _, _, h⟩ | ⟨_, _, _, _, _, h, _⟩ <;> simp at h, fun i j h => by
      rcases h with ⟨_, _, _, h⟩ | ⟨_, _, _, _, _, h, _⟩ <;> simp at h, fun id t cs fz h => by simp at h, fun id e k l ver fz h => by simp at h⟩
  have hinv := hinv0.none F.n
  rw [← hno] at hinv
  have hx' : All2 (AVR w { St := Old w, bl := fun _ => 0, rv := fun _ => nilSlice } (startH F x)) (F.si.outs x) args.toList :=
    hx.mono fun _ _ h => h.ext ⟨Keeps.refl _ _, fun id o ho => by simp at ho⟩
  refine (ok.call x z hz _ w _ args hinv hx').mono ?_
  rintro e w' ⟨v, rfl, s, y, hs, g', hI, hX, hR, _⟩
  rw [hres s y hs] at hR
  have : v = .bool true := hR
  subst this
  exact ⟨rfl, hI.below.os, hI.below.tape, hI.below.output, hI.below.size, fun b hb => hI.below.block b hb (fun h => h)⟩
end Go.Vm
