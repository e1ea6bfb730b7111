/- A small evaluator for the translated code, and the proof that what it computes the code does. -/
import Derived.WalkKit
/-! The evaluator's kinds, values, relation to memory. Of no program. -/
namespace Go.Vm
open Go.RowKit

/-- Kinds of values that are read as data. 'ptr k': a pointer, not nil, to memory of kind k that is only read; 'clo f k': a function value whose captured values are of kind k. -/
inductive Kd where
  | int (k : IntKind) | bool | str
  | slice (k : Kd) | ptr (k : Kd) | clo (f : FuncId) (k : Kd)
  | unit | pair (a b : Kd)

@[reducible] def Kd.T : Kd → Type
  | .int _ => Int
  | .bool => Bool
  | .str => ByteArray
  | .slice k => List k.T
  | .ptr k => k.T
  | .clo _ k => k.T
  | .unit => Unit
  | .pair a b => a.T × b.T

def Kd.size : Kd → Nat
  | .unit => 0
  | .pair a b => a.size + b.size
  | _ => 1

/-- Whether two integer kinds are one. -/
def ikEq : (a b : IntKind) → Option (PLift (a = b)) := fun a b => if h : a = b then some ⟨h⟩ else none

/-- Whether two kinds are one. -/
def Kd.same : (a b : Kd) → Option (PLift (a = b))
  | .int a, .int b => match ikEq a b with | some ⟨h⟩ => some ⟨by rw [h]⟩ | none => none
  | .bool, .bool => some ⟨rfl⟩
  | .str, .str => some ⟨rfl⟩
  | .slice a, .slice b => match Kd.same a b with | some ⟨h⟩ => some ⟨by rw [h]⟩ | none => none
  | .ptr a, .ptr b => match Kd.same a b with | some ⟨h⟩ => some ⟨by rw [h]⟩ | none => none
  | .clo f a, .clo g b => if e : f = g then match Kd.same a b with | some ⟨h⟩ => some ⟨by rw [h, e]⟩ | none => none else none
  | .unit, .unit => some ⟨rfl⟩
  | .pair a b, .pair c d => match Kd.same a c with
    | some ⟨h⟩ => match Kd.same b d with | some ⟨h'⟩ => some ⟨by rw [h, h']⟩ | none => none
    | none => none
  | _, _ => none

/-- A value of one kind as one of another, if they are one. -/
def Kd.cast (a b : Kd) (x : a.T) : Option b.T :=
  match Kd.same a b with
  | some ⟨h⟩ => some (h ▸ x)
  | none => none
def Kd.castL (a b : Kd) (x : List a.T) : Option (List b.T) :=
  match Kd.same a b with
  | some ⟨h⟩ => some (h ▸ x)
  | none => none

theorem Kd.cast_some {a b : Kd} {x : a.T} {y : b.T} (h : Kd.cast a b x = some y) : ∃ e : a = b, y = e ▸ x := by
  unfold Kd.cast at h
  split at h
  · rename_i h' _
    exact ⟨h', by injection h with h; exact h.symm⟩
  · cases h
theorem Kd.castL_some {a b : Kd} {x : List a.T} {y : List b.T} (h : Kd.castL a b x = some y) : ∃ e : a = b, y = e ▸ x := by
  unfold Kd.castL at h
  split at h
  · rename_i h' _
    exact ⟨h', by injection h with h; exact h.symm⟩
  · cases h

/-- What one cell holds, as far as it is known. -/
inductive Cell where
  | junk
  | undef
  | int (k : IntKind) (n : Int)
  | bool (b : Bool)
  | str (s : ByteArray)
  | sl (k : Kd) (l : List k.T)
  | rptr (k : Kd) (x : k.T) (off : Nat)
  | clo (f : FuncId) (k : Kd) (x : k.T)
  | nils
  | nilp
  | own (id ver : Nat)
  | ptr (id off : Nat)
  | eptr (id ver : Nat) (i : Int) (off : Nat)

/-- A value: of one cell, a struct or an array, a call's several results. -/
inductive AV where
  | c (x : Cell)
  | agg (l : List Cell)
  | tup (l : List (Bool × List Cell))

/-- What the call itself has made: a variable, a row. -/
inductive Obj where
  | no
  | box (t : TypeId) (cs : List Cell) (fz : Bool)
  | row (e : TypeId) (k : Kd) (l : List k.T) (ver : Nat) (fz : Bool)

/-- Cells that hold these values and stay so. -/
def MemAt (w : World) (St : Nat → Nat → Prop) (b o : Nat) (us : List Value) : Prop :=
  ∀ j (h : j < us.length), St b (o + j) ∧ w.cell? ⟨b, o + j, none⟩ = some us[j]

/-- These cells' values read as x. -/
def RdV (w : World) (St : Nat → Nat → Prop) : (k : Kd) → List Value → k.T → Prop
  | .int ik, cs, n => cs = [.int ik n]
  | .bool, cs, b => cs = [.bool b]
  | .str, cs, s => cs = [.string s]
  | .slice k, cs, l => ∃ A c, cs = [.slice A l.length c] ∧ l.length ≤ c ∧
      (0 < l.length → ∃ b o, A = some ⟨b, o, none⟩ ∧ ∀ i (h : i < l.length), ∃ us, RdV w St k us l[i] ∧ MemAt w St b (o + i * k.size) us)
  | .ptr k, cs, x => ∃ b o us, cs = [.pointer (some ⟨b, o, none⟩)] ∧ RdV w St k us x ∧ MemAt w St b o us
  | .clo f k, cs, x => ∃ caps, cs = [.func (.func f) #[] caps] ∧ RdV w St k caps.toList x
  | .unit, cs, _ => cs = []
  | .pair a b, cs, x => ∃ us vs, cs = us ++ vs ∧ RdV w St a us x.1 ∧ RdV w St b vs x.2

theorem RdV.len {w : World} {St : Nat → Nat → Prop} : ∀ {k : Kd} {cs : List Value} {x : k.T}, RdV w St k cs x → cs.length = k.size
  | .int _, _, _, h => by simp only [RdV] at h; subst h; rfl
  | .bool, _, _, h => by simp only [RdV] at h; subst h; rfl
  | .str, _, _, h => by simp only [RdV] at h; subst h; rfl
  | .slice _, _, _, h => by simp only [RdV] at h; obtain ⟨_, _, rfl, _⟩ := h; rfl
  | .ptr _, _, _, h => by simp only [RdV] at h; obtain ⟨_, _, _, rfl, _⟩ := h; rfl
  | .clo _ _, _, _, h => by simp only [RdV] at h; obtain ⟨_, rfl, _⟩ := h; rfl
  | .unit, _, _, h => by simp only [RdV] at h; subst h; rfl
  | .pair _ _, _, _, h => by
    simp only [RdV] at h
    obtain ⟨_, _, rfl, h1, h2⟩ := h
    simp [Kd.size, h1.len, h2.len]

/-- What is stable in one world is so in the other. -/
structure Keeps (w : World) (St : Nat → Nat → Prop) (w' : World) (St' : Nat → Nat → Prop) : Prop where
  sub : ∀ b o, St b o → St' b o
  cell : ∀ b o, St b o → w'.cell? ⟨b, o, none⟩ = w.cell? ⟨b, o, none⟩

theorem Keeps.refl (w : World) (St : Nat → Nat → Prop) : Keeps w St w St := ⟨fun _ _ h => h, fun _ _ _ => rfl⟩
theorem Keeps.trans {w w1 w2 : World} {S S1 S2 : Nat → Nat → Prop} (h : Keeps w S w1 S1) (k : Keeps w1 S1 w2 S2) : Keeps w S w2 S2 :=
  ⟨fun b o x => k.sub b o (h.sub b o x), fun b o x => (k.cell b o (h.sub b o x)).trans (h.cell b o x)⟩

section
variable {w w' : World} {St St' : Nat → Nat → Prop}
theorem MemAt.keep (hk : Keeps w St w' St') {b o : Nat} {us : List Value} (h : MemAt w St b o us) : MemAt w' St' b o us :=
  fun j hj => ⟨hk.sub _ _ (h j hj).1, (hk.cell _ _ (h j hj).1).trans (h j hj).2⟩

theorem RdV.keep (hk : Keeps w St w' St') : ∀ {k : Kd} {cs : List Value} {x : k.T}, RdV w St k cs x → RdV w' St' k cs x
  | .int _, _, _, h => by simp only [RdV] at h ⊢; exact h
  | .bool, _, _, h => by simp only [RdV] at h ⊢; exact h
  | .str, _, _, h => by simp only [RdV] at h ⊢; exact h
  | .slice _, _, _, h => by
    simp only [RdV] at h ⊢
    obtain ⟨A, c, rfl, hc, hr⟩ := h
    refine ⟨A, c, rfl, hc, fun h0 => ?_⟩
    obtain ⟨b, o, rfl, he⟩ := hr h0
    refine ⟨b, o, rfl, fun i hi => ?_⟩
    obtain ⟨us, h1, h2⟩ := he i hi
    exact ⟨us, h1.keep hk, h2.keep hk⟩
  | .ptr _, _, _, h => by
    simp only [RdV] at h ⊢
    obtain ⟨b, o, us, rfl, h1, h2⟩ := h
    exact ⟨b, o, us, rfl, h1.keep hk, h2.keep hk⟩
  | .clo _ _, _, _, h => by
    simp only [RdV] at h ⊢
    obtain ⟨caps, rfl, h1⟩ := h
    exact ⟨caps, rfl, h1.keep hk⟩
  | .unit, _, _, h => by simp only [RdV] at h ⊢; exact h
  | .pair _ _, _, _, h => by
    simp only [RdV] at h ⊢
    obtain ⟨us, vs, rfl, h1, h2⟩ := h
    exact ⟨us, vs, rfl, h1.keep hk, h2.keep hk⟩
end

/-- Where the objects lie, what is stable. -/
structure Gh where
  St : Nat → Nat → Prop
  bl : Nat → Nat
  rv : Nat → Value

def nilSlice : Value := .slice none 0 0

/-- A value in a cell is as it is told. -/
def VR (w : World) (g : Gh) (H : List Obj) : Cell → Value → Prop
  | .junk, _ => True
  | .undef, v => v = Go.undef
  | .int k n, v => v = .int k n
  | .bool b, v => v = .bool b
  | .str s, v => v = .string s
  | .sl k l, v => RdV w g.St (.slice k) [v] l
  | .rptr k x off, v => ∃ b o us, v = .pointer (some ⟨b, o + off, none⟩) ∧ RdV w g.St k us x ∧ MemAt w g.St b o us
  | .clo f k x, v => RdV w g.St (.clo f k) [v] x
  | .nils, v => v = nilSlice
  | .nilp, v => v = .pointer none
  | .own id ver, v => ∃ e k l ver' fz, H[id]? = some (.row e k l ver' fz) ∧ ver ≤ ver' ∧ (ver = ver' → v = g.rv id)
  | .ptr id off, v => (∃ t cs fz, H[id]? = some (.box t cs fz)) ∧ v = .pointer (some ⟨g.bl id, off, none⟩)
  | .eptr id ver i off, v => ∃ e k l ver' fz, H[id]? = some (.row e k l ver' fz) ∧ ver ≤ ver' ∧
      (ver = ver' → 0 ≤ i ∧ i < l.length ∧ v = .pointer (some ⟨g.bl id, i.toNat * k.size + off, none⟩))

/-- A value that a cell of memory may hold. -/
def VC (w : World) (g : Gh) (H : List Obj) (c : Cell) (v : Value) : Prop := VR w g H c v ∧ v.oneCell' = true

/-- Lists alike, place by place. -/
inductive All2 {α β : Type} (R : α → β → Prop) : List α → List β → Prop
  | nil : All2 R [] []
  | cons {a : α} {b : β} {l : List α} {m : List β} : R a b → All2 R l m → All2 R (a :: l) (b :: m)

namespace All2
variable {α β : Type} {R R' : α → β → Prop}
theorem length {l : List α} {m : List β} (h : All2 R l m) : l.length = m.length := by
  induction h with
  | nil => rfl
  | cons _ _ ih => simp [ih]
theorem mono (hr : ∀ a b, R a b → R' a b) {l : List α} {m : List β} (h : All2 R l m) : All2 R' l m := by
  induction h with
  | nil => exact .nil
  | cons h _ ih => exact .cons (hr _ _ h) ih
theorem get {l : List α} {m : List β} (h : All2 R l m) : ∀ (i : Nat) (a : α), l[i]? = some a → ∃ b, m[i]? = some b ∧ R a b := by
  induction h with
  | nil => intro i a h; simp at h
  | cons h0 _ ih =>
    intro i a h
    cases i with
    | zero => simp at h; subst h; exact ⟨_, rfl, h0⟩
    | succ i => simpa using ih i a (by simpa using h)
theorem get' {l : List α} {m : List β} (h : All2 R l m) : ∀ (i : Nat) (b : β), m[i]? = some b → ∃ a, l[i]? = some a ∧ R a b := by
  induction h with
  | nil => intro i a h; simp at h
  | cons h0 _ ih =>
    intro i a h
    cases i with
    | zero => simp at h; subst h; exact ⟨_, rfl, h0⟩
    | succ i => simpa using ih i a (by simpa using h)
theorem append {l l' : List α} {m m' : List β} (h : All2 R l m) (h' : All2 R l' m') : All2 R (l ++ l') (m ++ m') := by
  induction h with
  | nil => exact h'
  | cons h0 _ ih => exact .cons h0 ih
theorem take {l : List α} {m : List β} (h : All2 R l m) : ∀ n, All2 R (l.take n) (m.take n) := by
  induction h with
  | nil => intro n; simp; exact .nil
  | cons h0 _ ih =>
    intro n
    cases n with
    | zero => exact .nil
    | succ n => simpa using .cons h0 (ih n)
theorem drop {l : List α} {m : List β} (h : All2 R l m) : ∀ n, All2 R (l.drop n) (m.drop n) := by
  induction h with
  | nil => intro n; simp; exact .nil
  | cons h0 hh ih =>
    intro n
    cases n with
    | zero => exact .cons h0 hh
    | succ n => simpa using ih n
theorem set {l : List α} {m : List β} (h : All2 R l m) {a : α} {b : β} (hab : R a b) : ∀ n, All2 R (l.set n a) (m.set n b) := by
  induction h with
  | nil => intro n; simp; exact .nil
  | cons h0 hh ih =>
    intro n
    cases n with
    | zero => exact .cons hab hh
    | succ n => simpa using .cons h0 (ih n)
theorem of_get {l : List α} {m : List β} (hl : l.length = m.length) (h : ∀ (i : Nat) (a : α) (b : β), l[i]? = some a → m[i]? = some b → R a b) : All2 R l m := by
  induction l generalizing m with
  | nil => cases m with | nil => exact .nil | cons _ _ => simp at hl
  | cons a l ih =>
    cases m with
    | nil => simp at hl
    | cons b m => exact .cons (h 0 a b rfl rfl) (ih (by simpa using hl) (fun i x y hx hy => h (i + 1) x y (by simpa using hx) (by simpa using hy)))
end All2

def AVR (w : World) (g : Gh) (H : List Obj) : AV → Value → Prop
  | .c x, v => VR w g H x v
  | .agg cs, v => ∃ vs, v = .agg vs ∧ All2 (VC w g H) cs vs.toList
  | .tup l, v => ∃ vs, v = .tuple vs ∧ All2 (fun (p : Bool × List Cell) u => if p.1 then ∃ us, u = Value.agg us ∧ All2 (VC w g H) p.2 us.toList else ∃ x, p.2 = [x] ∧ VR w g H x u) l vs.toList

/-- A row: nil, or the head of a block. -/
def RowOk (w : World) (St : Nat → Nat → Prop) (v : Value) (b : Nat) (e : TypeId) (k : Kd) (l : List k.T) : Prop :=
  (v = nilSlice ∧ l = []) ∨
  ∃ cap cur, v = .slice (some ⟨b, 0, none⟩) l.length cap ∧ w.heap[b]? = some (.cells cur e (0, 0)) ∧ l.length ≤ cap ∧ cap ≤ maxLen ∧ cur.size = cap * k.size ∧
    ∀ i (h : i < l.length), ∃ us, RdV w St k us l[i] ∧ ∀ j (hj : j < us.length), cur[i * k.size + j]? = some us[j]

def ObjOk (w : World) (g : Gh) (H : List Obj) (id : Nat) : Obj → Prop
  | .no => True
  | .box t cs _ => ∃ vs, w.heap[g.bl id]? = some (.cells vs t (0, 0)) ∧ All2 (VC w g H) cs vs.toList
  | .row e k l _ _ => RowOk w g.St (g.rv id) (g.bl id) e k l

/-- The object has a block of its own. -/
def Live (g : Gh) (H : List Obj) (id : Nat) : Prop :=
  (∃ t cs fz, H[id]? = some (.box t cs fz)) ∨ (∃ e k l ver fz, H[id]? = some (.row e k l ver fz) ∧ g.rv id ≠ nilSlice)

/-- Where a call began: the world, what was stable then, which older blocks the call may turn. -/
structure Ctx where
  w0 : World
  S0 : Nat → Nat → Prop
  own : Nat → Prop

/-- What the call has left alone. -/
structure Bel (C : Ctx) (w : World) : Prop where
  os : w.os = C.w0.os
  tape : w.tape = C.w0.tape
  output : w.output = C.w0.output
  size : C.w0.heap.size ≤ w.heap.size
  block : ∀ b, b < C.w0.heap.size → ¬ C.own b → w.heap[b]? = C.w0.heap[b]?

theorem Bel.to {C : Ctx} {w w' : World} (h : Bel C w) (h1 : w'.os = w.os) (h2 : w'.tape = w.tape) (h3 : w'.output = w.output) (h4 : w.heap.size ≤ w'.heap.size) (h5 : ∀ b, b < C.w0.heap.size → ¬ C.own b → w'.heap[b]? = w.heap[b]?) : Bel C w' :=
  ⟨h1.trans h.os, h2.trans h.tape, h3.trans h.output, Nat.le_trans h.size h4, fun b hb hn => (h5 b hb hn).trans (h.block b hb hn)⟩

structure Inv (C : Ctx) (w : World) (g : Gh) (H : List Obj) : Prop where
  below : Bel C w
  sub : ∀ b o, C.S0 b o → g.St b o
  old : ∀ b o, g.St b o → C.S0 b o ∨ C.w0.heap.size ≤ b ∨ C.own b
  lt : ∀ b o, g.St b o → b < w.heap.size
  obj : ∀ id ob, H[id]? = some ob → ObjOk w g H id ob
  new : ∀ id, Live g H id → (C.w0.heap.size ≤ g.bl id ∨ C.own (g.bl id)) ∧ g.bl id < w.heap.size
  apart : ∀ i j, Live g H i → Live g H j → g.bl i = g.bl j → i = j
  box : ∀ id t cs fz, H[id]? = some (.box t cs fz) → ∀ o, g.St (g.bl id) o → fz = true
  row : ∀ id e k l ver fz, H[id]? = some (.row e k l ver fz) → g.rv id ≠ nilSlice → ∀ o, g.St (g.bl id) o → fz = true ∧ o < l.length * k.size

/-- What becomes of an object: a variable stays where it is; a row stays, or is another one under a later number. -/
def Later (g g' : Gh) (id : Nat) : Obj → Obj → Prop
  | .no, _ => True
  | .box t _ _, o => (∃ cs fz, o = .box t cs fz) ∧ g'.bl id = g.bl id
  | .row _ k l ver _, o => ∃ e' k' l' ver' fz', o = .row e' k' l' ver' fz' ∧
      ((ver' = ver ∧ k' = k ∧ l'.length = l.length ∧ g'.rv id = g.rv id ∧ g'.bl id = g.bl id) ∨ ver < ver')

structure Ext (w : World) (g : Gh) (H : List Obj) (w' : World) (g' : Gh) (H' : List Obj) : Prop where
  keeps : Keeps w g.St w' g'.St
  later : ∀ id o, H[id]? = some o → ∃ o', H'[id]? = some o' ∧ Later g g' id o o'

theorem Later.refl (g : Gh) (id : Nat) : ∀ o, Later g g id o o
  | .no => trivial
  | .box _ cs fz => ⟨⟨cs, fz, rfl⟩, rfl⟩
  | .row e k l ver fz => ⟨e, k, l, ver, fz, rfl, .inl ⟨rfl, rfl, rfl, rfl, rfl⟩⟩
theorem Later.trans {g g1 g2 : Gh} {id : Nat} {o o1 o2 : Obj} (h : Later g g1 id o o1) (k : Later g1 g2 id o1 o2) : Later g g2 id o o2 := by
  cases o with
  | no => trivial
  | box t cs fz =>
    obtain ⟨⟨cs1, f1, rfl⟩, h2⟩ := h
    obtain ⟨⟨cs2, f2, rfl⟩, h3⟩ := k
    exact ⟨⟨cs2, f2, rfl⟩, h3.trans h2⟩
  | row e k0 l ver fz =>
    obtain ⟨e', k', l', ver', fz', rfl, h2⟩ := h
    obtain ⟨e'', k'', l'', ver'', fz'', rfl, h3⟩ := k
    refine ⟨e'', k'', l'', ver'', fz'', rfl, ?_⟩
    rcases h2 with ⟨a1, a2, a3, a4, a5⟩ | h2
    · rcases h3 with ⟨b1, b2, b3, b4, b5⟩ | h3
      · exact .inl ⟨b1.trans a1, b2.trans a2, b3.trans a3, b4.trans a4, b5.trans a5⟩
      · exact .inr (by omega)
    · rcases h3 with ⟨b1, _⟩ | h3
      · exact .inr (by omega)
      · exact .inr (by omega)
theorem Ext.refl (w : World) (g : Gh) (H : List Obj) : Ext w g H w g H := ⟨Keeps.refl _ _, fun id o h => ⟨o, h, Later.refl g id o⟩⟩
theorem Ext.trans {w w1 w2 : World} {g g1 g2 : Gh} {H H1 H2 : List Obj} (h : Ext w g H w1 g1 H1) (k : Ext w1 g1 H1 w2 g2 H2) : Ext w g H w2 g2 H2 :=
  ⟨h.keeps.trans k.keeps, fun id o ho => by
    obtain ⟨o1, h1, l1⟩ := h.later id o ho
    obtain ⟨o2, h2, l2⟩ := k.later id o1 h1
    exact ⟨o2, h2, l1.trans l2⟩⟩

section
variable {w w' : World} {g g' : Gh} {H H' : List Obj}
theorem VR.ext (hx : Ext w g H w' g' H') : ∀ {c : Cell} {v : Value}, VR w g H c v → VR w' g' H' c v
  | .junk, _, _ => trivial
  | .undef, _, h => h
  | .int _ _, _, h => h
  | .bool _, _, h => h
  | .str _, _, h => h
  | .sl _ _, _, h => RdV.keep hx.keeps h
  | .rptr _ _ _, _, h => by
    obtain ⟨b, o, us, h0, h1, h2⟩ := h
    exact ⟨b, o, us, h0, h1.keep hx.keeps, h2.keep hx.keeps⟩
  | .clo _ _ _, _, h => RdV.keep hx.keeps h
  | .nils, _, h => h
  | .nilp, _, h => h
  | .own id ver, v, h => by
    obtain ⟨e, k, l, ver', fz, h0, h1, h2⟩ := h
    obtain ⟨o', ho', e', k', l', ver'', fz', rfl, h3⟩ := hx.later _ _ h0
    refine ⟨e', k', l', ver'', fz', ho', ?_, ?_⟩
    · rcases h3 with ⟨a1, _⟩ | h3 <;> omega
    · intro hv
      rcases h3 with ⟨a1, _, _, a4, _⟩ | h3
      · rw [a4]; exact h2 (by omega)
      · omega
  | .ptr id off, v, h => by
    obtain ⟨⟨t, cs, fz, h0⟩, h1⟩ := h
    obtain ⟨o', ho', ⟨cs', fz', rfl⟩, h3⟩ := hx.later _ _ h0
    exact ⟨⟨t, cs', fz', ho'⟩, by rw [h3]; exact h1⟩
  | .eptr id ver i off, v, h => by
    obtain ⟨e, k, l, ver', fz, h0, h1, h2⟩ := h
    obtain ⟨o', ho', e', k', l', ver'', fz', rfl, h3⟩ := hx.later _ _ h0
    refine ⟨e', k', l', ver'', fz', ho', ?_, ?_⟩
    · rcases h3 with ⟨a1, _⟩ | h3 <;> omega
    · intro hv
      rcases h3 with ⟨a1, a2, a3, _, a5⟩ | h3
      · subst a2
        rw [a3, a5]
        exact h2 (by omega)
      · omega

theorem VC.ext (hx : Ext w g H w' g' H') {c : Cell} {v : Value} (h : VC w g H c v) : VC w' g' H' c v := ⟨h.1.ext hx, h.2⟩
theorem All2.ext (hx : Ext w g H w' g' H') {cs : List Cell} {vs : List Value} (h : All2 (VC w g H) cs vs) : All2 (VC w' g' H') cs vs := h.mono fun _ _ h => h.ext hx

theorem AVR.ext (hx : Ext w g H w' g' H') : ∀ {c : AV} {v : Value}, AVR w g H c v → AVR w' g' H' c v
  | .c _, _, h => VR.ext hx h
  | .agg _, _, h => by
    obtain ⟨vs, h0, h1⟩ := h
    exact ⟨vs, h0, h1.ext hx⟩
  | .tup _, _, h => by
    obtain ⟨vs, h0, h1⟩ := h
    refine ⟨vs, h0, h1.mono ?_⟩
    intro p u hp
    split at hp
    · rename_i hb
      obtain ⟨us, h2, h3⟩ := hp
      rw [if_pos hb]
      exact ⟨us, h2, h3.ext hx⟩
    · rename_i hb
      obtain ⟨x, h2, h3⟩ := hp
      rw [if_neg hb]
      exact ⟨x, h2, h3.ext hx⟩

theorem RowOk.keep {St St' : Nat → Nat → Prop} (hk : Keeps w St w' St') {v : Value} {b : Nat} {e : TypeId} {k : Kd} {l : List k.T} (hb : v ≠ nilSlice → w'.heap[b]? = w.heap[b]?) (h : RowOk w St v b e k l) : RowOk w' St' v b e k l := by
  rcases h with h | ⟨cap, cur, h0, h1, h2, h3, h4, h5⟩
  · exact .inl h
  · refine .inr ⟨cap, cur, h0, ?_, h2, h3, h4, fun i hi => ?_⟩
    · rw [hb (by rw [h0]; simp [nilSlice])]; exact h1
    · obtain ⟨us, h6, h7⟩ := h5 i hi
      exact ⟨us, h6.keep hk, h7⟩
end

/-- The store of values, the objects. -/
structure G where
  t : List AV
  h : List Obj
  /-- which objects have been turned, which read for good, since this was last asked -/
  lg : List Nat
  lf : List Nat

structure Rel (C : Ctx) (g : Gh) (Γ : G) (a : Act) (w : World) : Prop where
  inv : Inv C w g Γ.h
  t : All2 (AVR w g Γ.h) Γ.t a.tmps.toList
  defers : a.defers = []

/-- The values of a reading are those of cells. -/
theorem RdV.one {w : World} {St : Nat → Nat → Prop} : ∀ {k : Kd} {cs : List Value} {x : k.T}, RdV w St k cs x → ∀ v ∈ cs, v.oneCell' = true
  | .int _, _, _, h => by simp only [RdV] at h; subst h; simp [Value.oneCell']
  | .bool, _, _, h => by simp only [RdV] at h; subst h; simp [Value.oneCell']
  | .str, _, _, h => by simp only [RdV] at h; subst h; simp [Value.oneCell']
  | .slice _, _, _, h => by simp only [RdV] at h; obtain ⟨_, _, rfl, _⟩ := h; simp [Value.oneCell']
  | .ptr _, _, _, h => by simp only [RdV] at h; obtain ⟨_, _, _, rfl, _⟩ := h; simp [Value.oneCell']
  | .clo _ _, _, _, h => by simp only [RdV] at h; obtain ⟨_, rfl, _⟩ := h; simp [Value.oneCell']
  | .unit, _, _, h => by simp only [RdV] at h; subst h; simp
  | .pair _ _, _, _, h => by
    simp only [RdV] at h
    obtain ⟨_, _, rfl, h1, h2⟩ := h
    intro v hv
    rcases List.mem_append.1 hv with hv | hv
    · exact h1.one v hv
    · exact h2.one v hv

theorem VR.one {w : World} {g : Gh} {H : List Obj} : ∀ {c : Cell} {v : Value}, VR w g H c v → c ≠ .junk → c ≠ .undef → (∀ id ver, c ≠ .own id ver) → (∀ id ver i off, c ≠ .eptr id ver i off) → v.oneCell' = true
  | .junk, _, _, h, _, _, _ => absurd rfl h
  | .undef, _, _, _, h, _, _ => absurd rfl h
  | .int _ _, _, h, _, _, _, _ => by simp only [VR] at h; subst h; rfl
  | .bool _, _, h, _, _, _, _ => by simp only [VR] at h; subst h; rfl
  | .str _, _, h, _, _, _, _ => by simp only [VR] at h; subst h; rfl
  | .sl _ _, _, h, _, _, _, _ => RdV.one h _ (by simp)
  | .rptr _ _ _, _, h, _, _, _, _ => by simp only [VR] at h; obtain ⟨_, _, _, rfl, _⟩ := h; rfl
  | .clo _ _ _, _, h, _, _, _, _ => RdV.one h _ (by simp)
  | .nils, _, h, _, _, _, _ => by simp only [VR] at h; subst h; rfl
  | .nilp, _, h, _, _, _, _ => by simp only [VR] at h; subst h; rfl
  | .own id ver, _, _, _, _, h, _ => absurd rfl (h id ver)
  | .ptr _ _, _, h, _, _, _, _ => by simp only [VR] at h; obtain ⟨_, rfl⟩ := h; rfl
  | .eptr id ver i off, _, _, _, _, _, h => absurd rfl (h id ver i off)
end Go.Vm
