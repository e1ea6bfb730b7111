/- A small evaluator for the translated code, and the proof that what it computes the code does. -/
import Derived.Test.YtplbdggmaoanjaaVmA
import Derived.Orders
/-! The evaluator: what a function's code does to values, reckoned by the kernel. -/
namespace Go.Vm

/-- A value of a kind, cell by cell. -/
def enc : (k : Kd) → k.T → List Cell
  | .int ik, n => [.int ik n]
  | .bool, b => [.bool b]
  | .str, s => [.str s]
  | .slice k, l => [.sl k l]
  | .ptr k, x => [.rptr k x 0]
  | .clo f k, x => [.clo f k x]
  | .unit, _ => []
  | .pair a b, x => enc a x.1 ++ enc b x.2

/-- What a row holds, if this is its last number. -/
def rowAs (H : List Obj) (id ver : Nat) (k : Kd) : Option (List k.T) :=
  match H[id]? with
  | some (.row _ k' l ver' _) => if ver = ver' then Kd.castL k' k l else none
  | _ => none

/-- A cell read as a slice. -/
def sliceAs (H : List Obj) (k : Kd) : Cell → Option (List k.T)
  | .sl k' l => Kd.castL k' k l
  | .nils => some []
  | .own id ver => rowAs H id ver k
  | _ => none

def decInt (ik : IntKind) : Cell → Option Int
  | .int ik' n => match ikEq ik ik' with | some _ => some n | none => none
  | _ => none
def decBool : Cell → Option Bool
  | .bool b => some b
  | _ => none
def decStr : Cell → Option ByteArray
  | .str s => some s
  | _ => none
def decPtr (k : Kd) : Cell → Option k.T
  | .rptr k' x off => if off = 0 then Kd.cast k' k x else none
  | _ => none
def decClo (f : FuncId) (k : Kd) : Cell → Option k.T
  | .clo f' k' x => if f = f' then Kd.cast k' k x else none
  | _ => none
def consD {α : Type} (f : Cell → Option α) : List Cell → Option (α × List Cell)
  | c :: r => match f c with | some x => some (x, r) | none => none
  | [] => none
/-- A value of a kind at the head of these cells. -/
def dec (H : List Obj) : (k : Kd) → List Cell → Option (k.T × List Cell)
  | .unit, r => some ((), r)
  | .pair a b, cs => match dec H a cs with
    | some (x, r) => match dec H b r with
      | some (y, r') => some ((x, y), r')
      | none => none
    | none => none
  | .int ik, cs => consD (decInt ik) cs
  | .bool, cs => consD decBool cs
  | .str, cs => consD decStr cs
  | .slice k, cs => consD (sliceAs H k) cs
  | .ptr k, cs => consD (decPtr k) cs
  | .clo f k, cs => consD (decClo f k) cs

def decAll (H : List Obj) (k : Kd) (cs : List Cell) : Option k.T :=
  match dec H k cs with
  | some (x, []) => some x
  | _ => none

/-- The rows that these cells name. -/
def ownIds : List Cell → List Nat
  | [] => []
  | .own id _ :: r => id :: ownIds r
  | _ :: r => ownIds r

/-- An object that is written no more (but behind its end). -/
def fz1 (H : List Obj) (id : Nat) : List Obj :=
  match H[id]? with
  | some (.row e k l ver _) => H.set id (.row e k l ver true)
  | some (.box t cs _) => H.set id (.box t cs true)
  | _ => H
def fzAll : List Nat → List Obj → List Obj
  | [], H => H
  | id :: r, H => fzAll r (fz1 H id)

/-- Is it a cell of which enough is known? (A row's head under its last number is looked for where it is used.) -/
def Cell.known (H : List Obj) : Cell → Bool
  | .junk | .undef | .eptr _ _ _ _ => false
  | .own id ver => match H[id]? with | some (.row _ _ _ ver' _) => ver == ver' | _ => false
  | _ => true
def AV.cells (H : List Obj) : AV → Option (List Cell)
  | .c x => if x.known H then some [x] else none
  | .agg l => some l
  | .tup _ => none
def mkAV : Bool → List Cell → Option AV
  | true, cs => some (.agg cs)
  | false, [c] => some (.c c)
  | false, _ => none

def constCell : Value → Cell
  | .int k n => .int k n
  | .bool b => .bool b
  | .string s => .str s
  | .slice none 0 0 => .nils
  | .pointer none => .nilp
  | .func (.func f) ⟨[]⟩ ⟨[]⟩ => .clo f .unit ()
  | _ => .junk
def allOne : List Value → Bool
  | [] => true
  | v :: r => v.oneCell' && allOne r
def constAV : Value → AV
  | .agg vs => if allOne vs.toList then .agg (vs.toList.map constCell) else .c .junk
  | v => .c (constCell v)

def G.ev (Γ : G) : Operand → AV
  | .tmp t => match Γ.t[t]? with | some v => v | none => .c .junk
  | .const v => constAV v
  | .func f => .c (.clo f .unit ())
  | .global _ => .c .junk
def G.put (Γ : G) (d : Option Tmp) (v : AV) : G := match d with | some d => { t := Γ.t.set d v, h := Γ.h, lg := Γ.lg, lf := Γ.lf } | none => Γ
/-- One object turned or made. -/
def G.obj (Γ : G) (id : Nat) (o : Obj) : G := { t := Γ.t, h := Γ.h.set id o, lg := id :: Γ.lg, lf := Γ.lf }
/-- Some objects are read for good. -/
def G.fz (Γ : G) (ids : List Nat) : G := { t := Γ.t, h := fzAll ids Γ.h, lg := Γ.lg, lf := ids ++ Γ.lf }

/-- What a type is. -/
inductive TD where
  | slice (e : TypeId) | struct (offs : List (Nat × Nat)) | array (n : Nat) (e : TypeId) | int (k : IntKind) | bool | str | ptr (e : TypeId) | other
structure TI where
  d : TD
  size : Nat
  bytes : Nat
  agg : Bool
  zero : List Cell
  kd : Kd

/-- What is told of a temporary, or of a variable's cell, where ways meet. -/
inductive SS where
  | v (agg : Bool) (k : Kd)
  | own (id ver : Nat) (e : TypeId) (k : Kd) (fz : Bool)
  | ref (id ver : Nat)
  | ptr (id off : Nat)
  | arr (id ver : Nat) (e : TypeId) (k : Kd) (fz : Bool)
  | nilp
  | junk
@[reducible] def SS.kd : SS → Kd
  | .v _ k => k
  | .own _ _ _ k _ => .slice k
  | .arr _ _ _ k _ => .slice k
  | _ => .unit
@[reducible] def kdL : List SS → Kd
  | [] => .unit
  | s :: r => .pair s.kd (kdL r)
/-- A variable that is told anew, cell by cell. -/
structure SB where
  id : Nat
  t : TypeId
  cs : List SS
  fz : Bool
@[reducible] def kdB : List SB → Kd
  | [] => .unit
  | b :: r => .pair (kdL b.cs) (kdB r)
/-- A row that stays where it is, its elements told anew; one that is gone. -/
structure SR where
  id : Nat
  ver : Nat
  e : TypeId
  k : Kd
  fz : Bool
@[reducible] def kdR : List SR → Kd
  | [] => .unit
  | r :: l => .pair (.slice r.k) (kdR l)
/-- What is told of a temporary: as one, or cell by cell. -/
inductive SL where
  | one (s : SS)
  | agg (cs : List SS)
@[reducible] def flatS : List SL → List SS
  | [] => []
  | .one s :: r => s :: flatS r
  | .agg cs :: r => cs ++ flatS r
def flatV : List SL → List AV → Option (List AV)
  | [], [] => some []
  | .one _ :: r, v :: vs => match flatV r vs with | some l => some (v :: l) | none => none
  | .agg cs :: r, .agg l :: vs => if l.length = cs.length then match flatV r vs with | some m => some (l.map AV.c ++ m) | none => none else none
  | _, _ => none
/-- The one cell of a value. -/
def AV.one : AV → Cell
  | .c x => x
  | _ => .junk
def unflat : List SL → List AV → List AV
  | .one _ :: r, v :: vs => v :: unflat r vs
  | .agg cs :: r, vs => .agg ((vs.take cs.length).map AV.one) :: unflat r (vs.drop cs.length)
  | _, _ => []
/-- Temporaries that are told anew, variables that are told anew, rows told in place, rows that are empty from now on, objects that are gone, objects that may be read for good. -/
structure Shape where
  ti : List Nat
  tl : List SL
  b : List SB
  r : List SR
  dd : List SR
  no : List Nat
  fz : List Nat
@[reducible] def Shape.ts (s : Shape) : List SS := flatS s.tl
@[reducible] def Shape.kd (s : Shape) : Kd := .pair (kdL s.ts) (.pair (kdB s.b) (kdR s.r))

/-- What is given back, in one of several forms. -/
@[reducible] def AltT : List Shape → Type
  | [] => Empty
  | [s] => s.kd.T
  | s :: t :: r => s.kd.T ⊕ AltT (t :: r)
def altK {R : Type} : (l : List Shape) → AltT l → ((s : Shape) → s.kd.T → Option R) → Option R
  | [], y, _ => nomatch y
  | [s], y, K => K s y
  | s :: t :: r, y, K => Sum.elim (fun y => K s y) (fun z => altK (t :: r) z K) y
/-- A form and what is told in it. -/
def AltIs : (l : List Shape) → AltT l → (s : Shape) → s.kd.T → Prop
  | [], _, _, _ => False
  | [s], y, s', y' => ∃ e : s = s', e ▸ y = y'
  | s :: t :: r, y, s', y' => match y with | .inl y => ∃ e : s = s', e ▸ y = y' | .inr z => AltIs (t :: r) z s' y'
/-- What a callee is known to do: how many objects it knows; what it is given; what it gives. -/
structure FnI where
  n : Nat
  si : Shape
  so : List Shape
  F : si.kd.T → Option (AltT so)

structure Env where
  ty : TypeId → Option TI
  fn : FuncId → Nat → Option FnI
  own : Nat → Bool
  /-- at a call, by its temporary: which contracts there may be, and in each which of the callee's objects is which of the caller's -/
  cand : Nat → List (Nat × List (Nat × Nat))
  /-- where ways meet: ahead of a region; behind a region; at a loop's head, by its block -/
  pre : Nat → List Shape
  post : Nat → List Shape
  loop : Nat → List Shape

def argCells (H : List Obj) : List (Bool × Nat) → List AV → Option (List Cell)
  | [], [] => some []
  | (true, n) :: r, .agg l :: as_ => if l.length = n then match argCells H r as_ with | some m => some (l ++ m) | none => none else none
  | (false, n) :: r, .c x :: as_ => if n = 1 ∧ x.known H = true then match argCells H r as_ with | some m => some (x :: m) | none => none else none
  | _, _ => none

/-! ### Where ways meet -/
/-- The cells of a value that is a struct, an array, or is not. -/
def avCells (H : List Obj) (agg : Bool) (n : Nat) : AV → Option (List Cell)
  | .agg l => if agg = true ∧ l.length = n then some l else none
  | .c x => if agg = false ∧ n = 1 ∧ x.known H = true then some [x] else none
  | .tup _ => none
def exOwn (H : List Obj) (e : TypeId) (k : Kd) (fz : Bool) : Cell → Option (List k.T)
  | .own id ver => match H[id]? with
    | some (.row e' k' l ver' fz') => if e = e' ∧ ver = ver' ∧ (fz = true ∨ fz' = false) then Kd.castL k' k l else none
    | _ => none
  | .nils => some []
  | _ => none
def isPtr (id off : Nat) : Cell → Bool
  | .ptr id' off' => id == id' && off == off'
  | _ => false
def isNilp : Cell → Bool
  | .nilp => true
  | _ => false
def isRef (H : List Obj) (id : Nat) : Cell → Bool
  | .own id' ver => id == id' && (match H[id']? with | some (.row _ _ _ ver' _) => ver == ver' | _ => false)
  | _ => false
def exArr (H : List Obj) (e : TypeId) (k : Kd) (fz : Bool) : Cell → Option (List k.T)
  | .eptr id ver i off => match H[id]? with
    | some (.row e' k' l ver' fz') => if i = 0 ∧ off = 0 ∧ e = e' ∧ ver = ver' ∧ (fz = true ∨ fz' = false) then Kd.castL k' k l else none
    | _ => none
  | _ => none
/-- What is told of one place. -/
def exS (H : List Obj) : (s : SS) → AV → Option s.kd.T
  | .v agg k, v => match avCells H agg k.size v with
    | some cs => decAll H k cs
    | none => none
  | .own _ _ e k fz, v => exOwn H e k fz v.one
  | .ref id _, v => if isRef H id v.one then some () else none
  | .ptr id off, v => if isPtr id off v.one then some () else none
  | .arr _ _ e k fz, v => exArr H e k fz v.one
  | .nilp, v => if isNilp v.one then some () else none
  | .junk, _ => some ()
def exL (H : List Obj) : (ss : List SS) → List AV → Option (kdL ss).T
  | [], [] => some ()
  | s :: ss, v :: vs => match exS H s v with
    | some x => match exL H ss vs with
      | some y => some (x, y)
      | none => none
    | none => none
  | _, _ => none
def exB (H : List Obj) : (bs : List SB) → Option (kdB bs).T
  | [] => some ()
  | b :: bs => match H[b.id]? with
    | some (.box t cs fz) => if t = b.t ∧ (b.fz = true ∨ fz = false) then match exL H b.cs (cs.map AV.c) with
      | some x => match exB H bs with
        | some y => some (x, y)
        | none => none
      | none => none else none
    | _ => none
def exR (H : List Obj) : (rs : List SR) → Option (kdR rs).T
  | [] => some ()
  | r :: rs => match H[r.id]? with
    | some (.row e k l ver fz) => if e = r.e ∧ ver = r.ver ∧ (r.fz = true ∨ fz = false) then match Kd.castL k r.k l with
      | some x => match exR H rs with
        | some y => some (x, y)
        | none => none
      | none => none else none
    | _ => none
def gather : List Nat → List AV → Option (List AV)
  | [], _ => some []
  | i :: r, t => match t[i]? with
    | some v => match gather r t with
      | some l => some (v :: l)
      | none => none
    | none => none

/-- Where a told row comes from: nowhere, if it is nil. -/
def srcS : SS → AV → List (Nat × Option Nat)
  | .own id _ _ _ _, v => match v.one with
    | .own id' _ => [(id, some id')]
    | _ => [(id, none)]
  | .arr id _ _ _ _, v => match v.one with
    | .eptr id' _ _ _ => [(id, some id')]
    | _ => []
  | _, _ => []
def srcL : List SS → List AV → List (Nat × Option Nat)
  | s :: ss, v :: vs => srcS s v ++ srcL ss vs
  | _, _ => []
def srcB (H : List Obj) : List SB → List (Nat × Option Nat)
  | [] => []
  | b :: r => (match H[b.id]? with | some (.box _ cs _) => srcL b.cs (cs.map AV.c) | _ => []) ++ srcB H r
def avIds : AV → List Nat
  | .c c => ownIds [c]
  | .agg l => ownIds l
  | .tup _ => []
/-- Rows that are read as values. -/
def readS : SS → AV → List Nat
  | .v _ _, v => avIds v
  | _, _ => []
def readL : List SS → List AV → List Nat
  | s :: ss, v :: vs => readS s v ++ readL ss vs
  | _, _ => []
def readB (H : List Obj) : List SB → List Nat
  | [] => []
  | b :: r => (match H[b.id]? with | some (.box _ cs _) => readL b.cs (cs.map AV.c) | _ => []) ++ readB H r
/-- Rows that are taken over and may still be written. -/
def hotS : SS → AV → List Nat
  | .own _ _ _ _ false, v => ownIds [v.one]
  | .arr _ _ _ _ false, v => (match v.one with | .eptr id _ _ _ => [id] | _ => [])
  | _, _ => []
def hotL : List SS → List AV → List Nat
  | s :: ss, v :: vs => hotS s v ++ hotL ss vs
  | _, _ => []
def hotB (H : List Obj) : List SB → List Nat
  | [] => []
  | b :: r => (match H[b.id]? with | some (.box _ cs _) => hotL b.cs (cs.map AV.c) | _ => []) ++ hotB H r
def hotR : List SR → List Nat
  | [] => []
  | r :: l => (if r.fz then [] else [r.id]) ++ hotR l

def idS : SS → List Nat
  | .own id _ _ _ _ => [id]
  | .arr id _ _ _ _ => [id]
  | _ => []
def idL : List SS → List Nat
  | [] => []
  | s :: r => idS s ++ idL r
def idB : List SB → List Nat
  | [] => []
  | b :: r => b.id :: idL b.cs ++ idB r
def idR : List SR → List Nat
  | [] => []
  | r :: l => r.id :: idR l
def Shape.ids (s : Shape) : List Nat := idL s.ts ++ (idB s.b ++ (idR s.r ++ (idR s.dd ++ s.no)))
def nodupB : List Nat → Bool
  | [] => true
  | a :: r => !r.contains a && nodupB r
def allIn (l m : List Nat) : Bool := l.all m.contains
def noneIn (l m : List Nat) : Bool := l.all fun x => !m.contains x
def somes : List (Nat × Option Nat) → List Nat
  | [] => []
  | (_, some x) :: r => x :: somes r
  | (_, none) :: r => somes r

def bIds : List SB → List Nat
  | [] => []
  | b :: r => b.id :: bIds r

/-- What is told of the state 'Γ' by a shape. -/
def ext (s : Shape) (Γ : G) : Option s.kd.T :=
  match (match gather s.ti Γ.t with | some vs0 => flatV s.tl vs0 | none => none) with
  | some vs =>
    if allIn Γ.lg s.ids && allIn (readL s.ts vs ++ readB Γ.h s.b ++ Γ.lf) (s.fz ++ s.ids) && noneIn (readL s.ts vs ++ readB Γ.h s.b) (hotL s.ts vs ++ hotB Γ.h s.b ++ hotR s.r ++ bIds s.b) &&
        nodupB (somes (srcL s.ts vs ++ srcB Γ.h s.b)) && allIn (somes (srcL s.ts vs ++ srcB Γ.h s.b)) s.ids && noneIn (somes (srcL s.ts vs ++ srcB Γ.h s.b)) (idR s.r) then
      match exL Γ.h s.ts vs with
      | some x => match exB Γ.h s.b with
        | some y => match exR Γ.h s.r with
          | some z => some (x, y, z)
          | none => none
        | none => none
      | none => none
    else none
  | none => none

/-- A row's number is a later one than any that is known, an object that is gone was not there; each pointer leads to a variable that is told or was there. -/
def okS (H : List Obj) (bs : List Nat) (ids : List Nat) : SS → Bool
  | .own id ver _ _ _ => match H[id]? with | some .no => true | some (.row _ _ _ ver' _) => decide (ver' < ver) | _ => false
  | .ref id ver => !ids.contains id && (match H[id]? with | some (.row _ _ _ ver' _) => ver' == ver | _ => false)
  | .ptr id _ => bs.contains id || (!ids.contains id && match H[id]? with | some (.box _ _ _) => true | _ => false)
  | .arr id ver _ _ _ => match H[id]? with | some .no => true | some (.row _ _ _ ver' _) => decide (ver' < ver) | _ => false
  | _ => true
def okB (H : List Obj) (bs ids : List Nat) : List SB → Bool
  | [] => true
  | b :: r => b.cs.all (okS H bs ids) && (match H[b.id]? with | some .no => true | some (.box t cs _) => t == b.t && cs.length == b.cs.length | _ => false) && okB H bs ids r
def isNo (H : List Obj) (id : Nat) : Bool := match H[id]? with | some .no => true | _ => false
def okR (H : List Obj) : List SR → Bool
  | [] => true
  | r :: l => (match H[r.id]? with | some (.row e k _ ver _) => e == r.e && ver == r.ver && (match Kd.same k r.k with | some _ => true | none => false) | _ => false) && okR H l
def okD (H : List Obj) : List SR → Bool
  | [] => true
  | r :: l => (match H[r.id]? with | some .no => true | some (.row _ _ _ ver _) => decide (ver < r.ver) | _ => false) && okD H l
def Shape.ok (s : Shape) (Γ : G) : Bool :=
  nodupB s.ids && noneIn s.fz s.ids && s.ts.all (okS Γ.h (bIds s.b) s.ids) && okB Γ.h (bIds s.b) s.ids s.b && okR Γ.h s.r && okD Γ.h s.dd && s.no.all (isNo Γ.h)

def valAV (agg : Bool) (cs : List Cell) : AV := match mkAV agg cs with | some v => v | none => .c .junk
/-- A place, told. -/
def outS : (s : SS) → s.kd.T → AV
  | .v agg k, x => valAV agg (enc k x)
  | .own id ver _ _ _, _ => .c (.own id ver)
  | .ref id ver, _ => .c (.own id ver)
  | .ptr id off, _ => .c (.ptr id off)
  | .arr id ver _ _ _, _ => .c (.eptr id ver 0 0)
  | .nilp, _ => .c .nilp
  | .junk, _ => .c .junk
def outL : (ss : List SS) → (kdL ss).T → List AV
  | [], _ => []
  | s :: r, x => outS s x.1 :: outL r x.2
/-- The objects, told. -/
def obS : (s : SS) → s.kd.T → List (Nat × Obj)
  | .own id ver e k fz, x => [(id, .row e k x ver fz)]
  | .arr id ver e k fz, x => [(id, .row e k x ver fz)]
  | _, _ => []
def obL : (ss : List SS) → (kdL ss).T → List (Nat × Obj)
  | [], _ => []
  | s :: r, x => obS s x.1 ++ obL r x.2
def obB : (bs : List SB) → (kdB bs).T → List (Nat × Obj)
  | [], _ => []
  | b :: r, x => (b.id, .box b.t ((outL b.cs x.1).map AV.one) b.fz) :: obL b.cs x.1 ++ obB r x.2
def obR : (rs : List SR) → (kdR rs).T → List (Nat × Obj)
  | [], _ => []
  | r :: l, x => (r.id, .row r.e r.k x.1 r.ver r.fz) :: obR l x.2
def obD : List SR → List (Nat × Obj)
  | [] => []
  | r :: l => (r.id, .row r.e r.k [] r.ver false) :: obD l
def obN : List Nat → List (Nat × Obj)
  | [] => []
  | i :: l => (i, .no) :: obN l
def Shape.obs (s : Shape) (x : s.kd.T) : List (Nat × Obj) := obL s.ts x.1 ++ (obB s.b x.2.1 ++ (obR s.r x.2.2 ++ (obD s.dd ++ obN s.no)))
/-- The temporaries, told. -/
def Shape.outs (s : Shape) (x : s.kd.T) : List AV := unflat s.tl (outL s.ts x.1)
def setAll : List (Nat × Obj) → List Obj → List Obj
  | [], H => H
  | (i, o) :: r, H => setAll r (H.set i o)
def junkAt : List Nat → List AV → List AV
  | [], t => t
  | i :: r, t => junkAt r (t.set i (.c .junk))
def scatter : List Nat → List AV → List AV → List AV
  | i :: r, v :: vs, t => scatter r vs (t.set i v)
  | _, _, t => t
/-- The state that is told: 'Γ' but for the temporaries 'D' and what the shape names. -/
def inj (s : Shape) (D : List Nat) (Γ : G) (x : s.kd.T) : G :=
  { t := scatter s.ti (s.outs x) (junkAt D Γ.t), h := setAll (s.obs x) (fzAll s.fz Γ.h), lg := [], lf := [] }
/-- Behind a part of the way that kept a book of its own. -/
def G.after (Γ' Γ : G) (s : Shape) : G := { t := Γ'.t, h := Γ'.h, lg := Γ'.lg ++ s.ids ++ Γ.lg, lf := Γ'.lf ++ s.fz ++ Γ.lf }
def G.fresh (Γ : G) : G := { t := Γ.t, h := Γ.h, lg := [], lf := [] }

def jn {X R : Type} (f : X → Option R) (g : (X → Option R) → Option R) : Option R := g f
def loopX {X R : Type} (step : X → (X → Option R) → Option R) : Nat → X → Option R
  | 0, _ => none
  | n + 1, x => step x (loopX step n)

def opDsts : List Oper → List Nat
  | [] => []
  | o :: r => (match o.dst with | some d => [d] | none => []) ++ opDsts r
def dsts : Code → List Nat
  | .region _ ops _ => opDsts ops.toList
  | .seq a b => dsts a ++ dsts b
  | .cond _ a b => dsts a ++ dsts b
  | .block _ c => dsts c
  | .loop c => dsts c
  | .scope c => dsts c
  | _ => []
/-- The first region of code. -/
def firstReg : Code → Option Nat
  | .region id _ _ => some id
  | .seq a _ => firstReg a
  | _ => none

/-! ### Operations -/
section
variable {R : Type}

def bitsOp (op : BinOp) (k : IntKind) (a b : Int) : Int :=
  let x := BitVec.ofInt k.bits a
  let y := BitVec.ofInt k.bits b
  match op with
  | .and => k.wrap (x &&& y).toNat
  | .or => k.wrap (x ||| y).toNat
  | .xor => k.wrap (x ^^^ y).toNat
  | _ => k.wrap (x &&& ~~~y).toNat

def intOp (op : BinOp) (k : IntKind) (a b : Int) (K : Cell → Option R) : Option R :=
  match op with
  | .add => K (.int k (k.wrap (a + b)))
  | .sub => K (.int k (k.wrap (a - b)))
  | .mul => K (.int k (k.wrap (a * b)))
  | .quo => if b = 0 then none else K (.int k (k.wrap (a.tdiv b)))
  | .rem => if b = 0 then none else K (.int k (a.tmod b))
  | .and => K (.int k (bitsOp .and k a b))
  | .or => K (.int k (bitsOp .or k a b))
  | .xor => K (.int k (bitsOp .xor k a b))
  | .andNot => K (.int k (bitsOp .andNot k a b))
  | .eql => K (.bool (a == b))
  | .neq => K (.bool (a != b))
  | .lss => K (.bool (decide (a < b)))
  | .leq => K (.bool (decide (a ≤ b)))
  | .gtr => K (.bool (decide (a > b)))
  | .geq => K (.bool (decide (a ≥ b)))
  | _ => none
def shiftOp (op : BinOp) (k : IntKind) (a b : Int) (K : Cell → Option R) : Option R :=
  match op with
  | .shl => if b < 0 then none else K (.int k (k.wrap (a * 2 ^ (min b.toNat k.bits))))
  | .shr => if b < 0 then none else K (.int k (a.fdiv (2 ^ (min b.toNat k.bits))))
  | _ => none
def isShift : BinOp → Bool
  | .shl | .shr => true
  | _ => false

def binop (op : BinOp) : AV → AV → (Cell → Option R) → Option R
  | .c (.int k a), .c (.int k' b), K =>
    if isShift op then shiftOp op k a b K else match ikEq k k' with | some _ => intOp op k a b K | none => none
  | .c (.str a), .c (.str b), K => match op with
    | .add => if ((a.size + b.size : Nat) : Int) > IntKind.i64.max then none else K (.str (a ++ b))
    | .eql => K (.bool (a.toList == b.toList))
    | .neq => K (.bool (!(a.toList == b.toList)))
    | _ => none
  | .c (.bool a), .c (.bool b), K => match op with | .eql => K (.bool (a == b)) | .neq => K (.bool (a != b)) | _ => none
  | .c .nilp, .c .nilp, K => match op with | .eql => K (.bool true) | .neq => K (.bool false) | _ => none
  | .c (.ptr _ _), .c .nilp, K => match op with | .eql => K (.bool false) | .neq => K (.bool true) | _ => none
  | .c (.rptr _ _ _), .c .nilp, K => match op with | .eql => K (.bool false) | .neq => K (.bool true) | _ => none
  | _, _, _ => none

def rd {α : Type} (l : List α) (i : Int) : Option α := if 0 ≤ i then l[i.toNat]? else none

/-- The cells behind a pointer. -/
def loadx (H : List Obj) (n : Nat) : Cell → (List Cell → Option R) → Option R
  | .ptr id off, K => match H[id]? with
    | some (.box _ cs _) => if off + n ≤ cs.length then K ((cs.drop off).take n) else none
    | _ => none
  | .rptr k x off, K => if off + n ≤ k.size then K (((enc k x).drop off).take n) else none
  | .eptr id ver i off, K => match H[id]? with
    | some (.row _ k l ver' _) => if ver = ver' ∧ off + n ≤ k.size then (rd l i).bind fun x => K (((enc k x).drop off).take n) else none
    | _ => none
  | _, _ => none

def setCells : List Cell → Nat → List Cell → List Cell
  | cs, _, [] => cs
  | cs, o, v :: r => setCells (cs.set o v) (o + 1) r

def storex (Γ : G) (vs : List Cell) : Cell → (G → Option R) → Option R
  | .ptr id off, K => match Γ.h[id]? with
    | some (.box t cs false) => if off + vs.length ≤ cs.length then K (Γ.obj id (.box t (setCells cs off vs) false)) else none
    | _ => none
  | .eptr id ver i off, K => match Γ.h[id]? with
    | some (.row e k l ver' false) => if ver = ver' ∧ off + vs.length ≤ k.size ∧ ¬ id ∈ ownIds vs then (rd l i).bind fun x =>
        match decAll Γ.h k (setCells (enc k x) off vs) with
        | some y => K ((Γ.fz (ownIds vs)).obj id (.row e k (l.set i.toNat y) ver' false))
        | none => none
      else none
    | _ => none
  | _, _ => none

def addOff (H : List Obj) (n : Nat) : Cell → Option Cell
  | .ptr id off => some (.ptr id (off + n))
  | .rptr k x off => some (.rptr k x (off + n))
  | .eptr id ver i off => match H[id]? with
    | some (.row _ _ _ ver' _) => if ver = ver' then some (.eptr id ver i (off + n)) else none
    | _ => none
  | _ => none

/-- Parts laid into a value's cells. -/
def fillx (Γ : G) (place : Nat → Option (Nat × Nat)) : List (Nat × Operand) → List Cell → Option (List Cell)
  | [], cs => some cs
  | (i, x) :: r, cs => match place i, (Γ.ev x).cells Γ.h with
    | some (off, size), some vs => if vs.length = size ∧ off + vs.length ≤ cs.length then fillx Γ place r (setCells cs off vs) else none
    | _, _ => none

/-- Many values of a kind, one behind the other. -/
def decMany (H : List Obj) (k : Kd) : Nat → List Cell → Option (List k.T)
  | 0, [] => some []
  | 0, _ => none
  | n + 1, cs => match dec H k cs with
    | some (x, r) => match decMany H k n r with
      | some l => some (x :: l)
      | none => none
    | none => none
def repCells (z : List Cell) : Nat → List Cell
  | 0 => []
  | n + 1 => z ++ repCells z n

def lenx (H : List Obj) : AV → (Int → Option R) → Option R
  | .c (.str s), K => K s.size
  | .c (.sl _ l), K => K l.length
  | .c .nils, K => K 0
  | .c (.own id ver), K => match H[id]? with
    | some (.row _ _ l ver' _) => if ver = ver' then K l.length else none
    | _ => none
  | _, _ => none

def strBytes (s : ByteArray) : List Int := s.data.toList.map fun b => (b.toNat : Int)

/-- What is appended, as a list of a kind. -/
def srcAs (H : List Obj) (k : Kd) : Cell → Option (List k.T)
  | .str s => Kd.castL (.int .u8) k (strBytes s)
  | c => sliceAs H k c

def appendx (Γ : G) (e : TypeId) (bytes : Nat) (kd : Kd) (dst : Nat) (s x : Cell) (K : G → Option R) : Option R :=
  match s with
  | .own id ver => match Γ.h[id]? with
    | some (.row e' k l ver' fz) => if ver = ver' ∧ e = e' ∧ k.size = kd.size ∧ ¬ id ∈ ownIds [x] then
        match srcAs Γ.h k x with
        | some m => if (l.length + m.length) * bytes ≤ 140737488355328 then
            K (((Γ.fz (ownIds [x])).obj id (.row e k (l ++ m) (ver + 1) fz)).put (some dst) (.c (.own id (ver + 1)))) else none
        | none => none
      else none
    | _ => none
  | .nils => match Γ.h[dst]? with
    | some .no => match srcAs Γ.h kd x with
      | some m => if m.length * bytes ≤ 140737488355328 then
          K (((Γ.fz (ownIds [x])).obj dst (.row e kd m 0 false)).put (some dst) (.c (.own dst 0))) else none
      | none => none
    | _ => none
  | _ => none

/-! ### Calls: the caller's objects, as the callee counts them -/
def fOf : List (Nat × Nat) → Nat → Option Nat
  | [], _ => none
  | (f, a) :: r, x => if a = x then some f else fOf r x
def aOf : List (Nat × Nat) → Nat → Option Nat
  | [], _ => none
  | (f, a) :: r, x => if f = x then some a else aOf r x
def curVer (H : List Obj) (id : Nat) : Nat := match H[id]? with | some (.row _ _ _ v _) => v | _ => 0
def unCell (dom : List (Nat × Nat)) (H : List Obj) : Cell → Cell
  | .own id ver => match H[id]? with
    | some (.row _ k l ver' _) => if ver = ver' then (match fOf dom id with | some f => .own f 0 | none => .sl k l) else .junk
    | _ => .junk
  | .ptr id off => match fOf dom id with | some f => .ptr f off | none => .junk
  | .eptr id ver i off => match H[id]? with
    | some (.row _ _ _ ver' _) => if ver = ver' then (match fOf dom id with | some f => .eptr f 0 i off | none => .junk) else .junk
    | _ => .junk
  | c => c
/-- The rows that are read. -/
def unIds (dom : List (Nat × Nat)) : List Cell → List Nat
  | [] => []
  | .own id _ :: r => (match fOf dom id with | some _ => [] | none => [id]) ++ unIds dom r
  | _ :: r => unIds dom r
def unAV (dom : List (Nat × Nat)) (H : List Obj) : AV → AV
  | .c x => .c (unCell dom H x)
  | .agg l => .agg (l.map (unCell dom H))
  | .tup _ => .c .junk
def avCellsAll : AV → List Cell
  | .c x => [x]
  | .agg l => l
  | .tup _ => []
def unObj (dom : List (Nat × Nat)) (H : List Obj) : Obj → Obj
  | .no => .no
  | .box t cs fz => .box t (cs.map (unCell dom H)) fz
  | .row e k l _ fz => .row e k l 0 fz
def objCells (H : List Obj) (id : Nat) : List Cell := match H[id]? with | some (.box _ cs _) => cs | _ => []
def unReads (dom : List (Nat × Nat)) (H : List Obj) (args : List AV) : List Nat :=
  unIds dom (args.flatMap avCellsAll) ++ unIds dom (dom.flatMap fun p => objCells H p.2)
def unHeap (dom : List (Nat × Nat)) (H : List Obj) (n : Nat) : List Obj :=
  (List.range n).map fun f => match aOf dom f with | some a => (match H[a]? with | some o => unObj dom H o | none => .no) | none => .no
def reCell (dom : List (Nat × Nat)) (H : List Obj) : Cell → Cell
  | .own f v => match aOf dom f with | some a => .own a (curVer H a + v) | none => .junk
  | .ptr f off => match aOf dom f with | some a => .ptr a off | none => .junk
  | .eptr f v i off => match aOf dom f with | some a => .eptr a (curVer H a + v) i off | none => .junk
  | c => c
def reAV (dom : List (Nat × Nat)) (H : List Obj) : AV → AV
  | .c x => .c (reCell dom H x)
  | .agg l => .agg (l.map (reCell dom H))
  | .tup _ => .c .junk
def reObj (dom : List (Nat × Nat)) (H : List Obj) (a : Nat) : Obj → Obj
  | .no => .no
  | .box t cs fz => .box t (cs.map (reCell dom H)) fz
  | .row e k l ver fz => .row e k l (curVer H a + ver) fz
/-- The callee's objects, back among the caller's: those that it has turned. Those that it has not stay as they are, but for being read for good. -/
def keepOb (ids : List Nat) (f : Nat) : Obj → Option Obj → Option Obj
  | .box _ _ fz', some (.box t cs fz) => if ids.contains f then none else some (.box t cs (fz' || fz))
  | .row _ _ _ v fz', some (.row e k l ver fz) => if ids.contains f || v != 0 then none else some (.row e k l ver (fz' || fz))
  | _, _ => none
def copyBack (dom : List (Nat × Nat)) (H0 HE : List Obj) : List (Nat × Nat) → List Obj → List Obj
  | [], H => H
  | (f, a) :: r, H => copyBack dom H0 HE r (match HE[f]? with | some .no => H | some o => H.set a (reObj dom H0 a o) | none => H)
/-- What was not turned. -/
def restore (ids : List Nat) (H1 HE : List Obj) : List (Nat × Nat) → List Obj → List Obj
  | [], H => H
  | (f, a) :: r, H => restore ids H1 HE r (match HE[f]? with | some o => (match keepOb ids f o H1[a]? with | some o' => H.set a o' | none => H) | none => H)
/-- What a call has turned. -/
def turned (ids : List Nat) (H1 HE : List Obj) : List (Nat × Nat) → List Nat
  | [] => []
  | (f, a) :: r => (match HE[f]? with | some .no => [] | some o => (match keepOb ids f o H1[a]? with | some _ => [] | none => [a]) | none => []) ++ turned ids H1 HE r
def isFz (H : List Obj) (id : Nat) : Bool := match H[id]? with | some (.box _ _ fz) => fz | some (.row _ _ _ _ fz) => fz | _ => false
def pairAV : AV → Bool × List Cell
  | .agg cs => (true, cs)
  | .c x => (false, [x])
  | .tup _ => (false, [.junk])
def resAV (dom : List (Nat × Nat)) (H : List Obj) : List AV → AV
  | [v] => reAV dom H v
  | l => .tup (l.map fun v => pairAV (reAV dom H v))
def domOk (dom : List (Nat × Nat)) (H : List Obj) (HS HE : List Obj) : Bool :=
  nodupB (dom.map (·.1)) && nodupB (dom.map (·.2)) &&
    (List.range HE.length).all (fun f => (match HE[f]? with | some .no => true | _ => (aOf dom f).isSome)) &&
    dom.all (fun p => (match HS[p.1]? with | some .no => isNo H p.2 | _ => true) && decide (p.2 < H.length))

def startH (F : FnI) (x : F.si.kd.T) : List Obj := setAll (F.si.obs x) (fzAll F.si.fz (List.replicate F.n .no))
/-- Each object is the one that it is called; each is told. -/
def sameSrc (HF : List Obj) : List (Nat × Option Nat) → Bool
  | [] => true
  | (f, some j) :: r => f == j && sameSrc HF r
  | (f, none) :: r => isNo HF f && sameSrc HF r
def entryOk (F : FnI) (dom : List (Nat × Nat)) (HF : List Obj) (args : List AV) : Bool :=
  F.si.no.isEmpty && F.si.dd.isEmpty && decide (F.si.ti = List.range args.length) && (match flatV F.si.tl args with | some vs => sameSrc HF (srcL F.si.ts vs ++ srcB HF F.si.b) | none => false) &&
    (List.range F.n).all (fun f => F.si.ids.contains f || isNo HF f) && dom.all (fun p => decide (p.1 < F.n))
def endH (F : FnI) (x : F.si.kd.T) (s : Shape) (y : s.kd.T) : List Obj := setAll (s.obs y) (fzAll s.fz (startH F x))

/-- The caller's state behind a call. -/
def G.back (Γ : G) (dom : List (Nat × Nat)) (rds ids : List Nat) (HE : List Obj) : G :=
  { t := Γ.t, h := restore ids (fzAll rds Γ.h) HE dom (copyBack dom Γ.h HE dom (fzAll rds Γ.h)), lg := turned ids (fzAll rds Γ.h) HE dom ++ Γ.lg,
    lf := (dom.map (·.2)).filter (fun a => isFz (restore ids (fzAll rds Γ.h) HE dom (copyBack dom Γ.h HE dom (fzAll rds Γ.h))) a && !isFz Γ.h a) ++ (rds ++ Γ.lf) }
/-- The first contract that fits what is handed on. -/
def pickC (E : Env) (Γ : G) (f : FuncId) (args : List AV) : List (Nat × List (Nat × Nat)) → Option (FnI × List (Nat × Nat))
  | [] => none
  | [(v, dom)] => match E.fn f v with | some F => some (F, dom) | none => none
  | (v, dom) :: r => match E.fn f v with
    | some F => match entryOk F dom (unHeap dom Γ.h F.n) (args.map (unAV dom Γ.h)) && (ext F.si { t := args.map (unAV dom Γ.h), h := unHeap dom Γ.h F.n, lg := [], lf := [] }).isSome with
      | true => some (F, dom)
      | false => pickC E Γ f args r
    | none => pickC E Γ f args r
def callx (E : Env) (Γ : G) (f : FuncId) (args : List AV) (dst : Option Tmp) (K : G → Option R) : Option R :=
  match pickC E Γ f args (E.cand (dst.getD 0)) with
  | none => none
  | some (F, dom) =>
    let rds := unReads dom Γ.h args
    if entryOk F dom (unHeap dom Γ.h F.n) (args.map (unAV dom Γ.h)) then
      (ext F.si { t := args.map (unAV dom Γ.h), h := unHeap dom Γ.h F.n, lg := [], lf := [] }).bind fun x => (F.F x).bind fun z => altK F.so z fun s y =>
        if domOk dom Γ.h (startH F x) (endH F x s y) then
          K ((Γ.back dom rds s.ids (endH F x s y)).put dst (resAV dom Γ.h (s.outs y)))
        else none
    else none

/-- A slice of a string, of a slice. -/
def slicex (lo hi : Option Int) (n : Nat) (K : Nat → Nat → Option R) : Option R :=
  match hi with
  | some h => if 0 ≤ h ∧ h ≤ n then match lo with
      | some l => if 0 ≤ l ∧ l ≤ h then K l.toNat h.toNat else none
      | none => K 0 h.toNat else none
  | none => match lo with
      | some l => if 0 ≤ l ∧ l ≤ n then K l.toNat n else none
      | none => K 0 n
def optInt (Γ : G) : Option Operand → Option (Option Int)
  | none => some none
  | some x => match Γ.ev x with | .c (.int _ n) => some (some n) | _ => none

def caps (Γ : G) (E : Env) : List Operand → Option ((k : Kd) × k.T × List Nat)
  | [] => some ⟨.unit, (), []⟩
  | x :: r => match Γ.ev x with
    | .c (.ptr id 0) => match Γ.h[id]? with
      | some (.box t cs _) => match E.ty t with
        | some i => match decAll Γ.h i.kd cs with
          | some y => match caps Γ E r with
            | some ⟨k, z, ids⟩ => some ⟨.pair (.ptr i.kd) k, (y, z), id :: ownIds cs ++ ids⟩
            | none => none
          | none => none
        | none => none
      | _ => none
    | .c (.rptr k x 0) => match caps Γ E r with
      | some ⟨k', z, ids⟩ => some ⟨.pair (.ptr k) k', (x, z), ids⟩
      | none => none
    | _ => none

def nilY : AV → Bool
  | .c .nilp => true
  | _ => false
def boolY : AV → Bool
  | .c (.bool _) => true
  | _ => false
def isBoolTy (E : Env) (t : TypeId) : Bool := match E.ty t with | some i => (match i.d with | .bool => true | _ => false) | none => false
def isPtrTy (E : Env) (t : TypeId) : Bool := match E.ty t with | some i => (match i.d with | .ptr _ => true | _ => false) | none => false
def isStrTy (E : Env) (t : TypeId) : Bool := match E.ty t with | some i => (match i.d with | .str => true | _ => false) | none => false
def lenTy (E : Env) (t : TypeId) : AV → Bool
  | .c (.str _) => isStrTy E t
  | _ => match E.ty t with | some i => (match i.d with | .slice _ => true | _ => false) | none => false
def isSliceTy (E : Env) (t : TypeId) : Bool := match E.ty t with | some i => (match i.d with | .slice _ => true | _ => false) | none => false
/-- How many cells an element of a slice type has. -/
def elemSz (E : Env) (t : TypeId) : Option Nat := match E.ty t with
  | some i => (match i.d with | .slice e => (match E.ty e with | some ie => some ie.size | none => none) | _ => none)
  | none => none
def opx (E : Env) (Γ : G) (o : Oper) (K : G → Option R) : Option R :=
  match o.op with
  | .move x | .assign x => K (Γ.put o.dst (Γ.ev x))
  | .pick c a b => match Γ.ev c with
    | .c (.bool t) => cond t (K (Γ.put o.dst (Γ.ev a))) (K (Γ.put o.dst (Γ.ev b)))
    | _ => none
  | .binOp op t x y _ => if (nilY (Γ.ev y) && !isPtrTy E t) || (boolY (Γ.ev y) && !isBoolTy E t) then none else binop op (Γ.ev x) (Γ.ev y) fun c => K (Γ.put o.dst (.c c))
  | .unOp op _ x => match op, Γ.ev x with
    | .not, .c (.bool b) => K (Γ.put o.dst (.c (.bool (!b))))
    | .neg, .c (.int k n) => K (Γ.put o.dst (.c (.int k (k.wrap (0 - n)))))
    | _, _ => none
  | .convert s d x => match E.ty s, E.ty d with
    | some _, some i => match i.d, Γ.ev x with
      | .int k, .c (.int _ n) => K (Γ.put o.dst (.c (.int k (k.wrap n))))
      | .str, .c (.str s) => K (Γ.put o.dst (.c (.str s)))
      | _, _ => none
    | _, _ => none
  | .nilCheck x => match Γ.ev x with
    | .c (.ptr id off) => K (Γ.put o.dst (.c (.ptr id off)))
    | .c (.rptr k x off) => K (Γ.put o.dst (.c (.rptr k x off)))
    | _ => none
  | .box t x => match o.dst, E.ty t, (Γ.ev x).cells Γ.h with
    | some d, some i, some cs => if cs.length = i.size then match Γ.h[d]? with
      | some .no => K ((Γ.obj d (.box t cs false)).put (some d) (.c (.ptr d 0)))
      | _ => none else none
    | _, _, _ => none
  | .alloc t => match o.dst, E.ty t with
    | some d, some i => match Γ.h[d]? with
      | some .no => K ((Γ.obj d (.box t i.zero false)).put (some d) (.c (.ptr d 0)))
      | _ => none
    | _, _ => none
  | .load t a => match E.ty t, Γ.ev a with
    | some i, .c p => loadx Γ.h i.size p fun cs => match mkAV i.agg cs with
      | some v => K (Γ.put o.dst v)
      | none => none
    | _, _ => none
  | .store t a x => match E.ty t, Γ.ev a, (Γ.ev x).cells Γ.h with
    | some i, .c p, some vs => if vs.length = i.size then storex Γ vs p fun Γ' => K (Γ'.put o.dst (.c .junk)) else none
    | _, _, _ => none
  | .fieldAddr s x f => match E.ty s, Γ.ev x with
    | some i, .c p => match i.d with
      | .struct offs => match offs[f]? with
        | some (n, _) => match addOff Γ.h n p with
          | some q => K (Γ.put o.dst (.c q))
          | none => none
        | none => none
      | _ => none
    | _, _ => none
  | .indexAddr t x ix => match Γ.ev x, Γ.ev ix with
    | .c (.sl k l), .c (.int _ i) => if elemSz E t = some k.size then (rd l i).bind fun y => K (Γ.put o.dst (.c (.rptr k y 0))) else none
    | .c (.own id ver), .c (.int _ i) => match Γ.h[id]? with
      | some (.row _ k l ver' _) => if ver = ver' ∧ elemSz E t = some k.size then (rd l i).bind fun _ => K (Γ.put o.dst (.c (.eptr id ver i 0))) else none
      | _ => none
    | _, _ => none
  | .index t x ix => match Γ.ev x, Γ.ev ix with
    | .c (.str s), .c (.int _ i) => if isStrTy E t then (rd (strBytes s) i).bind fun b => K (Γ.put o.dst (.c (.int .u8 b))) else none
    | _, _ => none
  | .slice t x lo hi mx => match mx, optInt Γ lo, optInt Γ hi with
    | none, some lo, some hi => match Γ.ev x with
      | .c (.str s) => if isStrTy E t then slicex lo hi s.size fun a b => K (Γ.put o.dst (.c (.str (s.extract a b)))) else none
      | .c (.sl k l) => if elemSz E t = some k.size then slicex lo hi l.length fun a b => K (Γ.put o.dst (.c (.sl k ((l.take b).drop a)))) else none
      | _ => none
    | _, _, _ => none
  | .build t parts => match E.ty t with
    | some i => match i.d with
      | .struct offs => match fillx Γ (fun j => offs[j]?) parts.toList i.zero with
        | some cs => K (Γ.put o.dst (.agg cs))
        | none => none
      | _ => none
    | none => none
  | .buildSlice t n parts => match o.dst, E.ty t with
    | some d, some i => match i.d with
      | .slice e => match E.ty e with
        | some ie => if ie.kd.size = ie.size ∧ 0 < ie.size ∧ n * ie.size ≤ 16777216 then match fillx Γ (fun j => some (j * ie.size, ie.size)) parts.toList (repCells ie.zero n) with
          | some cs => match decMany Γ.h ie.kd n cs with
            | some l => cond (E.own d)
              (match Γ.h[d]? with
                | some .no => K (((Γ.fz (ownIds cs)).obj d (.row e ie.kd l 0 false)).put (some d) (.c (.own d 0)))
                | _ => none)
              (K ((Γ.fz (ownIds cs)).put (some d) (.c (.sl ie.kd l))))
            | none => none
          | none => none else none
        | none => none
      | _ => none
    | _, _ => none
  | .makeSlice t n c => match o.dst, E.ty t, Γ.ev n, Γ.ev c with
    | some d, some i, .c (.int _ n), .c (.int _ c) => match i.d with
      | .slice e => match E.ty e with
        | some ie => match decAll Γ.h ie.kd ie.zero, Γ.h[d]? with
          | some z, some .no => if ie.kd.size = ie.size ∧ 0 < ie.size ∧ 0 < ie.bytes then if 0 ≤ n ∧ n = c ∧ n * ie.bytes ≤ 140737488355328 then
              K ((Γ.obj d (.row e ie.kd (List.replicate n.toNat z) 0 false)).put (some d) (.c (.own d 0))) else none else none
          | _, _ => none
        | none => none
      | _ => none
    | _, _, _, _ => none
  | .extract x i => match Γ.ev x with
    | .tup l => match l[i]? with
      | some (b, cs) => match mkAV b cs with
        | some v => K (Γ.put o.dst v)
        | none => none
      | none => none
    | _ => none
  | .makeFunc fn first cs => match fn, first.toList with
    | .func f, [] => match caps Γ E cs.toList with
      | some ⟨k, x, ids⟩ => K ((Γ.fz ids).put o.dst (.c (.clo f k x)))
      | none => none
    | _, _ => none
  | .call c => match c.callee with
    | .value x => match Γ.ev x with
      | .c (.clo f k y) => callx E Γ f (c.args.toList.map Γ.ev ++ (enc k y).map AV.c) o.dst K
      | _ => none
    | .builtin .len => match c.args.toList, c.argTypes.toList with
      | [x], [t] => if lenTy E t (Γ.ev x) then lenx Γ.h (Γ.ev x) fun n => K (Γ.put o.dst (.c (.int .i64 n))) else none
      | _, _ => none
    | .builtin .append => match c.args.toList, c.argTypes.toList, o.dst with
      | [s, x], [t, t'], some d => if isSliceTy E t' || isStrTy E t' then match E.ty t, Γ.ev s, Γ.ev x with
        | some i, .c s, .c x => match i.d with
          | .slice e => match E.ty e with
            | some ie => if ie.kd.size = ie.size ∧ 0 < ie.size ∧ 0 < ie.bytes then appendx Γ e ie.bytes ie.kd d s x K else none
            | none => none
          | _ => none
        | _, _, _ => none else none
      | _, _, _ => none
    | .builtin .min => match c.args.toList with
      | [x, y] => match Γ.ev x, Γ.ev y with
        | .c (.int k a), .c (.int k' b) => match ikEq k k' with
          | some _ => K (Γ.put o.dst (.c (.int k (if b < a then b else a))))
          | none => none
        | _, _ => none
      | _ => none
    | _ => none
  | _ => none

/-- Operations one behind the other; a guarded one only where its guard says so. -/
def opsx (E : Env) (all : Array Oper) : List Oper → G → (G → Option R) → Option R
  | [], Γ, K => K Γ
  | o :: r, Γ, K => match o.guard with
    | none => opx E Γ o fun Γ' => opsx E all r Γ' K
    | some (j, want) => match (all[j]?).bind (·.dst) with
      | some d => match Γ.t[d]? with
        | some (.c (.bool b)) => cond b
          (cond want (opx E (Γ.put (some d) (.c (.bool true))) o fun Γ' => opsx E all r Γ' K) (opsx E all r ((Γ.put (some d) (.c (.bool true))).put o.dst (.c .undef)) K))
          (cond want (opsx E all r ((Γ.put (some d) (.c (.bool false))).put o.dst (.c .undef)) K) (opx E (Γ.put (some d) (.c (.bool false))) o fun Γ' => opsx E all r Γ' K))
        | some (.c .undef) => opsx E all r (Γ.put o.dst (.c .undef)) K
        | _ => none
      | none => none
end

/-- The first shape that fits what is there. -/
def pickS (Γ : G) : List Shape → Option Shape
  | [] => none
  | s :: r => match s.ok Γ with | true => some s | false => pickS Γ r

/-- How code ends. -/
inductive X where
  | normal | exit (id : Nat) | ret

/-! ### Regions whose order is drawn -/
/-- One operation, if its guard says so. -/
def stx {R : Type} (E : Env) (all : Array Oper) (o : Oper) (Γ : G) (K : G → Option R) : Option R :=
  match o.guard with
  | none => opx E Γ o K
  | some (j, want) => match (all[j]?).bind (·.dst) with
    | some d => match Γ.t[d]? with
      | some (.c (.bool b)) => cond b
        (cond want (opx E (Γ.put (some d) (.c (.bool true))) o K) (K ((Γ.put (some d) (.c (.bool true))).put o.dst (.c .undef))))
        (cond want (K ((Γ.put (some d) (.c (.bool false))).put o.dst (.c .undef))) (opx E (Γ.put (some d) (.c (.bool false))) o K))
      | some (.c .undef) => K (Γ.put o.dst (.c .undef))
      | _ => none
    | none => none
def cellIds : List Cell → List Nat
  | [] => []
  | .own id _ :: r => id :: cellIds r
  | .ptr id _ :: r => id :: cellIds r
  | .eptr id _ _ _ :: r => id :: cellIds r
  | _ :: r => cellIds r
def avIdsAll : AV → List Nat
  | .c x => cellIds [x]
  | .agg l => cellIds l
  | .tup l => l.flatMap fun p => cellIds p.2
def mentions (Γ : G) (o : Oper) : List Nat := o.op.operands.toList.flatMap fun x => avIdsAll (Γ.ev x)
def deepIds (Γ : G) (ids : List Nat) : List Nat := ids.flatMap fun id => cellIds (objCells Γ.h id)
def domIds (E : Env) (o : Oper) : List Nat := (E.cand (o.dst.getD 0)).flatMap fun p => p.2.map (·.2)
/-- The objects that an operation looks at. -/
def foot (E : Env) (Γ : G) (o : Oper) : List Nat :=
  match o.op with
  | .call c => match c.callee with
    | .value _ => mentions Γ o ++ (domIds E o ++ deepIds Γ (domIds E o))
    | _ => o.dst.toList ++ mentions Γ o
  | .makeFunc _ _ _ => mentions Γ o ++ deepIds Γ (mentions Γ o)
  | _ => o.dst.toList ++ mentions Γ o
/-- For each operation which ones are ahead of it, as bits. -/
def beforeOf (l : List Edge) (acc : List Nat) : Nat → Nat
  | m => l.foldl (fun m e => if Region.binds .any e then Nat.lor (Nat.lor m (Nat.shiftLeft 1 e.on)) ((acc[e.on]?).getD 0) else m) m
def closure : List Oper → List Nat → List Nat
  | [], acc => acc
  | o :: r, acc => closure r (acc ++ [beforeOf o.after.toList acc 0])
def isBefore (bs : List Nat) (j i : Nat) : Bool := Nat.testBit ((bs[i]?).getD 0) j
/-- Each operation is behind those that it must be behind; two that may change places have no temporary in common. -/
def edgesOk : Nat → List Oper → Bool
  | _, [] => true
  | i, o :: r => o.after.toList.all (fun e => !Region.binds .any e || decide (e.on < i)) && edgesOk (i + 1) r
def apartOk (all : Array Oper) (bs : List Nat) (i : Nat) (x : Oper) : Nat → List Oper → Bool
  | _, [] => true
  | j, y :: r => (isBefore bs i j || Oper.apart all x y) && apartOk all bs i x (j + 1) r
def apartsOk (all : Array Oper) (bs : List Nat) : Nat → List Oper → Bool
  | _, [] => true
  | i, x :: r => apartOk all bs i x (i + 1) r && apartsOk all bs (i + 1) r
def drawOk (all : Array Oper) (bs : List Nat) : Bool := edgesOk 0 all.toList && apartsOk all bs 0 all.toList
/-- No clash with an operation that may come behind as well. -/
def noClash (bs : List Nat) (i : Nat) (ft tc : List Nat) : List (Nat × List Nat × List Nat) → Bool
  | [] => true
  | (j, fj, tj) :: r => (isBefore bs j i || (noneIn tj ft && noneIn tc fj && noneIn tc tj)) && noClash bs i ft tc r
def G.plus' (Γ1 Γ : G) : G := { t := Γ1.t, h := Γ1.h, lg := Γ1.lg ++ Γ.lg, lf := Γ1.lf ++ Γ.lf }
def opsd {R : Type} (E : Env) (all : Array Oper) (bs : List Nat) : Nat → List Oper → G → List (Nat × List Nat × List Nat) → (G → Option R) → Option R
  | _, [], Γ, _, K => K Γ
  | i, o :: r, Γ, acc, K => stx E all o { t := Γ.t, h := Γ.h, lg := [], lf := [] } fun Γ1 =>
    if noClash bs i (foot E Γ o) (Γ1.lg ++ Γ1.lf) acc then opsd E all bs (i + 1) r (Γ1.plus' Γ) ((i, foot E Γ o, Γ1.lg ++ Γ1.lf) :: acc) K else none

section
variable {R : Type}
def exec (E : Env) (k : Nat) : Code → G → (X → G → Option R) → Option R
  | .skip, Γ, K => K .normal Γ
  | .region id ops draw, Γ, K => match E.post id with
    | [] => if draw then none else opsx E ops ops.toList Γ (K .normal)
    | s0 :: l => match pickS Γ (s0 :: l) with
      | none => none
      | some s => if allIn s.ti (opDsts ops.toList) then (match draw with
      | false => opsx E ops ops.toList Γ.fresh fun Γ' => ext s Γ'
      | true => if drawOk ops (closure ops.toList []) then opsd E ops (closure ops.toList []) 0 ops.toList Γ.fresh [] fun Γ' => ext s Γ' else none).bind fun x => K .normal ((inj s (opDsts ops.toList) Γ x).after Γ s) else none
  | .seq a b, Γ, K => match (match firstReg b with | some id => E.pre id | none => []) with
    | [] => exec E k a Γ fun x Γ' => match x with
      | .normal => exec E k b Γ' K
      | x => K x Γ'
    | s0 :: l => match pickS Γ (s0 :: l) with
      | none => none
      | some s => if allIn s.ti (dsts a) then
        jn (fun x => exec E k b ((inj s (dsts a) Γ x).after Γ s) K) fun j => exec E k a Γ.fresh fun x Γ' => match x with
          | .normal => match ext s Γ' with
            | some y => j y
            | none => none
          | x => K x (Γ'.after Γ s)
      else none
  | .cond c a b, Γ, K => match Γ.ev c with
    | .c (.bool t) => cond t (exec E k a Γ K) (exec E k b Γ K)
    | _ => none
  | .block id (.loop c), Γ, K => match pickS Γ (E.loop id) with
    | none => none
    | some s => if allIn s.ti (dsts c) then match ext s Γ.fresh with
      | some x => loopX (fun x j => exec E k c (inj s (dsts c) Γ x) fun e Γ' => match e with
          | .normal => match ext s Γ' with
            | some y => j y
            | none => none
          | .exit id' => if id' = id then K .normal (Γ'.after Γ s) else K (.exit id') (Γ'.after Γ s)
          | .ret => K .ret (Γ'.after Γ s)) k x
      | none => none else none
  | .block id c, Γ, K => exec E k c Γ fun e Γ' => match e with
    | .exit id' => if id' = id then K .normal Γ' else K (.exit id') Γ'
    | e => K e Γ'
  | .exit id, Γ, K => K (.exit id) Γ
  | .ret, Γ, K => K .ret Γ
  | _, _, _ => none
end

/-- The contracts that are known, by function and number. -/
def lookFn : List (FuncId × Nat × FnI) → FuncId → Nat → Option FnI
  | [], _, _ => none
  | (g, u, F) :: r, f, v => match Nat.beq g f && Nat.beq u v with | true => some F | false => lookFn r f v

/-- The results of a function. -/
def rescs (E : Env) (Γ : G) : List ResultVar → Option (List AV)
  | [] => some []
  | .tmp t :: r => match Γ.t[t]? with
    | some v => match rescs E Γ r with
      | some m => some (v :: m)
      | none => none
    | none => none
  | .cell t ty :: r => match E.ty ty, Γ.t[t]? with
    | some i, some (.c p) => loadx Γ.h i.size p fun cs => match mkAV i.agg cs with
      | some v => match rescs E Γ r with
        | some m => some (v :: m)
        | none => none
      | none => none
    | _, _ => none

def finA (Γ : G) : (l : List Shape) → Option (AltT l)
  | [] => none
  | [s] => ext s Γ
  | s :: t :: r => match ext s Γ with
    | some y => some (.inl y)
    | none => match finA Γ (t :: r) with
      | some z => some (.inr z)
      | none => none
def fin (E : Env) (f : Func) (F : FnI) (e : X) (Γ : G) : Option (AltT F.so) :=
  match e with
  | .exit _ => none
  | _ => match rescs E Γ f.results.toList with
    | some vs => finA { t := vs, h := Γ.h, lg := Γ.lg, lf := Γ.lf } F.so
    | none => none

def start (f : Func) (F : FnI) (x : F.si.kd.T) : G :=
  { t := F.si.outs x ++ List.replicate (f.ntmps - F.si.tl.length) (.c .undef), h := startH F x, lg := [], lf := [] }

/-- A function's answer. -/
def runF (E : Env) (k : Nat) (f : Func) (F : FnI) (x : F.si.kd.T) : Option (AltT F.so) :=
  match f.body with
  | some c => if F.so.all fun s => decide (s.ti = List.range f.results.size) && s.ok (start f F x) then exec E k c (start f F x) (fin E f F) else none
  | none => none
end Go.Vm
