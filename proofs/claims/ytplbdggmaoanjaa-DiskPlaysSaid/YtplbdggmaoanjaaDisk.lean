/- The plain laws of the disk functions. -/
import Derived.Test.YtplbdggmaoanjaaFnsOk
set_option linter.unusedVariables false
set_option linter.unusedSimpArgs false
namespace Go.Vm.Dsk
open Go.Proofs Go.Vm
abbrev Put := Int × (ByteArray × Unit)
theorem wr {x : Int} (h0 : -9223372036854775808 ≤ x) (h1 : x ≤ 9223372036854775807) : IntKind.wrap .i64 x = x := by
  rw [IntKind.wrap_i64]; omega

theorem loopX_fun {X R : Type} (step : X → (X → Option R) → Option R) (P : X → Prop) (meas : X → Nat) (res : X → R)
    (h : ∀ x j, P x → (∀ y, P y → meas y < meas x → j y = some (res y)) → step x j = some (res x)) : ∀ n x, P x → meas x < n → loopX step n x = some (res x)
  | 0, _, _, hm => absurd hm (Nat.not_lt_zero _)
  | n + 1, x, hp, hm => h x _ hp fun y hy hlt => loopX_fun step P meas res h n y hy (Nat.lt_of_lt_of_le hlt (Nat.le_of_lt_succ hm))

theorem rdS {α : Type} {l : List α} {i : Int} (h0 : 0 ≤ i) (h1 : i < l.length) : rd l i = some (l[i.toNat]'(by omega)) := by
  unfold rd
  rw [if_pos h0, List.getElem?_eq_getElem (by omega)]

theorem rd_nat {α : Type} {l : List α} {i : Nat} (h1 : i < l.length) : rd l (i : Int) = some l[i] := by
  rw [rdS (by omega) (by omega)]; simp

/-- Zeros. -/
def zeros (n : Nat) : ByteArray := ⟨(Lib.repeatL [0] n).toArray⟩
theorem zeros_size (n : Nat) : (zeros n).size = n := by
  unfold zeros ByteArray.size
  simp [Lib.repeatL_length]
theorem zeros_succ (n : Nat) : (⟨#[0]⟩ : ByteArray) ++ zeros n = zeros (n + 1) := by
  apply ByteArray.ext
  rw [ByteArray.data_append]
  unfold zeros
  apply Array.ext'
  simp [Lib.repeatL]
theorem repeat_eq (k : Nat) (n : Int) (h0 : 0 ≤ n) (h1 : n ≤ 32) : strings_Repeat k (⟨#[0]⟩ : ByteArray) n = some ((zeros n.toNat, ()), (), ()) := by
  have : (⟨#[0]⟩ : ByteArray).size = 1 := rfl
  unfold strings_Repeat
  rw [if_pos (by rw [this]; omega)]
  rfl

def pad (s : ByteArray) : ByteArray := s ++ zeros (32 - s.size)
theorem pad_size {s : ByteArray} (h : s.size ≤ 32) : (pad s).size = 32 := by
  unfold pad
  rw [ByteArray.size_append, zeros_size]; omega

/-- A disk. -/
structure Dk where
  l : Int
  a : Bool
  d : Bool
  f : List ByteArray
  p : List Put

structure Dk.Ok (n : Nat) (D : Dk) : Prop where
  len : D.f.length = n
  at_ : ∀ e ∈ D.p, 0 ≤ e.1 ∧ e.1 < n
  left : D.a = true → 0 ≤ D.l ∧ D.l ≤ 9223372036854775807
  small : D.p.length ≤ 1000

def setP (f : List ByteArray) (e : Put) : List ByteArray := f.set e.1.toNat e.2.1
theorem setP_len (f : List ByteArray) (e : Put) : (setP f e).length = f.length := by simp [setP]
theorem foldP_len : ∀ (p : List Put) (f : List ByteArray), (p.foldl setP f).length = f.length
  | [], f => rfl
  | e :: r, f => by rw [List.foldl_cons, foldP_len r, setP_len]
def crashF : List Put → List Bool → List ByteArray → List ByteArray
  | [], _, f => f
  | e :: r, ks, f => crashF r ks.tail (if ks.headD false then setP f e else f)
theorem crashF_len : ∀ (p : List Put) ks (f : List ByteArray), (crashF p ks f).length = f.length
  | [], _, f => rfl
  | e :: r, ks, f => by
    rw [crashF, crashF_len r]
    split
    · rw [setP_len]
    · rfl
def lookP (p : List Put) (i : Int) (s : ByteArray) : ByteArray := p.foldl (fun s e => if e.1 == i then e.2.1 else s) s

def Dk.spend (D : Dk) : Dk × Bool := if D.a then (if D.l = 0 then ({ D with d := true }, false) else ({ D with l := D.l - 1 }, true)) else (D, true)
def Dk.write (D : Dk) (i : Int) (s : ByteArray) : Dk × Int :=
  if D.d then (D, 7) else if i < 0 ∨ (D.f.length : Int) ≤ i then (D, 1) else if 32 < s.size then (D, 5)
  else if D.spend.2 then ({ D.spend.1 with p := D.p ++ [(i, pad s, ())] }, 0) else (D.spend.1, 7)
def Dk.flush (D : Dk) : Dk × Int :=
  if D.d then (D, 7) else if D.spend.2 then ({ D.spend.1 with f := D.p.foldl setP D.f, p := [] }, 0) else (D.spend.1, 7)
def Dk.read (D : Dk) (i : Int) : ByteArray × Int :=
  if D.d then (⟨#[]⟩, 7) else if i < 0 ∨ (D.f.length : Int) ≤ i then (⟨#[]⟩, 1) else (lookP D.p i (D.f[i.toNat]?.getD ⟨#[]⟩), 0)
def Dk.arm (D : Dk) (n : Int) : Dk := { D with l := n, a := decide (n ≥ 0) }
def Dk.crash (D : Dk) (ks : List Bool) : Dk := ⟨0, false, false, crashF D.p ks D.f, []⟩

theorem spend_f (D : Dk) : D.spend.1.f = D.f := by unfold Dk.spend; split <;> (try split) <;> rfl
theorem spend_p (D : Dk) : D.spend.1.p = D.p := by unfold Dk.spend; split <;> (try split) <;> rfl
theorem spend_a (D : Dk) : D.spend.1.a = D.a := by unfold Dk.spend; split <;> (try split) <;> rfl
theorem write_f (D : Dk) (i : Int) (s : ByteArray) : (D.write i s).1.f = D.f := by
  unfold Dk.write
  repeat' split
  all_goals first | rfl | exact spend_f D
theorem spend_ok {n : Nat} {D : Dk} (h : D.Ok n) : D.spend.1.Ok n := by
  refine ⟨by rw [spend_f]; exact h.len, by rw [spend_p]; exact h.at_, ?_, by rw [spend_p]; exact h.small⟩
  intro ha
  have := h.left (by rw [spend_a] at ha; exact ha)
  unfold Dk.spend
  split
  · split
    · exact this
    · have : D.l ≠ 0 := by assumption
      dsimp only; omega
  · exact this
theorem write_ok {n : Nat} {D : Dk} (h : D.Ok n) (hp : D.p.length < 1000) (i : Int) (s : ByteArray) : (D.write i s).1.Ok n := by
  have hs := spend_ok h
  unfold Dk.write
  split
  · exact h
  · split
    · exact h
    · split
      · exact h
      · split
        · have h1 : ¬(i < 0 ∨ (D.f.length : Int) ≤ i) := by assumption
          refine ⟨hs.len, ?_, hs.left, by simp; omega⟩
          intro e he
          rcases List.mem_append.1 he with he | he
          · exact h.at_ e he
          · rw [List.mem_singleton.1 he, ← h.len]
            dsimp only
            exact ⟨by omega, by omega⟩
        · exact hs
theorem flush_ok {n : Nat} {D : Dk} (h : D.Ok n) : D.flush.1.Ok n := by
  have hs := spend_ok h
  unfold Dk.flush
  split
  · exact h
  · split
    · exact ⟨by rw [← h.len]; exact foldP_len _ _, fun e he => by simp at he, hs.left, by simp⟩
    · exact hs
theorem arm_ok {n : Nat} {D : Dk} (h : D.Ok n) {m : Int} (hm : m ≤ 9223372036854775807) : (D.arm m).Ok n :=
  ⟨h.len, h.at_, fun ha => ⟨of_decide_eq_true ha, hm⟩, h.small⟩
theorem crash_ok {n : Nat} {D : Dk} (h : D.Ok n) (ks : List Bool) : (D.crash ks).Ok n :=
  ⟨by rw [← h.len]; exact crashF_len _ _ _, fun e he => by simp [Dk.crash] at he, fun ha => by simp [Dk.crash] at ha, by simp [Dk.crash]⟩

theorem down_eq (k : Nat) (l : Int) (a d : Bool) (f : List ByteArray) (p : List Put) : disk_Disk_Down k l a d f p = some ((d, ()), (), ()) := rfl
theorem loose_eq (k : Nat) (l : Int) (a d : Bool) (f : List ByteArray) (p : List Put) : disk_Disk_Loose k l a d f p = some (((p.length : Int), ()), (), ()) := rfl
theorem arm_eq (k : Nat) (n l : Int) (a d : Bool) (f : List ByteArray) (p : List Put) : disk_Disk_Arm k n l a d f p = some ((), ((n, decide (n ≥ 0), d, (), (), ()), ()), ()) := rfl

theorem spend_eq (k : Nat) {n : Nat} {D : Dk} (h : D.Ok n) : disk_power_spend k D.l D.a D.d D.f D.p = some ((D.spend.2, ()), ((D.spend.1.l, D.spend.1.a, D.spend.1.d, (), (), ()), ()), ()) := by
  have h1 := h.left
  obtain ⟨l, a, d, f, p⟩ := D
  cases a with
  | false => simp [disk_power_spend, Dk.spend, jn]
  | true =>
    have h1 := h1 rfl
    dsimp only at h1
    by_cases hl : l = 0
    · simp [disk_power_spend, Dk.spend, jn, hl]
    · have : IntKind.wrap .i64 (l - 1) = l - 1 := wr (by omega) (by omega)
      have hb : (l == 0) = false := by simpa using hl
      simp [disk_power_spend, Dk.spend, jn, hl, this, hb]

theorem write_eq (k : Nat) {n : Nat} {D : Dk} (h : D.Ok n) (i : Int) (s : ByteArray) :
    disk_Disk_Write k i s D.l D.a D.d D.f D.p = some (((D.write i s).2, ()), (((D.write i s).1.l, (D.write i s).1.a, (D.write i s).1.d, (), (D.write i s).1.p, ()), ()), ()) := by
  have hsp := spend_p D
  have hs : (if 0 ≤ i ∧ i < (n : Int) then True else True) := by split <;> trivial
  unfold disk_Disk_Write
  rw [down_eq, spend_eq k h]
  unfold Dk.write
  cases hd : D.d with
  | true => simp [hd]
  | false =>
    by_cases h1 : i < 0
    · simp [h1, hd]
    · by_cases h2 : (D.f.length : Int) ≤ i
      · simp [h1, h2, hd]
      · by_cases h3 : 32 < s.size
        · have h4 : 32 < (s.size : Int) := by omega
          simp [h1, h2, h3, h4, hd]
        · have h4 : ¬ 32 < (s.size : Int) := by omega
          cases hsp2 : D.spend.2 with
          | false => simp [h1, h2, h3, h4, hd, hsp2, hsp]
          | true =>
            have h5 : IntKind.wrap .i64 (32 - (s.size : Int)) = 32 - (s.size : Int) := wr (by omega) (by omega)
            have h6 : (32 - (s.size : Int)).toNat = 32 - s.size := by omega
            have h7 := h.small
            have h8 : IntKind.i64.max = 9223372036854775807 := rfl
            have h9 : ¬ ((s.size + (zeros (32 - s.size)).size : Nat) : Int) > IntKind.i64.max := by rw [zeros_size, h8]; omega
            have h10 : (D.p.length + 1) * 24 ≤ 140737488355328 := by omega
            rw [h5, repeat_eq k _ (by omega) (by omega), h6]
            simp only [h1, h2, h3, h4, hsp2, Option.bind_some, cond_false, Bool.not_true, decide_false, decide_eq_true_eq, List.length_singleton, if_neg h9, if_pos h10, ge_iff_le, gt_iff_lt, or_self, if_false, if_true, pad, Bool.false_eq_true]

theorem foldP_take (p : List Put) (f : List ByteArray) (i : Nat) (h : i < p.length) : (p.drop i).foldl setP f = (p.drop (i + 1)).foldl setP (setP f p[i]) := by
  rw [List.drop_eq_getElem_cons h, List.foldl_cons]

theorem flush_eq (k : Nat) (hk : 2000 ≤ k) {n : Nat} {D : Dk} (h : D.Ok n) :
    disk_Disk_Flush k D.l D.a D.d D.f D.p = some ((D.flush.2, ()), ((D.flush.1.l, D.flush.1.a, D.flush.1.d, D.flush.1.f, D.flush.1.p, ()), ()), ()) := by
  have hsp := spend_p D
  have hsf := spend_f D
  unfold disk_Disk_Flush
  rw [down_eq, spend_eq k h]
  unfold Dk.flush
  cases hd : D.d with
  | true => simp [hd]
  | false =>
    cases hsp2 : D.spend.2 with
    | false => simp [hd, hsp2, hsp, hsf]
    | true =>
      simp only [Option.bind_some, cond_false, Bool.not_true, if_true, Bool.false_eq_true, if_false]
      refine (loopX_fun (X := (Int × Unit) × (Unit × (List ByteArray × Unit))) _ (fun z => 0 ≤ z.1.1 ∧ z.1.1 ≤ D.p.length ∧ z.2.2.1.length = n) (fun z => (D.p.length - z.1.1).toNat)
        (fun z => ((0, ()), ((D.spend.1.l, D.spend.1.a, D.spend.1.d, (D.p.drop z.1.1.toNat).foldl setP z.2.2.1, [], ()), ()), ())) ?_ k _ ⟨by simp, by simp, h.len⟩ ?_).trans ?_
      · rintro ⟨⟨i, ⟨⟩⟩, ⟨⟩, g, ⟨⟩⟩ j ⟨h0, h1, h2⟩ hj
        dsimp only at h0 h1 h2 hj ⊢
        by_cases hlt : i < D.p.length
        · obtain ⟨hb0, hb1⟩ := h.at_ (D.p[i.toNat]'(by omega)) (List.getElem_mem _)
          rw [rdS h0 hlt]
          simp only [decide_eq_true hlt, cond_true, Option.bind_some]
          rw [rdS hb0 (by omega)]
          simp only [Option.bind_some]
          rw [wr (by omega) (by have := h.small; omega), hj _ ⟨by dsimp only; omega, by dsimp only; omega, by dsimp only; rw [List.length_set]; exact h2⟩ (by dsimp only; omega)]
          dsimp only
          rw [foldP_take D.p g i.toNat (by omega)]
          have : (i + 1).toNat = i.toNat + 1 := by omega
          rw [this]; rfl
        · simp only [decide_eq_false hlt, cond_false]
          have : i.toNat = D.p.length := by omega
          rw [this, List.drop_length]; rfl
      · have := h.small
        dsimp only; omega
      · simp

theorem crash_eq (k : Nat) (hk : 2000 ≤ k) {n : Nat} {D : Dk} (h : D.Ok n) (ks : List Bool) :
    disk_Disk_Crash k ks D.l D.a D.d D.f D.p = some ((), (((D.crash ks).l, (D.crash ks).a, (D.crash ks).d, (D.crash ks).f, (D.crash ks).p, ()), ()), ()) := by
  unfold disk_Disk_Crash
  refine (loopX_fun (X := (Int × Unit) × (Unit × (List ByteArray × Unit))) _ (fun z => 0 ≤ z.1.1 ∧ z.1.1 ≤ D.p.length ∧ z.2.2.1.length = n) (fun z => (D.p.length - z.1.1).toNat)
        (fun z => ((), ((0, false, false, crashF (D.p.drop z.1.1.toNat) (ks.drop z.1.1.toNat) z.2.2.1, [], ()), ()), ())) ?_ k _ ⟨by simp, by simp, h.len⟩ ?_).trans ?_
  · rintro ⟨⟨i, ⟨⟩⟩, ⟨⟩, g, ⟨⟩⟩ j ⟨h0, h1, h2⟩ hj
    dsimp only at h0 h1 h2 hj ⊢
    by_cases hlt : i < D.p.length
    · obtain ⟨hb0, hb1⟩ := h.at_ (D.p[i.toNat]'(by omega)) (List.getElem_mem _)
      have hw : IntKind.wrap .i64 (i + 1) = i + 1 := wr (by omega) (by have := h.small; omega)
      have hn : (i + 1).toNat = i.toNat + 1 := by omega
      have hd : D.p.drop i.toNat = D.p[i.toNat]'(by omega) :: D.p.drop (i.toNat + 1) := List.drop_eq_getElem_cons (by omega)
      rw [rdS h0 hlt]
      simp only [decide_eq_true hlt, cond_true, Option.bind_some, jn]
      by_cases hlk : i < ks.length
      · have hdk : ks.drop i.toNat = ks[i.toNat]'(by omega) :: ks.drop (i.toNat + 1) := List.drop_eq_getElem_cons (by omega)
        rw [rdS h0 hlk]
        simp only [decide_eq_true hlk, cond_true, Option.bind_some]
        cases hkk : ks[i.toNat]'(by omega) with
        | true =>
          rw [rdS hb0 (by omega)]
          simp only [Option.bind_some, cond_true, hw]
          rw [hj _ ⟨by dsimp only; omega, by dsimp only; omega, by dsimp only; rw [List.length_set]; exact h2⟩ (by dsimp only; omega)]
          dsimp only
          rw [hd, hdk, crashF, hn, hkk]
          rfl
        | false =>
          simp only [Option.bind_some, cond_false, hw]
          rw [hj _ ⟨by dsimp only; omega, by dsimp only; omega, h2⟩ (by dsimp only; omega)]
          dsimp only
          rw [hd, hdk, crashF, hn, hkk]
          rfl
      · have hdk : ks.drop i.toNat = [] := List.drop_eq_nil_of_le (by omega)
        have hdk' : ks.drop (i.toNat + 1) = [] := List.drop_eq_nil_of_le (by omega)
        simp only [decide_eq_false hlk, cond_false, Option.bind_some, hw]
        rw [hj _ ⟨by dsimp only; omega, by dsimp only; omega, h2⟩ (by dsimp only; omega)]
        dsimp only
        rw [hd, hdk, crashF, hn, hdk']
        rfl
    · simp only [decide_eq_false hlt, cond_false]
      have : i.toNat = D.p.length := by omega
      rw [this, List.drop_length]; rfl
  · have := h.small
    dsimp only; omega
  · simp [Dk.crash]

theorem lookP_take (p : List Put) (i : Int) (s : ByteArray) (m : Nat) (h : m < p.length) : lookP (p.take (m + 1)) i s = if p[m].1 == i then p[m].2.1 else lookP (p.take m) i s := by
  unfold lookP
  rw [List.take_succ_eq_append_getElem h, List.foldl_append]
  rfl

theorem read_eq (k : Nat) (hk : 2000 ≤ k) {n : Nat} {D : Dk} (h : D.Ok n) (i : Int) :
    disk_Disk_Read_v1 k i D.l D.a D.d D.f D.p = some (((D.read i).1, (D.read i).2, ()), (), ()) := by
  unfold disk_Disk_Read_v1
  rw [down_eq]
  unfold Dk.read
  cases hd : D.d with
  | true => simp [hd]
  | false =>
    by_cases h1 : i < 0
    · simp [h1, hd]
    · by_cases h2 : (D.f.length : Int) ≤ i
      · simp [h1, h2, hd]
      · have hf : D.f[i.toNat]?.getD ⟨#[]⟩ = D.f[i.toNat]'(by omega) := by rw [List.getElem?_eq_getElem (by omega)]; rfl
        have hsm := h.small
        simp only [Option.bind_some, cond_false, decide_eq_false h1, ge_iff_le, decide_eq_false h2, h1, h2, or_self, if_false, Bool.false_eq_true]
        refine (loopX_fun (X := (Int × Unit) × (Unit × Unit)) _ (fun z => -1 ≤ z.1.1 ∧ z.1.1 < D.p.length) (fun z => (z.1.1 + 1).toNat)
          (fun z => ((lookP (D.p.take (z.1.1 + 1).toNat) i (D.f[i.toNat]'(by omega)), 0, ()), (), ())) ?_ k _ ?_ ?_).trans ?_
        · rintro ⟨⟨m, ⟨⟩⟩, ⟨⟩, ⟨⟩⟩ j ⟨h0, h3⟩ hj
          dsimp only at h0 h3 hj ⊢
          by_cases hm : 0 ≤ m
          · simp only [decide_eq_true hm, cond_true]
            rw [rdS hm h3]
            simp only [Option.bind_some]
            have hn : (m + 1).toNat = m.toNat + 1 := by omega
            rw [hn, lookP_take _ _ _ _ (by omega)]
            cases he : (D.p[m.toNat]'(by omega)).1 == i with
            | true => simp
            | false =>
              have hw : IntKind.wrap .i64 (m - 1) = m - 1 := wr (by omega) (by omega)
              simp only [cond_false, hw]
              rw [hj _ ⟨by dsimp only; omega, by dsimp only; omega⟩ (by dsimp only; omega)]
              have hn' : (m - 1 + 1).toNat = m.toNat := by omega
              dsimp only
              rw [hn']; simp
          · simp only [decide_eq_false hm, cond_false]
            have : (m + 1).toNat = 0 := by omega
            rw [rdS (by omega) (by omega), this]
            rfl
        · dsimp only
          rw [wr (by omega) (by omega)]; omega
        · dsimp only
          rw [wr (by omega) (by omega)]; omega
        · dsimp only
          rw [wr (by omega) (by omega), hf]
          have : ((D.p.length : Int) - 1 + 1).toNat = D.p.length := by omega
          rw [this, List.take_length]

/-- A new disk. -/
def Dk.new (n : Nat) : Dk := ⟨0, false, false, List.replicate n (zeros 32), []⟩
theorem new_ok (n : Nat) : (Dk.new n).Ok n := ⟨by simp [Dk.new], fun e he => by simp [Dk.new] at he, fun h => by simp [Dk.new] at h, by simp [Dk.new]⟩

theorem new_eq (k n : Nat) (h1 : 1 ≤ n) (h2 : n ≤ 4096) (hk : n < k) :
    disk_New k n = some (.inr (((), ()), (((Dk.new n).l, (Dk.new n).a, (Dk.new n).d, (Dk.new n).f, (Dk.new n).p, ()), ()), ())) := by
  unfold disk_New
  have e1 : ¬ ((n : Int) < 1) := by omega
  have e2 : ¬ ((n : Int) > 4096) := by omega
  simp only [decide_eq_false e1, cond_false, Option.bind_some, decide_eq_false e2]
  refine (loopX_fun (X := ((Int × Unit) × (((Int × (Bool × (Bool × (List ByteArray × (List k73.T × Unit))))) × Unit) × Unit))) _ (fun z => 0 ≤ z.1.1 ∧ z.1.1 ≤ n ∧ z.2 = (((0, false, false, List.replicate z.1.1.toNat (zeros 32), [], ()), ()), ())) (fun z => (n - z.1.1).toNat)
    (fun _ => Sum.inr (((), ()), (((Dk.new n).l, (Dk.new n).a, (Dk.new n).d, (Dk.new n).f, (Dk.new n).p, ()), ()), ())) ?_ k _ ⟨by simp, by simp, by simp⟩ ?_)
  · rintro ⟨⟨i, ⟨⟩⟩, y⟩ j ⟨h0, h3, hy⟩ hj
    dsimp only at h0 h3 hy hj ⊢
    subst hy
    by_cases hlt : i < n
    · simp only [decide_eq_true hlt, cond_true]
      rw [repeat_eq k 32 (by omega) (by omega)]
      have e3 : (i.toNat + 1) * 16 ≤ 140737488355328 := by omega
      simp only [Option.bind_some, List.length_replicate, List.length_singleton, if_pos e3]
      have hn : (i + 1).toNat = i.toNat + 1 := by omega
      rw [wr (by omega) (by omega), hj _ ⟨by dsimp only; omega, by dsimp only; omega, ?_⟩ (by dsimp only; omega)]
      dsimp only
      rw [hn, List.replicate_succ']
      rfl
    · simp only [decide_eq_false hlt, cond_false]
      have : i.toNat = n := by omega
      rw [this]; rfl
  · dsimp only; omega

theorem new_none (k : Nat) (n : Int) (h : n < 1 ∨ 4096 < n) : disk_New k n = some (.inl (((), ()), (), ())) := by
  unfold disk_New
  by_cases e1 : n < 1
  · simp [e1]
  · have e2 : n > 4096 := by omega
    simp [e1, e2]

/-- Which act? -/
def kindN (a : Int) : Int := IntKind.wrap .i64 ((IntKind.wrap .u64 a).tmod 7)
theorem kind_eq (k : Nat) (a : k33.T) : counterfoillaw05_kind k a = some ((kindN a.1, ()), (), ()) := by
  unfold counterfoillaw05_kind
  rw [if_neg (by decide)]; rfl
theorem kindN_lt (a : Int) : 0 ≤ kindN a ∧ kindN a ≤ 6 := by
  unfold kindN
  rw [IntKind.wrap_u64, Int.tmod_eq_emod_of_nonneg (by omega), IntKind.wrap_i64]
  omega

theorem jn_rule {X R : Type} {f : X → Option R} {g : (X → Option R) → Option R} {r : Option R} (Q : X → Prop) (hf : ∀ y, Q y → f y = r)
    (hg : ∀ j, (∀ y, Q y → j y = r) → g j = r) : jn f g = r := hg f hf

theorem write_mk (D : Dk) (i : Int) (s : ByteArray) : (⟨(D.write i s).1.l, (D.write i s).1.a, (D.write i s).1.d, D.f, (D.write i s).1.p⟩ : Dk) = (D.write i s).1 := by
  rw [← write_f D i s]

theorem write_len (D : Dk) (i : Int) (s : ByteArray) : (D.write i s).1.p.length ≤ D.p.length + 1 := by
  have := spend_p D
  unfold Dk.write
  repeat' split
  all_goals simp [this]
theorem flush_len (D : Dk) : D.flush.1.p.length ≤ D.p.length := by
  have := spend_p D
  unfold Dk.flush
  repeat' split
  all_goals simp [this]

theorem awake_eq (k : Nat) (hk : 3000 ≤ k) : counterfoillaw05_awake k = some ((true, ()), (), ()) := by
  unfold counterfoillaw05_awake
  have hn := new_eq k 2 (by omega) (by omega) (by omega)
  have hn : disk_New k 2 = _ := hn
  rw [hn]
  simp only [Option.bind_some, Sum.elim_inr]
  have hw : (Dk.new 2).write 1 ⟨#[97, 98]⟩ = (⟨0, false, false, List.replicate 2 (zeros 32), [(1, pad ⟨#[97, 98]⟩, ())]⟩, 0) := rfl
  have ho := write_ok (new_ok 2) (by simp [Dk.new]) 1 ⟨#[97, 98]⟩
  rw [write_eq k (new_ok 2)]
  rw [hw] at ho ⊢
  have hf : (Dk.new 2).f = List.replicate 2 (zeros 32) := rfl
  simp only [Option.bind_some, loose_eq, hf]
  have hr := read_eq k (by omega) ho 1
  dsimp only at hr
  have e1 : ((0 : Int) != 0) = false := rfl
  have e2 : ((([(1, pad ⟨#[97, 98]⟩, ())] : List Put).length : Int) != 1) = false := rfl
  simp only [e1, e2, cond_false, Option.bind_some]
  rw [hr]
  have hr2 : Dk.read ⟨0, false, false, List.replicate 2 (zeros 32), [(1, pad ⟨#[97, 98]⟩, ())]⟩ 1 = (pad ⟨#[97, 98]⟩, 0) := rfl
  rw [hr2]
  have e3 : (((pad ⟨#[97, 98]⟩).size : Int) == 32) = true := by decide +kernel
  have e4 : 0 ≤ (3 : Int) ∧ (3 : Int) ≤ ((pad ⟨#[97, 98]⟩).size : Int) := by decide +kernel
  have e5 : (((pad ⟨#[97, 98]⟩).extract 0 ((3 : Int).toNat)).toList == (⟨#[97, 98, 0]⟩ : ByteArray).toList) = true := by decide +kernel
  simp only [Option.bind_some, e3, cond_true, if_pos e4, e5]
  rfl

theorem write_armed {n : Nat} {D : Dk} (h : D.Ok n) (ha : D.a = true) (hd : D.d = true → D.l = 0) (i : Int) (s : ByteArray) :
    (D.write i s).1.a = true ∧ (((D.write i s).2 = 0 ∧ (D.write i s).1.d = false ∧ (D.write i s).1.l = D.l - 1 ∧ D.l ≠ 0) ∨
      ((D.write i s).2 = 7 ∧ (D.write i s).1.d = true ∧ (D.write i s).1.l = 0 ∧ D.l = 0) ∨
      ((D.write i s).2 ≠ 0 ∧ (D.write i s).2 ≠ 7 ∧ (D.write i s).1.d = false ∧ (D.write i s).1.l = D.l)) := by
  obtain ⟨l, a, d, f, p⟩ := D
  dsimp only at ha hd ⊢
  subst ha
  unfold Dk.write Dk.spend
  cases d with
  | true => simp [hd]
  | false =>
    by_cases hl : l = 0
    · by_cases h1 : i < 0 ∨ (f.length : Int) ≤ i
      · simp [hl, h1]
      · by_cases h2 : 32 < s.size
        · simp [hl, h1, h2]
        · simp [hl, h1, h2]
    · by_cases h1 : i < 0 ∨ (f.length : Int) ≤ i
      · simp [hl, h1]
      · by_cases h2 : 32 < s.size
        · simp [hl, h1, h2]
        · simp [hl, h1, h2]
theorem flush_armed {n : Nat} {D : Dk} (h : D.Ok n) (ha : D.a = true) (hd : D.d = true → D.l = 0) :
    D.flush.1.a = true ∧ ((D.flush.2 = 0 ∧ D.flush.1.d = false ∧ D.flush.1.l = D.l - 1 ∧ D.l ≠ 0) ∨ (D.flush.2 = 7 ∧ D.flush.1.d = true ∧ D.flush.1.l = 0 ∧ D.l = 0)) := by
  obtain ⟨l, a, d, f, p⟩ := D
  dsimp only at ha hd ⊢
  subst ha
  unfold Dk.flush Dk.spend
  cases d with
  | true => simp [hd]
  | false =>
    by_cases hl : l = 0
    · simp [hl]
    · simp [hl]
theorem i64_le {n : Int} (h : (Lit.int .i64 n).wf = true) : n ≤ 9223372036854775807 := by
  simp [Lit.wf] at h
  exact h.2
abbrev DkT := (((Int × (Bool × (Bool × (List ByteArray × (List k73.T × Unit))))) × Unit) × Unit)
def Dk.tup (D : Dk) : DkT := (((D.l, D.a, D.d, D.f, D.p, ()), ()), ())
end Go.Vm.Dsk
