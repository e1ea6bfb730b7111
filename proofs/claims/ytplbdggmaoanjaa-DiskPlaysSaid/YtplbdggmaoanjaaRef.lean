/- A text of this claim. -/
import Derived.Test.YtplbdggmaoanjaaDisk
set_option linter.unusedVariables false
set_option linter.unusedSimpArgs false
namespace Go.Vm.Dsk
open Go.Proofs Go.Vm
/-- The document's disk. -/
structure Xk where
  f : List ByteArray
  p : List Put
  l : Int
  g : Bool
abbrev XkT := (List ByteArray × (List Int × (List ByteArray × (Int × (Bool × Unit)))))
def Xk.one (X : Xk) : XkT := (X.f, X.p.map (·.1), X.p.map (·.2.1), X.l, X.g, ())
structure Xk.Ok (n : Nat) (X : Xk) : Prop where
  len : X.f.length = n
  big : n ≤ 4096
  at_ : ∀ e ∈ X.p, 0 ≤ e.1 ∧ e.1 < n
  left : -1 ≤ X.l ∧ X.l ≤ 9223372036854775807
  small : X.p.length ≤ 1000
def Xk.spend (X : Xk) : Xk × Bool := if X.l = 0 then ({ X with g := true }, false) else if 0 < X.l then ({ X with l := X.l - 1 }, true) else (X, true)
def Xk.write (X : Xk) (i : Int) (s : ByteArray) : Xk × Int :=
  if X.g ∨ X.f.length = 0 then (X, 7) else if i < 0 ∨ (X.f.length : Int) ≤ i then (X, 1) else if 32 < s.size then (X, 5)
  else if X.spend.2 then ({ X.spend.1 with p := X.p ++ [(i, pad s, ())] }, 0) else (X.spend.1, 7)
def Xk.flush (X : Xk) : Xk × Int :=
  if X.g ∨ X.f.length = 0 then (X, 7) else if X.spend.2 then (⟨X.p.foldl setP X.f, [], X.spend.1.l, false⟩, 0) else (X.spend.1, 7)
def Xk.read (X : Xk) (i : Int) : ByteArray × Int :=
  if X.g ∨ X.f.length = 0 then (⟨#[]⟩, 7) else if i < 0 ∨ (X.f.length : Int) ≤ i then (⟨#[]⟩, 1) else (lookP X.p i (X.f[i.toNat]?.getD ⟨#[]⟩), 0)
def Xk.arm (X : Xk) (n : Int) : Xk := { X with l := if n < 0 then -1 else n }
def Xk.crash (X : Xk) (ks : List Bool) : Xk := ⟨crashF X.p ks X.f, [], -1, false⟩

theorem xspend_f (X : Xk) : X.spend.1.f = X.f := by unfold Xk.spend; split <;> (try split) <;> rfl
theorem xspend_p (X : Xk) : X.spend.1.p = X.p := by unfold Xk.spend; split <;> (try split) <;> rfl
theorem xspend_ok {n : Nat} {X : Xk} (h : X.Ok n) : X.spend.1.Ok n := by
  refine ⟨by rw [xspend_f]; exact h.len, h.big, by rw [xspend_p]; exact h.at_, ?_, by rw [xspend_p]; exact h.small⟩
  have := h.left
  unfold Xk.spend
  split
  · exact this
  · split
    · dsimp only; omega
    · exact this

theorem xlook (p : List Put) (i : Int) (s : ByteArray) : ∀ (m : Nat), m < p.length → lookP (p.drop m) i s = lookP (p.drop (m + 1)) i (if (p[m]?.map (·.1)).getD 0 == i then (p[m]?.map (·.2.1)).getD ⟨#[]⟩ else s) := by
  intro m hm
  unfold lookP
  rw [List.drop_eq_getElem_cons hm, List.foldl_cons]
  simp [hm]

theorem pad_step {s : ByteArray} (h : s.size < 32) : pad (s ++ ⟨#[0]⟩) = pad s := by
  unfold pad
  have : (⟨#[0]⟩ : ByteArray).size = 1 := rfl
  rw [ByteArray.append_assoc, zeros_succ, ByteArray.size_append, this]
  have : 32 - (s.size + 1) + 1 = 32 - s.size := by omega
  rw [this]
theorem pad_full {s : ByteArray} (h : s.size = 32) : pad s = s := by
  unfold pad
  rw [h]
  apply ByteArray.ext
  rw [ByteArray.data_append]
  simp [zeros, Lib.repeatL]

theorem pad_eq (k : Nat) (hk : 2000 ≤ k) (s : ByteArray) (h : s.size ≤ 32) : counterfoilref05_Pad k s = some ((pad s, ()), (), ()) := by
  unfold counterfoilref05_Pad
  refine (loopX_fun (X := (ByteArray × Unit) × (Unit × Unit)) _ (fun z => z.1.1.size ≤ 32 ∧ pad z.1.1 = pad s) (fun z => 32 - z.1.1.size) (fun _ => ((pad s, ()), (), ())) ?_ k _ ⟨h, rfl⟩ (by dsimp only; omega))
  rintro ⟨⟨t, ⟨⟩⟩, ⟨⟩, ⟨⟩⟩ j ⟨h0, h1⟩ hj
  dsimp only at h0 h1 hj ⊢
  have e1 : (⟨#[0]⟩ : ByteArray).size = 1 := rfl
  by_cases hlt : t.size < 32
  · have hlt' : (t.size : Int) < 32 := by omega
    have e2 : ¬ ((t.size + (⟨#[0]⟩ : ByteArray).size : Nat) : Int) > IntKind.i64.max := by
      have : IntKind.i64.max = 9223372036854775807 := rfl
      rw [e1, this]; omega
    simp only [decide_eq_true hlt', cond_true, if_neg e2]
    exact hj _ ⟨by dsimp only; rw [ByteArray.size_append, e1]; omega, by dsimp only; rw [pad_step hlt, h1]⟩ (by dsimp only; rw [ByteArray.size_append, e1]; omega)
  · have hlt' : ¬ (t.size : Int) < 32 := by omega
    simp only [decide_eq_false hlt', cond_false]
    rw [← h1, pad_full (by omega)]

theorem xspend_eq (k : Nat) {n : Nat} {X : Xk} (h : X.Ok n) : counterfoilref05_spend k X.one = some ((X.spend.1.one, X.spend.2, ()), (), ()) := by
  have h1 := h.left
  obtain ⟨f, p, l, g⟩ := X
  dsimp only at h1
  by_cases hl : l = 0
  · simp [counterfoilref05_spend, Xk.spend, jn, hl, Xk.one]
  · have hb : (l == 0) = false := by simpa using hl
    by_cases hp : 0 < l
    · have : IntKind.wrap .i64 (l - 1) = l - 1 := wr (by omega) (by omega)
      simp [counterfoilref05_spend, Xk.spend, jn, hl, hp, this, hb, Xk.one]
    · simp [counterfoilref05_spend, Xk.spend, jn, hl, hp, hb, Xk.one]
theorem xspend_eq2 (k : Nat) {n : Nat} {X : Xk} (h : X.Ok n) (b : List Int) (c : List ByteArray) : counterfoilref05_spend_v2 k X.f b c X.l X.g = some ((X.spend.1.f, (), (), X.spend.1.l, X.spend.1.g, X.spend.2, ()), (), ()) := by
  have h1 := h.left
  obtain ⟨f, p, l, g⟩ := X
  dsimp only at h1
  by_cases hl : l = 0
  · simp [counterfoilref05_spend_v2, Xk.spend, jn, hl, Xk.one]
  · have hb : (l == 0) = false := by simpa using hl
    by_cases hp : 0 < l
    · have : IntKind.wrap .i64 (l - 1) = l - 1 := wr (by omega) (by omega)
      simp [counterfoilref05_spend_v2, Xk.spend, jn, hl, hp, this, hb, Xk.one]
    · simp [counterfoilref05_spend_v2, Xk.spend, jn, hl, hp, hb, Xk.one]
theorem xcopy (k : Nat) {n : Nat} {X : Xk} (h : X.Ok n) : counterfoilref05_Copy k X.one = some ((X.one, ()), (), ()) := by
  have h1 := h.small
  have h2 := h.len
  have h3 := h.big
  unfold counterfoilref05_Copy Xk.one
  simp only [List.length_map]
  rw [if_pos (by omega), if_pos (by omega), if_pos (by omega)]
theorem xcopy1 (k : Nat) {n : Nat} {X : Xk} (h : X.Ok n) : counterfoilref05_Copy_v1 k X.one = some (X.one, (), ()) := by
  have h1 := h.small
  have h2 := h.len
  have h3 := h.big
  unfold counterfoilref05_Copy_v1 Xk.one
  simp only [List.length_map]
  rw [if_pos (by omega), if_pos (by omega), if_pos (by omega)]
theorem xcopy3 (k : Nat) {n : Nat} {X : Xk} (h : X.Ok n) : counterfoilref05_Copy_v3 k X.one = some (X.one, (), ()) := by
  have h1 := h.small
  have h2 := h.len
  have h3 := h.big
  unfold counterfoilref05_Copy_v3 Xk.one
  simp only [List.length_map]
  rw [if_pos (by omega), if_pos (by omega), if_pos (by omega)]

theorem xwrite_eq (k : Nat) (hk : 2000 ≤ k) {n : Nat} {X : Xk} (h : X.Ok n) (i : Int) (s : ByteArray) :
    counterfoilref05_Write k X.one i s = some (((X.write i s).1.one, (X.write i s).2, ()), (), ()) := by
  have hsm := h.small
  have hxp := xspend_p X
  have hxf := xspend_f X
  unfold counterfoilref05_Write
  have hc := xcopy3 k h
  have hs := xspend_eq2 k h (X.p.map (·.1)) (X.p.map (·.2.1))
  simp only [Xk.one] at hc ⊢
  unfold Xk.write
  cases hg : X.g with
  | true => simp [hg]
  | false =>
    rw [hg] at hc hs
    simp only [cond_false, Option.bind_some]
    by_cases hz : X.f.length = 0
    · simp [hz, hg]
    · have hz' : ((X.f.length : Int) == 0) = false := by simpa using hz
      simp only [hz', cond_false]
      by_cases h1 : i < 0
      · simp [h1, hz, hg]
      · by_cases h2 : (X.f.length : Int) ≤ i
        · simp [h1, h2, hz, hg]
        · by_cases h3 : 32 < s.size
          · have h4 : 32 < (s.size : Int) := by omega
            simp [h1, h2, h3, h4, hz, hg]
          · have h4 : ¬ 32 < (s.size : Int) := by omega
            simp only [decide_eq_false h1, cond_false, Option.bind_some, ge_iff_le, decide_eq_false h2, gt_iff_lt, decide_eq_false h4, hc, hs]
            cases hsp2 : X.spend.2 with
            | false => simp [h1, h2, h3, hz, hsp2, hxp]
            | true =>
              have h9 : ((X.p.map (·.1)).length + 1) * 8 ≤ 140737488355328 := by simp; omega
              have h10 : ((X.p.map (·.2.1)).length + 1) * 16 ≤ 140737488355328 := by simp; omega
              simp only [h1, h2, h3, hz, hsp2, Bool.not_true, cond_false, List.length_singleton, if_pos h9, if_pos h10, pad_eq k hk s (by omega), Option.bind_some, or_self, if_false, if_true, Bool.false_eq_true, List.map_append, List.map_cons, List.map_nil]

theorem xcrash_eq (k : Nat) (hk : 2000 ≤ k) {n : Nat} {X : Xk} (h : X.Ok n) (ks : List Bool) :
    counterfoilref05_Crash k X.one ks = some (((X.crash ks).one, ()), (), ()) := by
  have hsm := h.small
  unfold counterfoilref05_Crash
  have hc := xcopy1 k h
  simp only [Xk.one] at hc ⊢
  rw [hc]
  simp only [Option.bind_some]
  refine (loopX_fun (X := (Int × Unit) × (Unit × (List ByteArray × Unit))) _ (fun z => 0 ≤ z.1.1 ∧ z.1.1 ≤ X.p.length ∧ z.2.2.1.length = n) (fun z => (X.p.length - z.1.1).toNat)
        (fun z => (((crashF (X.p.drop z.1.1.toNat) (ks.drop z.1.1.toNat) z.2.2.1, [], [], (-1), false, ()), ()), (), ())) ?_ k _ ⟨by simp, by simp, h.len⟩ ?_).trans ?_
  · rintro ⟨⟨i, ⟨⟩⟩, ⟨⟩, g, ⟨⟩⟩ j ⟨h0, h1, h2⟩ hj
    dsimp only at h0 h1 h2 hj ⊢
    simp only [List.length_map]
    by_cases hlt : i < X.p.length
    · obtain ⟨hb0, hb1⟩ := h.at_ (X.p[i.toNat]'(by omega)) (List.getElem_mem _)
      have hw : IntKind.wrap .i64 (i + 1) = i + 1 := wr (by omega) (by omega)
      have hn : (i + 1).toNat = i.toNat + 1 := by omega
      have hd : X.p.drop i.toNat = X.p[i.toNat]'(by omega) :: X.p.drop (i.toNat + 1) := List.drop_eq_getElem_cons (by omega)
      have hr1 : rd (X.p.map (·.1)) i = some (X.p[i.toNat]'(by omega)).1 := by rw [rdS h0 (by simpa using hlt)]; simp
      have hr2 : rd (X.p.map (·.2.1)) i = some (X.p[i.toNat]'(by omega)).2.1 := by rw [rdS h0 (by simpa using hlt)]; simp
      simp only [decide_eq_true hlt, cond_true, Option.bind_some, jn, hr1, hr2]
      by_cases hlk : i < ks.length
      · have hdk : ks.drop i.toNat = ks[i.toNat]'(by omega) :: ks.drop (i.toNat + 1) := List.drop_eq_getElem_cons (by omega)
        rw [rdS h0 hlk]
        simp only [decide_eq_true hlk, cond_true, Option.bind_some]
        cases hkk : ks[i.toNat]'(by omega) with
        | true =>
          rw [rdS hb0 (by omega)]
          simp only [Option.bind_some, cond_true, hw]
          rw [hj _ ⟨by dsimp only; omega, by dsimp only; omega, by dsimp only; rw [List.length_set]; exact h2⟩ (by dsimp only; omega)]
          dsimp only
          rw [hd, hdk, crashF, hn, hkk]
          rfl
        | false =>
          simp only [Option.bind_some, cond_false, hw]
          rw [hj _ ⟨by dsimp only; omega, by dsimp only; omega, h2⟩ (by dsimp only; omega)]
          dsimp only
          rw [hd, hdk, crashF, hn, hkk]
          rfl
      · have hdk : ks.drop i.toNat = [] := List.drop_eq_nil_of_le (by omega)
        have hdk' : ks.drop (i.toNat + 1) = [] := List.drop_eq_nil_of_le (by omega)
        simp only [decide_eq_false hlk, cond_false, Option.bind_some, hw]
        rw [hj _ ⟨by dsimp only; omega, by dsimp only; omega, h2⟩ (by dsimp only; omega)]
        dsimp only
        rw [hd, hdk, crashF, hn, hdk']
        rfl
    · simp only [decide_eq_false hlt, cond_false]
      have : i.toNat = X.p.length := by omega
      rw [this, List.drop_length]; rfl
  · dsimp only; omega
  · simp [Xk.crash]

theorem crashF_all : ∀ (p : List Put) (m : Nat) (f : List ByteArray), p.length ≤ m → crashF p (List.replicate m true) f = p.foldl setP f
  | [], _, f, _ => rfl
  | e :: r, 0, f, h => absurd h (by simp)
  | e :: r, m + 1, f, h => by
    rw [List.replicate_succ, crashF, List.tail_cons, List.headD_cons, crashF_all r m _ (by simpa using h)]
    rfl

theorem xflush_eq (k : Nat) (hk : 2000 ≤ k) {n : Nat} {X : Xk} (h : X.Ok n) :
    counterfoilref05_Flush k X.one = some ((X.flush.1.one, X.flush.2, ()), (), ()) := by
  have hsm := h.small
  have hxp := xspend_p X
  have hxf := xspend_f X
  have hso := xspend_ok h
  unfold counterfoilref05_Flush
  have hc := xcopy k h
  have hs := xspend_eq k h
  have hcr := fun ks => xcrash_eq k hk hso ks
  simp only [Xk.one] at hc hs hcr ⊢
  unfold Xk.flush
  cases hg : X.g with
  | true => simp [hg]
  | false =>
    rw [hg] at hc hs
    simp only [cond_false, Option.bind_some]
    by_cases hz : X.f.length = 0
    · simp [hz, hg]
    · have hz' : ((X.f.length : Int) == 0) = false := by simpa using hz
      simp only [hz', cond_false, hc, hs, Option.bind_some]
      cases hsp2 : X.spend.2 with
      | false => simp [hz, hsp2]
      | true =>
        simp only [hz, Bool.not_true, cond_false, or_false, Bool.false_eq_true, if_false, if_true, List.length_map, hcr]
        refine (loopX_fun (X := (List Bool × (Int × Unit)) × (Unit × Unit)) _ (fun z => 0 ≤ z.1.2.1 ∧ z.1.2.1 ≤ X.p.length ∧ z.1.1 = List.replicate z.1.2.1.toNat true) (fun z => (X.p.length - z.1.2.1).toNat)
          (fun z => (((X.p.foldl setP X.f, [], [], X.spend.1.l, false, ()), 0, ()), (), ())) ?_ k _ ⟨by simp, by simp, rfl⟩ ?_).trans ?_
        · rintro ⟨⟨b, i, ⟨⟩⟩, ⟨⟩, ⟨⟩⟩ j ⟨h0, h1, h2⟩ hj
          dsimp only at h0 h1 h2 hj ⊢
          subst h2
          rw [hxp]
          by_cases hlt : i < X.p.length
          · have e1 : ((List.replicate i.toNat true).length + 1) * 1 ≤ 140737488355328 := by simp; omega
            simp only [decide_eq_true hlt, cond_true, List.length_singleton, if_pos e1]
            rw [wr (by omega) (by omega)]
            have hn : (i + 1).toNat = i.toNat + 1 := by omega
            exact hj _ ⟨by dsimp only; omega, by dsimp only; omega, by dsimp only; rw [hn, List.replicate_succ']⟩ (by dsimp only; omega)
          · simp only [decide_eq_false hlt, cond_false, Option.bind_some]
            have : i.toNat = X.p.length := by omega
            simp [Xk.crash, this, hxp, hxf, crashF_all]
        · dsimp only; omega
        · simp

theorem xread_eq (k : Nat) (hk : 2000 ≤ k) {n : Nat} {X : Xk} (h : X.Ok n) (i : Int) :
    counterfoilref05_Read k X.one i = some (((X.read i).1, (X.read i).2, ()), (), ()) := by
  have hsm := h.small
  unfold counterfoilref05_Read
  simp only [Xk.one]
  unfold Xk.read
  cases hg : X.g with
  | true => simp [hg]
  | false =>
    simp only [cond_false, Option.bind_some]
    by_cases hz : X.f.length = 0
    · simp [hz, hg]
    · have hz' : ((X.f.length : Int) == 0) = false := by simpa using hz
      simp only [hz', cond_false]
      by_cases h1 : i < 0
      · simp [h1, hz, hg]
      · by_cases h2 : (X.f.length : Int) ≤ i
        · simp [h1, h2, hz, hg]
        · have hf : X.f[i.toNat]?.getD ⟨#[]⟩ = X.f[i.toNat]'(by omega) := by rw [List.getElem?_eq_getElem (by omega)]; rfl
          simp only [decide_eq_false h1, cond_false, Option.bind_some, ge_iff_le, decide_eq_false h2, rdS (show 0 ≤ i by omega) (show i < X.f.length by omega), h1, h2, hz, or_self, Bool.false_eq_true, if_false, List.length_map]
          refine (loopX_fun (X := (ByteArray × (Int × Unit)) × (Unit × Unit)) _ (fun z => 0 ≤ z.1.2.1 ∧ z.1.2.1 ≤ X.p.length) (fun z => (X.p.length - z.1.2.1).toNat)
            (fun z => ((lookP (X.p.drop z.1.2.1.toNat) i z.1.1, 0, ()), (), ())) ?_ k _ ⟨by simp, by simp⟩ ?_).trans ?_
          · rintro ⟨⟨b, m, ⟨⟩⟩, ⟨⟩, ⟨⟩⟩ j ⟨h0, h3⟩ hj
            dsimp only at h0 h3 hj ⊢
            by_cases hlt : m < X.p.length
            · have hr1 : rd (X.p.map (·.1)) m = some (X.p[m.toNat]'(by omega)).1 := by rw [rdS h0 (by simpa using hlt)]; simp
              have hr2 : rd (X.p.map (·.2.1)) m = some (X.p[m.toNat]'(by omega)).2.1 := by rw [rdS h0 (by simpa using hlt)]; simp
              have hd : X.p.drop m.toNat = X.p[m.toNat]'(by omega) :: X.p.drop (m.toNat + 1) := List.drop_eq_getElem_cons (by omega)
              have hn : (m + 1).toNat = m.toNat + 1 := by omega
              simp only [decide_eq_true hlt, cond_true, jn, hr1, hr2, Option.bind_some, wr (show -9223372036854775808 ≤ m + 1 by omega) (by omega)]
              cases he : (X.p[m.toNat]'(by omega)).1 == i with
              | true =>
                simp only [cond_true]
                rw [hj _ ⟨by dsimp only; omega, by dsimp only; omega⟩ (by dsimp only; omega)]
                dsimp only
                rw [hn, hd]
                unfold lookP
                rw [List.foldl_cons, he]; simp
              | false =>
                simp only [cond_false]
                rw [hj _ ⟨by dsimp only; omega, by dsimp only; omega⟩ (by dsimp only; omega)]
                dsimp only
                rw [hn, hd]
                unfold lookP
                rw [List.foldl_cons, he]; simp
            · simp only [decide_eq_false hlt, cond_false]
              have : m.toNat = X.p.length := by omega
              rw [this, List.drop_length]; rfl
          · dsimp only; omega
          · simp [hf]

theorem xarm_eq (k : Nat) (X : Xk) (m : Int) : counterfoilref05_Arm k X.one m = some (((X.arm m).one, ()), (), ()) := by
  by_cases h : m < 0 <;> simp [counterfoilref05_Arm, jn, Xk.one, Xk.arm, h]

theorem xwrite_ok {n : Nat} {X : Xk} (h : X.Ok n) (hp : X.p.length < 1000) (i : Int) (s : ByteArray) : (X.write i s).1.Ok n := by
  have hs := xspend_ok h
  unfold Xk.write
  split
  · exact h
  · split
    · exact h
    · split
      · exact h
      · split
        · have h1 : ¬(i < 0 ∨ (X.f.length : Int) ≤ i) := by assumption
          refine ⟨hs.len, h.big, ?_, hs.left, by simp; omega⟩
          intro e he
          rcases List.mem_append.1 he with he | he
          · exact h.at_ e he
          · rw [List.mem_singleton.1 he, ← h.len]
            dsimp only
            exact ⟨by omega, by omega⟩
        · exact hs
theorem xflush_ok {n : Nat} {X : Xk} (h : X.Ok n) : X.flush.1.Ok n := by
  have hs := xspend_ok h
  unfold Xk.flush
  split
  · exact h
  · split
    · exact ⟨by rw [← h.len]; exact foldP_len _ _, h.big, fun e he => by simp at he, hs.left, by simp⟩
    · exact hs
theorem xarm_ok {n : Nat} {X : Xk} (h : X.Ok n) {m : Int} (hm : m ≤ 9223372036854775807) : (X.arm m).Ok n :=
  ⟨h.len, h.big, h.at_, by unfold Xk.arm; dsimp only; split <;> omega, h.small⟩
theorem xcrash_ok {n : Nat} {X : Xk} (h : X.Ok n) (ks : List Bool) : (X.crash ks).Ok n :=
  ⟨by rw [← h.len]; exact crashF_len _ _ _, h.big, fun e he => by simp [Xk.crash] at he, by simp [Xk.crash], by simp [Xk.crash]⟩

/-- One act, done to both. -/
def actD (D : Dk) (x : k33.T) : Dk :=
  if kindN x.1 = 3 then D.flush.1 else if kindN x.1 = 4 then D else if kindN x.1 = 5 then D.arm x.2.2.1 else if kindN x.1 = 6 then D.crash x.2.2.2.2.1 else (D.write x.2.1 x.2.2.2.1).1
def actX (X : Xk) (x : k33.T) : Xk :=
  if kindN x.1 = 3 then X.flush.1 else if kindN x.1 = 4 then X else if kindN x.1 = 5 then X.arm x.2.2.1 else if kindN x.1 = 6 then X.crash x.2.2.2.2.1 else (X.write x.2.1 x.2.2.2.1).1
def actB (D : Dk) (X : Xk) (x : k33.T) : Bool :=
  if kindN x.1 = 3 then D.flush.2 == X.flush.2 else if kindN x.1 = 4 then (D.read x.2.1).1.toList == (X.read x.2.1).1.toList && (D.read x.2.1).2 == (X.read x.2.1).2
  else if kindN x.1 = 5 then true else if kindN x.1 = 6 then true else (D.write x.2.1 x.2.2.2.1).2 == (X.write x.2.1 x.2.2.2.1).2

theorem act_eq (k : Nat) (hk : 2000 ≤ k) {n m : Nat} {D : Dk} {X : Xk} (hD : D.Ok n) (hX : X.Ok m) (x : k33.T) :
    counterfoillaw05_act k X.one x D.l D.a D.d D.f D.p = some (((actX X x).one, actB D X x, ()), (((actD D x).l, (actD D x).a, (actD D x).d, (actD D x).f, (actD D x).p, ()), ()), ()) := by
  have w1 := fun i s => xwrite_eq k hk hX i s
  have f1 := xflush_eq k hk hX
  have r1 := fun i => xread_eq k hk hX i
  have a1 := fun i => xarm_eq k X i
  have c1 := fun i => xcrash_eq k hk hX i
  unfold counterfoillaw05_act
  simp only [Xk.one] at w1 f1 r1 a1 c1 ⊢
  simp only [kind_eq, Option.bind_some, write_eq k hD, flush_eq k hk hD, read_eq k hk hD, crash_eq k hk hD, arm_eq, w1, f1, r1, a1, c1]
  unfold actX actD actB
  by_cases h3 : kindN x.1 = 3
  · simp [h3]
  by_cases h4 : kindN x.1 = 4
  · cases hb : (D.read x.2.1).1.toList == (X.read x.2.1).1.toList with
    | true => simp [h4, hb]
    | false => simp [h4, hb]
  by_cases h5 : kindN x.1 = 5
  · simp [h5, Dk.arm]
  by_cases h6 : kindN x.1 = 6
  · simp [h6]
  have b3 : (kindN x.1 == 3) = false := by simpa using h3
  have b4 : (kindN x.1 == 4) = false := by simpa using h4
  have b5 : (kindN x.1 == 5) = false := by simpa using h5
  have b6 : (kindN x.1 == 6) = false := by simpa using h6
  simp [h3, h4, h5, h6, b3, b4, b5, b6, write_f]

theorem actD_ok {n : Nat} {D : Dk} (hD : D.Ok n) (hp : D.p.length < 1000) (x : k33.T) (hx : x.2.2.1 ≤ 9223372036854775807) : (actD D x).Ok n := by
  unfold actD
  repeat' split
  · exact flush_ok hD
  · exact hD
  · exact arm_ok hD hx
  · exact crash_ok hD _
  · exact write_ok hD hp _ _
theorem actX_ok {n : Nat} {D : Xk} (hD : D.Ok n) (hp : D.p.length < 1000) (x : k33.T) (hx : x.2.2.1 ≤ 9223372036854775807) : (actX D x).Ok n := by
  unfold actX
  repeat' split
  · exact xflush_ok hD
  · exact hD
  · exact xarm_ok hD hx
  · exact xcrash_ok hD _
  · exact xwrite_ok hD hp _ _
theorem actD_len (D : Dk) (x : k33.T) : (actD D x).p.length ≤ D.p.length + 1 := by
  unfold actD
  repeat' split
  · have := flush_len D; omega
  · omega
  · simp [Dk.arm]
  · simp [Dk.crash]
  · exact write_len _ _ _
end Go.Vm.Dsk
