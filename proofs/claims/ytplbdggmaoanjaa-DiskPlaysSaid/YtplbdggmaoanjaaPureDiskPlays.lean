/- The plain law DiskPlays: what the code computes is true for every input. -/
import Derived.Test.YtplbdggmaoanjaaRef
set_option linter.unusedVariables false
set_option linter.unusedSimpArgs false
namespace Go.Vm.Dsk
open Go.Proofs Go.Vm
/-- Alike. -/
structure Rel (n : Nat) (D : Dk) (X : Xk) : Prop where
  ok : D.Ok n
  xok : X.Ok n
  pos : 0 < n
  f : X.f = D.f
  p : X.p = D.p
  g : X.g = D.d
  l : X.l = if D.a then D.l else -1
theorem Rel.nz {n : Nat} {D : Dk} {X : Xk} (h : Rel n D X) : ¬ X.f.length = 0 := by rw [h.xok.len]; exact Nat.pos_iff_ne_zero.1 h.pos
theorem Rel.spend {n : Nat} {D : Dk} {X : Xk} (h : Rel n D X) : D.spend.2 = X.spend.2 ∧ Rel n D.spend.1 X.spend.1 := by
  have h1 := spend_ok h.ok
  have h2 := xspend_ok h.xok
  have hl := h.ok.left
  obtain ⟨ok, xok, pos, f, p, g, l⟩ := h
  obtain ⟨l1, a, d, f1, p1⟩ := D
  obtain ⟨f2, p2, l2, g2⟩ := X
  dsimp only at f p g l hl
  subst f p g
  unfold Dk.spend Xk.spend at *
  cases a with
  | false =>
    simp at l
    subst l
    exact ⟨by first | rfl | trivial, h1, h2, pos, rfl, rfl, rfl, rfl⟩
  | true =>
    simp at l
    subst l
    have hl := hl rfl
    by_cases h0 : l2 = 0
    · simp only [h0, if_true] at *
      exact ⟨by first | rfl | trivial, h1, h2, pos, rfl, rfl, rfl, rfl⟩
    · have h3 : 0 < l2 := by omega
      simp only [h0, h3, if_true, if_false] at *
      exact ⟨by first | rfl | trivial, h1, h2, pos, rfl, rfl, rfl, rfl⟩
theorem Rel.read {n : Nat} {D : Dk} {X : Xk} (h : Rel n D X) (i : Int) : D.read i = X.read i := by
  unfold Dk.read Xk.read
  rw [h.f, h.p, h.g]
  have : ¬ D.f.length = 0 := by rw [← h.f]; exact h.nz
  simp [this]
theorem spend_d (D : Dk) (hd : D.d = false) (hs : D.spend.2 = true) : D.spend.1.d = false := by
  unfold Dk.spend at hs ⊢
  split
  · split
    · rename_i ha hl; rw [if_pos ha, if_pos hl] at hs; simp at hs
    · exact hd
  · exact hd
theorem arm_alike (q : Int) : (if q < 0 then (-1 : Int) else q) = if decide (q ≥ 0) = true then q else -1 := by
  by_cases h : q < 0
  · have : ¬ q ≥ 0 := by omega
    simp [h, this]
  · have : q ≥ 0 := by omega
    simp [h, this]
theorem Rel.act {n : Nat} {D : Dk} {X : Xk} (h : Rel n D X) (hp : D.p.length < 1000) (x : k33.T) (hx : x.2.2.1 ≤ 9223372036854775807) :
    actB D X x = true ∧ Rel n (actD D x) (actX X x) := by
  have h1 := actD_ok h.ok hp x hx
  have h2 := actX_ok h.xok (by rw [h.p]; exact hp) x hx
  have hsp := h.spend
  have hnz : ¬ D.f.length = 0 := by rw [← h.f]; exact h.nz
  have hnz2 := h.nz
  unfold actB actD actX at *
  by_cases h3 : kindN x.1 = 3
  · simp only [h3, if_true] at *
    unfold Dk.flush Xk.flush at *
    rw [h.g] at *
    cases hd : D.d with
    | true => simp only [hd, true_or, if_true] at *; exact ⟨rfl, h⟩
    | false =>
      have hfin : X.spend.2 = true → D.spend.1.d = false := fun q => spend_d D hd (h.spend.1.trans q)
      simp only [hd, hnz2, or_self, Bool.false_eq_true, if_false, hsp.1] at *
      cases hs : X.spend.2 with
      | true =>
        have hfin := hfin hs
        simp only [hs, if_true] at *
        exact ⟨rfl, h1, h2, h.pos, by dsimp only; rw [h.f, h.p], rfl, (by first | exact hfin.symm | exact (hfin trivial).symm), hsp.2.l⟩
      | false =>
        simp only [hs, Bool.false_eq_true, if_false] at *
        exact ⟨rfl, hsp.2⟩
  by_cases h4 : kindN x.1 = 4
  · simp only [h4, if_true] at *
    rw [h.read]
    simp
    exact h
  by_cases h5 : kindN x.1 = 5
  · simp only [h5, if_true] at *
    simp only [show ¬ ((5 : Int) = 3) by decide, show ¬ ((5 : Int) = 4) by decide, if_false] at *
    refine ⟨trivial, h1, h2, h.pos, h.f, h.p, h.g, ?_⟩
    exact arm_alike _
  by_cases h6 : kindN x.1 = 6
  · simp only [h6] at *
    simp only [show ¬ ((6 : Int) = 3) by decide, show ¬ ((6 : Int) = 4) by decide, show ¬ ((6 : Int) = 5) by decide, if_false, if_true] at *
    exact ⟨trivial, h1, h2, h.pos, by simp only [Xk.crash, Dk.crash]; rw [h.f, h.p], rfl, rfl, rfl⟩
  simp only [h3, h4, h5, h6, if_false] at *
  unfold Dk.write Xk.write at *
  rw [h.g, h.f] at *
  cases hd : D.d with
  | true => simp only [hd, true_or, if_true] at *; exact ⟨rfl, h⟩
  | false =>
    simp only [hd, hnz2, or_self, Bool.false_eq_true, if_false, hsp.1] at *
    split
    · exact ⟨rfl, h⟩
    · split
      · exact ⟨rfl, h⟩
      · rename_i n1 n2
        simp only [n1, n2, if_false] at *
        cases hs : X.spend.2 with
        | true =>
          simp only [hs, if_true] at *
          exact ⟨rfl, h1, h2, h.pos, hsp.2.f, by dsimp only; rw [h.p], hsp.2.g, hsp.2.l⟩
        | false =>
          simp only [hs, Bool.false_eq_true, if_false] at *
          exact ⟨rfl, hsp.2⟩
def Xk.new (n : Nat) : Xk := ⟨List.replicate n (zeros 32), [], -1, false⟩
theorem xnew_ok {n : Nat} (h : n ≤ 4096) : (Xk.new n).Ok n := ⟨by simp [Xk.new], h, fun e he => by simp [Xk.new] at he, by simp [Xk.new], by simp [Xk.new]⟩
theorem pad_nil : pad ⟨#[]⟩ = zeros 32 := by
  unfold pad
  apply ByteArray.ext
  rw [ByteArray.data_append]
  simp
  rfl
theorem xnew_eq (k n : Nat) (h1 : 1 ≤ n) (h2 : n ≤ 4096) (hk : n < k) (hk2 : 2000 ≤ k) : counterfoilref05_New k n = some (((Xk.new n).one, ()), (), ()) := by
  unfold counterfoilref05_New
  have e1 : ¬ ((n : Int) < 1) := by omega
  have e2 : ¬ ((n : Int) > 4096) := by omega
  simp only [decide_eq_false e1, cond_false, Option.bind_some, decide_eq_false e2]
  refine (loopX_fun (X := (Int × Unit) × ((XkT × Unit) × Unit)) _ (fun z => 0 ≤ z.1.1 ∧ z.1.1 ≤ n ∧ z.2 = (((List.replicate z.1.1.toNat (zeros 32), [], [], -1, false, ()), ()), ())) (fun z => (n - z.1.1).toNat)
    (fun _ => (((Xk.new n).one, ()), (), ())) ?_ k _ ⟨by simp, by simp, by simp⟩ ?_)
  · rintro ⟨⟨i, ⟨⟩⟩, y⟩ j ⟨h0, h3, hy⟩ hj
    dsimp only at h0 h3 hy hj ⊢
    subst hy
    by_cases hlt : i < n
    · simp only [decide_eq_true hlt, cond_true]
      rw [pad_eq k hk2 ⟨#[]⟩ (by decide), pad_nil]
      have e3 : (i.toNat + 1) * 16 ≤ 140737488355328 := by omega
      simp only [Option.bind_some, List.length_replicate, List.length_singleton, if_pos e3]
      have hn : (i + 1).toNat = i.toNat + 1 := by omega
      rw [wr (by omega) (by omega), hj _ ⟨by dsimp only; omega, by dsimp only; omega, ?_⟩ (by dsimp only; omega)]
      dsimp only
      rw [hn, List.replicate_succ']
    · simp only [decide_eq_false hlt, cond_false]
      have : i.toNat = n := by omega
      rw [this]; rfl
  · dsimp only; omega
theorem xnew_none (k : Nat) (n : Int) (h : n < 1 ∨ 4096 < n) : counterfoilref05_New k n = some ((([], [], [], (-1), false, ()), ()), (), ()) := by
  unfold counterfoilref05_New
  by_cases e1 : n < 1
  · simp [e1]
  · have e2 : n > 4096 := by omega
    simp [e1, e2]
abbrev DkT2 := (Int × (Bool × (Bool × (List ByteArray × (List k73.T × Unit)))))
def Dk.one' (D : Dk) : DkT2 := (D.l, D.a, D.d, D.f, D.p, ())
set_option maxHeartbeats 1000000 in
theorem plays_eq (k : Nat) (hk : 3000 ≤ k) (n : Int) (l : List k33.T) (hwf : ∀ x ∈ l, x.2.2.1 ≤ 9223372036854775807) : counterfoillaw05_DiskPlays k n l = some ((true, ()), (), ()) := by
  unfold counterfoillaw05_DiskPlays
  have g1 : disk_Disk_Read k 0 = some ((⟨#[]⟩, 7, ()), (), ()) := rfl
  have g2 : disk_Disk_Write_v1 k 0 (⟨#[]⟩ : ByteArray) = some ((7, ()), (), ()) := rfl
  have g3 : disk_Disk_Flush_v1 k = some ((7, ()), (), ()) := rfl
  have g4 : disk_Disk_Down_v1 k = some ((true, ()), (), ()) := rfl
  have g5 : disk_Disk_Size k = some ((0, ()), (), ()) := rfl
  have g6 : disk_Disk_Loose_v1 k = some ((0, ()), (), ()) := rfl
  simp only [g1, g2, g3, g4, g5, g6, Option.bind_some, bne_self_eq_false, cond_false, Bool.not_true, awake_eq k hk]
  by_cases h1 : n > 24 ∧ n ≤ 4096
  · simp [h1.1, h1.2]
  have hc : (cond (decide (n > 24)) (some ((decide (n ≤ 4096), ()), (), ())) (some ((false, ()), (), ())) : Option ((Bool × Unit) × (Unit × Unit))) = some ((false, ()), (), ()) := by
    by_cases h2 : n > 24
    · have : ¬ (n ≤ 4096) := fun h => h1 ⟨h2, h⟩
      simp [h2, this]
    · simp [h2]
  rw [hc]
  simp only [Option.bind_some, cond_false]
  by_cases h3 : n < 1 ∨ 4096 < n
  · rw [new_none k n h3, xnew_none k n h3]
    rfl
  obtain ⟨m, rfl⟩ : ∃ m : Nat, n = m := ⟨n.toNat, by omega⟩
  have hm1 : 1 ≤ m := by omega
  have hm2 : m ≤ 24 := by omega
  rw [new_eq k m hm1 (by omega) (by omega), xnew_eq k m hm1 (by omega) (by omega) (by omega)]
  have hlen : (Xk.new m).one.1.length = m := by simp [Xk.new, Xk.one]
  have hz : (((Xk.new m).one.1.length : Int) == 0) = false := by rw [hlen]; simp; omega
  have hsz : ∀ l a d p, disk_Disk_Size_v1 k l a d (Dk.new m).f p = some (((m : Int), ()), (), ()) := by
    intro l a d p
    show some ((((Dk.new m).f.length : Int), ()), (), ()) = _
    rw [(new_ok m).len]
  simp only [Option.bind_some, Sum.elim_inr, hz, cond_false, hsz, bne_self_eq_false]
  refine loopX_fun (X := (Int × Unit) × ((XkT × (DkT2 × Unit)) × Unit)) _
    (fun z => ∃ (D : Dk) (X : Xk), Rel m D X ∧ 0 ≤ z.1.1 ∧ z.1.1 ≤ 60 ∧ (D.p.length : Int) ≤ z.1.1 ∧ z.2 = ((X.one, D.one', ()), ()))
    (fun z => (60 - z.1.1).toNat) (fun _ => ((true, ()), (), ())) ?_ k _ ?_ (by dsimp only; omega)
  · rintro ⟨⟨i, ⟨⟩⟩, y⟩ j ⟨D, X, rel, h5, h6, h7, hy⟩ hj
    have ok := rel.ok
    dsimp only at h5 h6 h7 hy hj ⊢
    subst hy
    have hw1 : IntKind.wrap .i64 (i + 1) = i + 1 := wr (by omega) (by omega)
    simp only [hw1, Dk.one'] at hj ⊢
    by_cases hc : i < l.length ∧ i < 60
    · obtain ⟨hc1, hc2⟩ := hc
      simp only [decide_eq_true hc1, decide_eq_true hc2, cond_true, Option.bind_some, rdS h5 hc1]
      have hx := hwf (l[i.toNat]'(by omega)) (List.getElem_mem _)
      generalize l[i.toNat]'(by omega) = x at hx ⊢
      cases hkeep : decide ((x.2.2.2.2.1.length : Int) > 100) with
      | true => simp only [cond_true]
      | false =>
        simp only [cond_false]
        have ha := act_eq k (by omega) ok rel.xok x
        obtain ⟨r1, r2⟩ := rel.act (by omega) x hx
        rw [show counterfoillaw05_act k (X.one.1, X.one.2.1, X.one.2.2.1, X.one.2.2.2.1, X.one.2.2.2.2.1, ()) (x.1, x.2.1, x.2.2.1, x.2.2.2.1, x.2.2.2.2.1, ()) D.l D.a D.d D.f D.p = _ from ha, r1]
        simp only [Option.bind_some, Bool.not_true, cond_false, down_eq, loose_eq]
        have e1 : ((actD D x).d != (actX X x).one.2.2.2.2.1) = false := by
          show ((actD D x).d != (actX X x).g) = false
          rw [r2.g]; simp
        have e2 : ((((actD D x).p.length : Int)) != ((actX X x).one.2.1.length : Int)) = false := by
          show ((((actD D x).p.length : Int)) != (((actX X x).p.map (·.1)).length : Int)) = false
          rw [r2.p]; simp
        simp only [e1, e2, cond_false, Option.bind_some]
        exact hj _ ⟨actD D x, actX X x, r2, by dsimp only; omega, by dsimp only; omega, by have := actD_len D x; dsimp only; omega, rfl⟩ (by dsimp only; omega)
    · have hend : ∀ (A : XkT), A = X.one → loopX (fun (z28 : ((Int × Unit) × (Unit × Unit))) j29 => cond (decide (z28.1.1 < (m : Int))) ((disk_Disk_Read_v1 k z28.1.1 D.l D.a D.d D.f D.p).bind fun r30 => (counterfoilref05_Read k A z28.1.1).bind fun r31 => (cond (!(r30.1.1.toList == r31.1.1.toList)) (some ((true, ()), (), ())) (some ((r30.1.2.1 != r31.1.2.1, ()), (), ())) : Option ((Bool × Unit) × (Unit × Unit))).bind fun p32 => cond p32.1.1 (some ((false, ()), (), ())) (j29 ((IntKind.wrap .i64 (z28.1.1 + 1), ()), (), ()))) (some ((true, ()), (), ()))) k ((0, ()), (), ()) = some ((true, ()), (), ()) := by
        rintro _ rfl
        refine loopX_fun (X := (Int × Unit) × (Unit × Unit)) _ (fun z => 0 ≤ z.1.1 ∧ z.1.1 ≤ 24) (fun z => (24 - z.1.1).toNat) (fun _ => ((true, ()), (), ())) ?_ k _ ⟨by simp, by simp⟩ (by dsimp only; omega)
        rintro ⟨⟨a, ⟨⟩⟩, ⟨⟩, ⟨⟩⟩ j ⟨b0, b1⟩ hj
        dsimp only at b0 b1 hj ⊢
        by_cases hlt : a < m
        · simp only [decide_eq_true hlt, cond_true]
          rw [read_eq k (by omega) ok, xread_eq k (by omega) rel.xok, rel.read]
          simp only [Option.bind_some, beq_self_eq_true, Bool.not_true, cond_false, bne_self_eq_false, wr (show -9223372036854775808 ≤ a + 1 by omega) (by omega)]
          exact hj _ ⟨by dsimp only; omega, by dsimp only; omega⟩ (by dsimp only; omega)
        · simp only [decide_eq_false hlt, cond_false]
      by_cases hc1 : i < l.length
      · have hc2 : ¬ (i < 60) := fun h => hc ⟨hc1, h⟩
        simp only [decide_eq_true hc1, decide_eq_false hc2, cond_true, Option.bind_some, cond_false]
        exact hend _ rfl
      · simp only [decide_eq_false hc1, Option.bind_some, cond_false]
        exact hend _ rfl
  · exact ⟨Dk.new m, Xk.new m, ⟨new_ok m, xnew_ok (by omega), by omega, rfl, rfl, rfl, rfl⟩, by simp, by simp, by simp [Dk.new], rfl⟩
end Go.Vm.Dsk
namespace Go.Vm
open Go.Proofs
theorem DiskPlays_pure (x : (kdL (counterfoillaw05_DiskPlays.i 0).si.ts).T) (h : WfL (counterfoillaw05_DiskPlays.i 0).si.ts x) : ∃ k, (counterfoillaw05_DiskPlays.i k).F (x, (), ()) = some ((true, ()), (), ()) := by
  obtain ⟨n, l, ⟨⟩⟩ := x
  refine ⟨3000, Dsk.plays_eq 3000 (Nat.le_refl _) n l fun e he => ?_⟩
  have h1 : Wf (.int .i64) e.2.2.1 := (h.2.1.2 e he).2.2.1
  exact Dsk.i64_le h1
end Go.Vm
