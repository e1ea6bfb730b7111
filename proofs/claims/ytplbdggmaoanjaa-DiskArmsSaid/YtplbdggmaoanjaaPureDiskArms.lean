/- The plain law DiskArms: what the code computes is true for every input. -/
import Derived.Test.YtplbdggmaoanjaaDisk
set_option linter.unusedVariables false
set_option linter.unusedSimpArgs false
namespace Go.Vm.Dsk
open Go.Proofs Go.Vm
set_option maxHeartbeats 1000000 in
theorem arms_eq (k : Nat) (hk : 3000 ≤ k) (n : Int) (l : List k33.T) : counterfoillaw05_DiskArms k n l = some ((true, ()), (), ()) := by
  unfold counterfoillaw05_DiskArms
  have hn : disk_New k 5 = _ := new_eq k 5 (by omega) (by omega) (by omega)
  rw [hn]
  simp only [Option.bind_some, Sum.elim_inr, awake_eq k hk, arm_eq]
  by_cases h1 : n < 0
  · simp [h1]
  by_cases h2 : n > 40
  · simp [h1, h2]
  simp only [decide_eq_false h1, decide_eq_false h2, cond_false, Option.bind_some]
  have ho := arm_ok (new_ok 5) (m := n) (by omega)
  refine loopX_fun (X := (Int × (Int × Unit)) × DkT) _
    (fun z => ∃ D : Dk, D.Ok 5 ∧ D.a = true ∧ D.l = n - z.1.1 ∧ 0 ≤ z.1.1 ∧ z.1.1 ≤ n ∧ 0 ≤ z.1.2.1 ∧ z.1.2.1 ≤ 40 ∧ (D.p.length : Int) ≤ z.1.2.1 ∧ z.2 = D.tup ∧ (D.d = true → D.l = 0))
    (fun z => (40 - z.1.2.1).toNat) (fun _ => ((true, ()), (), ())) ?_ k _ ?_ (by dsimp only; omega)
  · rintro ⟨⟨done, i, ⟨⟩⟩, y⟩ j ⟨D, ok, ha, hl, h3, h4, h5, h6, h7, hy, hd⟩ hj
    dsimp only at hl h3 h4 h5 h6 h7 hy hj ⊢
    subst hy
    have hw1 : IntKind.wrap .i64 (i + 1) = i + 1 := wr (by omega) (by omega)
    have hw2 : IntKind.wrap .i64 (done + 1) = done + 1 := wr (by omega) (by omega)
    simp only [hw1, hw2, Dk.tup] at hj ⊢
    have fin : ((disk_Disk_Crash k ([]) D.l D.a D.d D.f D.p).bind fun r35 => ((disk_Disk_Down k r35.2.1.1.1 r35.2.1.1.2.1 r35.2.1.1.2.2.1 r35.2.1.1.2.2.2.1 r35.2.1.1.2.2.2.2.1).bind fun r36 => cond (!r36.1.1) ((disk_Disk_Write k 0 (⟨#[120]⟩ : ByteArray) r35.2.1.1.1 r35.2.1.1.2.1 r35.2.1.1.2.2.1 r35.2.1.1.2.2.2.1 r35.2.1.1.2.2.2.2.1).bind fun r37 => cond (r37.1.1 == 0) ((disk_Disk_Flush k r37.2.1.1.1 r37.2.1.1.2.1 r37.2.1.1.2.2.1 r35.2.1.1.2.2.2.1 r37.2.1.1.2.2.2.2.1).bind fun r38 => cond (r38.1.1 == 0) (some ((true, ()), ((r38.2.1.1.1, r38.2.1.1.2.1, r38.2.1.1.2.2.1, r38.2.1.1.2.2.2.1, r38.2.1.1.2.2.2.2.1, ()), ()), ())) (some ((false, ()), ((r38.2.1.1.1, r38.2.1.1.2.1, r38.2.1.1.2.2.1, r38.2.1.1.2.2.2.1, r38.2.1.1.2.2.2.2.1, ()), ()), ()))) (some ((false, ()), ((r37.2.1.1.1, r37.2.1.1.2.1, r37.2.1.1.2.2.1, r35.2.1.1.2.2.2.1, r37.2.1.1.2.2.2.2.1, ()), ()), ()))) (some ((false, ()), ((r35.2.1.1.1, r35.2.1.1.2.1, r35.2.1.1.2.2.1, r35.2.1.1.2.2.2.1, r35.2.1.1.2.2.2.2.1, ()), ()), ())) : Option ((Bool × Unit) × DkT)).bind fun p40 => some ((p40.1.1, ()), (), ())) = some ((true, ()), (), ()) := by
      have oc := crash_ok ok []
      have wc : (D.crash []).write 0 ⟨#[120]⟩ = ({ D.crash [] with p := [(0, pad ⟨#[120]⟩, ())] }, 0) := by
        have : ¬ ((0 : Int) < 0 ∨ ((D.crash []).f.length : Int) ≤ 0) := by rw [oc.len]; decide
        unfold Dk.write
        rw [if_neg (by simp [Dk.crash]), if_neg this, if_neg (by decide)]
        rfl
      have ow := write_ok oc (by simp [Dk.crash]) 0 ⟨#[120]⟩
      have hfl : ((D.crash []).write 0 ⟨#[120]⟩).1.flush.2 = 0 := by rw [wc]; rfl
      rw [crash_eq k (by omega) ok]
      have e1 : (D.crash []).d = false := rfl
      have e2 : (((D.crash []).write 0 ⟨#[120]⟩).2 == 0) = true := by rw [wc]; rfl
      simp only [Option.bind_some, down_eq, e1, Bool.not_false, cond_true]
      rw [← e1, write_eq k oc]
      simp only [Option.bind_some, e2, cond_true]
      rw [← write_f (D.crash []) 0 ⟨#[120]⟩, flush_eq k (by omega) ow]
      simp only [Option.bind_some, hfl]
      rfl
    by_cases hc : i < l.length ∧ i < 40
    · obtain ⟨hc1, hc2⟩ := hc
      simp only [decide_eq_true hc1, decide_eq_true hc2, cond_true, Option.bind_some, rdS h5 hc1, kind_eq]
      refine jn_rule (fun q => ∃ D' : Dk, D'.Ok 5 ∧ D'.a = true ∧ D'.l = n - q.1.1 ∧ 0 ≤ q.1.1 ∧ q.1.1 ≤ n ∧ (D'.p.length : Int) ≤ i + 1 ∧ q.2 = D'.tup ∧ (D'.d = true → D'.l = 0)) ?_ ?_
      · rintro ⟨⟨done', ⟨⟩⟩, y⟩ ⟨D', ok', ha', hl', h3', h4', h7', hy', hd'⟩
        dsimp only at hl' h3' h4' h7' hy'
        subst hy'
        exact hj _ ⟨D', ok', ha', hl', h3', h4', by dsimp only; omega, by dsimp only; omega, h7', rfl, hd'⟩ (by dsimp only; omega)
      · intro j11 h11
        refine jn_rule (fun q => ∃ D' : Dk, D'.Ok 5 ∧ D'.a = true ∧ (D'.p.length : Int) ≤ i + 1 ∧ q.2 = D'.tup ∧ ((q.1.1 = 0 ∧ D'.d = false ∧ D'.l = D.l - 1 ∧ D.l ≠ 0) ∨ (q.1.1 = 7 ∧ D'.d = true ∧ D'.l = 0 ∧ D.l = 0) ∨ (q.1.1 ≠ 0 ∧ q.1.1 ≠ 7 ∧ D'.d = false ∧ D'.l = D.l))) ?_ ?_
        · rintro ⟨⟨e, ⟨⟩⟩, y⟩ ⟨D', ok', ha', h7', hy', hh⟩
          dsimp only at h7' hy' hh
          subst hy'
          simp only [jn, Dk.tup, down_eq]
          rcases hh with ⟨he, hd', hl', hl0⟩ | ⟨he, hd', hl', hl0⟩ | ⟨he, he7, hd', hl'⟩
          · subst he
            have e1 : ¬ (done + 1 > n) := by omega
            have e2 : ((false != ((0 : Int) == 7)) : Bool) = false := by decide
            have e3 : ((0 : Int) == 7) = false := by decide
            have e4 : ((0 : Int) == 0) = true := by decide
            simp only [e4, cond_true, decide_eq_false e1, cond_false, Option.bind_some, hd', e3, bne_self_eq_false]
            rw [← hd']
            exact h11 _ ⟨D', ok', ha', by dsimp only; omega, by dsimp only; omega, by dsimp only; omega, h7', rfl, by simp [hd']⟩
          · subst he
            have e0 : done = n := by omega
            have e1 : ¬ (done > n) := by omega
            have e2 : ((true != ((7 : Int) == 7)) : Bool) = false := by decide
            have e3 : ((7 : Int) == 7) = true := by decide
            have e4 : ((7 : Int) == 0) = false := by decide
            have e5 : (done != n) = false := by rw [e0]; simp
            simp only [e4, cond_true, decide_eq_false e1, cond_false, Option.bind_some, hd', e3, e5, bne_self_eq_false]
            have hq := h11 ((done, ()), D'.tup) ⟨D', ok', ha', by dsimp only; omega, by dsimp only; omega, by dsimp only; omega, h7', rfl, fun _ => hl'⟩
            unfold Dk.tup at hq
            rw [hd'] at hq
            exact hq
          · have e1 : ¬ (done > n) := by omega
            have e3 : (e == 7) = false := by simpa using he7
            have e4 : (e == 0) = false := by simpa using he
            simp only [e4, cond_true, decide_eq_false e1, cond_false, Option.bind_some, hd', e3, bne_self_eq_false]
            rw [← hd']
            exact h11 _ ⟨D', ok', ha', by dsimp only; omega, by dsimp only; omega, by dsimp only; omega, h7', rfl, by simp [hd']⟩
        · intro j13 h13
          have hfl : ∀ j, (j = j13) → ((disk_Disk_Flush k D.l D.a D.d D.f D.p).bind fun r24 => j ((r24.1.1, ()), ((r24.2.1.1.1, r24.2.1.1.2.1, r24.2.1.1.2.2.1, r24.2.1.1.2.2.2.1, r24.2.1.1.2.2.2.2.1, ()), ()), ())) = some ((true, ()), (), ()) := by
            rintro j rfl
            rw [flush_eq k (by omega) ok]
            simp only [Option.bind_some]
            obtain ⟨f1, f2⟩ := flush_armed ok ha hd
            exact h13 _ ⟨D.flush.1, flush_ok ok, f1, by have := flush_len D; omega, rfl, by rcases f2 with f2 | f2 <;> simp [f2]⟩
          have hno : j11 ((done, ()), ((D.l, D.a, D.d, D.f, D.p, ()), ()), ()) = some ((true, ()), (), ()) := h11 _ ⟨D, ok, ha, hl, h3, h4, by omega, rfl, hd⟩
          have hwr : ∀ (i' : Int) (s : ByteArray), ((disk_Disk_Write k i' s D.l D.a D.d D.f D.p).bind fun r22 => some ((r22.1.1, ()), ((r22.2.1.1.1, r22.2.1.1.2.1, r22.2.1.1.2.2.1, (), r22.2.1.1.2.2.2.2.1, ()), ()), ()) : Option ((Int × Unit) × (((Int × (Bool × (Bool × (Unit × (List k73.T × Unit))))) × Unit) × Unit))).bind (fun p23 => j13 ((p23.1.1, ()), ((p23.2.1.1.1, p23.2.1.1.2.1, p23.2.1.1.2.2.1, D.f, p23.2.1.1.2.2.2.2.1, ()), ()), ())) = some ((true, ()), (), ()) := by
            intro i' s
            rw [write_eq k ok]
            simp only [Option.bind_some]
            obtain ⟨f1, f2⟩ := write_armed ok ha hd i' s
            exact h13 _ ⟨(D.write i' s).1, write_ok ok (by omega) i' s, f1, by have := write_len D i' s; omega, by rw [← write_f D i' s]; rfl, f2⟩
          cases hk0 : kindN (l[i.toNat]'(by omega)).1 == 0 with
          | true => simp only [hk0, cond_true]; exact hwr _ _
          | false =>
            simp only [hk0, cond_false]
            cases hk1 : kindN (l[i.toNat]'(by omega)).1 == 1 with
            | true => simp only [hk1, cond_true]; exact hwr _ _
            | false =>
              simp only [hk1, cond_false]
              cases hk2 : kindN (l[i.toNat]'(by omega)).1 == 2 with
              | true => simp only [hk2, cond_true]; exact hwr _ _
              | false =>
                simp only [hk2, cond_false]
                cases hk3 : kindN (l[i.toNat]'(by omega)).1 == 3 with
                | true => simp only [hk3, cond_true]; exact hfl _ rfl
                | false => simp only [hk3, cond_false]; exact hno
    · by_cases hc1 : i < l.length
      · have hc2 : ¬ (i < 40) := fun h => hc ⟨hc1, h⟩
        simp only [decide_eq_true hc1, decide_eq_false hc2, cond_true, Option.bind_some, cond_false]
        exact fin
      · simp only [decide_eq_false hc1, Option.bind_some, cond_false]
        exact fin
  · exact ⟨_, ho, decide_eq_true (by omega), by simp [Dk.arm], by simp, by dsimp only; omega, by simp, by simp, by simp [Dk.arm, Dk.new], rfl, by simp [Dk.arm, Dk.new]⟩
end Go.Vm.Dsk
namespace Go.Vm
open Go.Proofs
theorem DiskArms_pure (x : (kdL (counterfoillaw05_DiskArms.i 0).si.ts).T) (h : WfL (counterfoillaw05_DiskArms.i 0).si.ts x) : ∃ k, (counterfoillaw05_DiskArms.i k).F (x, (), ()) = some ((true, ()), (), ()) := by
  obtain ⟨n, l, ⟨⟩⟩ := x
  exact ⟨3000, Dsk.arms_eq 3000 (Nat.le_refl _) n l⟩
end Go.Vm
