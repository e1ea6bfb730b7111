/- The plain law DiskTwins: what the code computes is true for every input. -/
import Derived.Test.YtplbdggmaoanjaaDisk
set_option linter.unusedVariables false
set_option linter.unusedSimpArgs false
namespace Go.Vm.Dsk
open Go.Proofs Go.Vm
abbrev DkT1 := (Int × (Bool × (Bool × (List ByteArray × (List k73.T × Unit)))))
def Dk.one (D : Dk) : DkT1 := (D.l, D.a, D.d, D.f, D.p, ())
set_option maxHeartbeats 1000000 in
theorem twins_eq (k : Nat) (hk : 3000 ≤ k) (l : List k33.T) (hwf : ∀ x ∈ l, x.2.2.1 ≤ 9223372036854775807) : counterfoillaw05_DiskTwins k l = some ((true, ()), (), ()) := by
  unfold counterfoillaw05_DiskTwins
  have hn : disk_New k 5 = _ := new_eq k 5 (by omega) (by omega) (by omega)
  rw [hn]
  simp only [Option.bind_some, Sum.elim_inr, awake_eq k hk, arm_eq]
  refine loopX_fun (X := (Int × Unit) × ((DkT1 × (DkT1 × Unit)) × Unit)) _
    (fun z => ∃ D : Dk, D.Ok 5 ∧ 0 ≤ z.1.1 ∧ z.1.1 ≤ 40 ∧ (D.p.length : Int) ≤ z.1.1 ∧ z.2 = ((D.one, D.one, ()), ()))
    (fun z => (40 - z.1.1).toNat) (fun _ => ((true, ()), (), ())) ?_ k _ ?_ (by dsimp only; omega)
  · rintro ⟨⟨i, ⟨⟩⟩, y⟩ j ⟨D, ok, h5, h6, h7, hy⟩ hj
    dsimp only at h5 h6 h7 hy hj ⊢
    subst hy
    have hw1 : IntKind.wrap .i64 (i + 1) = i + 1 := wr (by omega) (by omega)
    simp only [hw1, Dk.one] at hj ⊢
    by_cases hc1 : i < l.length
    · by_cases hc2 : i < 40
      · simp only [decide_eq_true hc1, decide_eq_true hc2, cond_true, Option.bind_some, rdS h5 hc1, kind_eq]
        have hx := hwf (l[i.toNat]'(by omega)) (List.getElem_mem _)
        generalize l[i.toNat]'(by omega) = x at hx ⊢
        cases hkeep : decide ((x.2.2.2.2.1.length : Int) > 100) with
        | true => simp only [cond_true]
        | false =>
        simp only [cond_false]
        refine jn_rule (fun q => ∃ D' : Dk, D'.Ok 5 ∧ (D'.p.length : Int) ≤ i + 1 ∧ q.2 = ((D'.one, D'.one, ()), ())) ?_ ?_
        · rintro ⟨⟨⟩, y⟩ ⟨D', ok', h7', hy'⟩
          dsimp only at hy'
          subst hy'
          simp only [Dk.one]
          rw [read_eq k (by omega) ok']
          simp only [Option.bind_some, beq_self_eq_true, Bool.not_true, cond_false, bne_self_eq_false, loose_eq, down_eq]
          exact hj _ ⟨D', ok', by dsimp only; omega, by dsimp only; omega, h7', rfl⟩ (by dsimp only; omega)
        · intro j16 h16
          cases hk3 : kindN x.1 == 3 with
          | true =>
            simp only [cond_true]
            rw [flush_eq k (by omega) ok]
            simp only [Option.bind_some, bne_self_eq_false, cond_false]
            exact h16 _ ⟨D.flush.1, flush_ok ok, by have := flush_len D; omega, rfl⟩
          | false =>
            simp only [cond_false]
            cases hk5 : kindN x.1 == 5 with
            | true =>
              simp only [cond_true]
              exact h16 _ ⟨D.arm x.2.2.1, arm_ok ok hx, by show (D.p.length : Int) ≤ _; omega, rfl⟩
            | false =>
              simp only [cond_false]
              cases hk6 : kindN x.1 == 6 with
              | true =>
                simp only [cond_true]
                rw [crash_eq k (by omega) ok]
                simp only [Option.bind_some]
                exact h16 _ ⟨D.crash x.2.2.2.2.1, crash_ok ok _, by simp [Dk.crash]; omega, rfl⟩
              | false =>
                simp only [cond_false]
                rw [write_eq k ok]
                simp only [Option.bind_some, bne_self_eq_false, cond_false]
                exact h16 _ ⟨(D.write x.2.1 x.2.2.2.1).1, write_ok ok (by omega) _ _, by have := write_len D x.2.1 x.2.2.2.1; omega, by rw [← write_f D x.2.1 x.2.2.2.1]; rfl⟩
      · simp only [decide_eq_true hc1, decide_eq_false hc2, cond_true, Option.bind_some, cond_false]
    · simp only [decide_eq_false hc1, Option.bind_some, cond_false]
  · exact ⟨_, new_ok 5, by simp, by simp, by simp [Dk.new], rfl⟩
end Go.Vm.Dsk
namespace Go.Vm
open Go.Proofs
theorem DiskTwins_pure (x : (kdL (counterfoillaw05_DiskTwins.i 0).si.ts).T) (h : WfL (counterfoillaw05_DiskTwins.i 0).si.ts x) : ∃ k, (counterfoillaw05_DiskTwins.i k).F (x, (), ()) = some ((true, ()), (), ()) := by
  obtain ⟨l, ⟨⟩⟩ := x
  refine ⟨3000, Dsk.twins_eq 3000 (Nat.le_refl _) l fun e he => ?_⟩
  have h1 : Wf (.int .i64) e.2.2.1 := (h.1.2 e he).2.2.1
  exact Dsk.i64_le h1
end Go.Vm
