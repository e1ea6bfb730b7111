/- The plain law DiskFirm: what the code computes is true for every input. -/
import Derived.Test.YtplbdggmaoanjaaRef
set_option linter.unusedVariables false
set_option linter.unusedSimpArgs false
namespace Go.Vm.Dsk
open Go.Proofs Go.Vm
theorem setP_keep {f : List ByteArray} {e : Put} {at_ : Int} (h0 : 0 ≤ at_) (h1 : 0 ≤ e.1) (h2 : e.1 ≠ at_) : (setP f e)[at_.toNat]? = f[at_.toNat]? := by
  unfold setP
  rw [List.getElem?_set_ne (by omega)]
theorem foldP_keep {at_ : Int} (h0 : 0 ≤ at_) : ∀ (p : List Put) (f : List ByteArray), (∀ e ∈ p, 0 ≤ e.1 ∧ e.1 ≠ at_) → (p.foldl setP f)[at_.toNat]? = f[at_.toNat]?
  | [], f, _ => rfl
  | e :: r, f, h => by
    rw [List.foldl_cons, foldP_keep h0 r _ fun x hx => h x (List.mem_cons_of_mem _ hx), setP_keep h0 (h e (List.mem_cons_self)).1 (h e (List.mem_cons_self)).2]
theorem crashF_keep {at_ : Int} (h0 : 0 ≤ at_) : ∀ (p : List Put) ks (f : List ByteArray), (∀ e ∈ p, 0 ≤ e.1 ∧ e.1 ≠ at_) → (crashF p ks f)[at_.toNat]? = f[at_.toNat]?
  | [], _, f, _ => rfl
  | e :: r, ks, f, h => by
    rw [crashF, crashF_keep h0 r _ _ fun x hx => h x (List.mem_cons_of_mem _ hx)]
    split
    · rw [setP_keep h0 (h e (List.mem_cons_self)).1 (h e (List.mem_cons_self)).2]
    · rfl
structure Keep (n : Nat) (at_ : Int) (w : ByteArray) (D : Dk) : Prop where
  ok : D.Ok n
  firm : D.f[at_.toNat]? = some w
  no : ∀ e ∈ D.p, e.1 ≠ at_
theorem Keep.act {n : Nat} {at_ : Int} {w : ByteArray} {D : Dk} (h0 : 0 ≤ at_) (h : Keep n at_ w D) (hp : D.p.length < 1000) (x : k33.T) (hx : x.2.2.1 ≤ 9223372036854775807)
    (hk : ¬ (kindN x.1 < 3 ∧ x.2.1 = at_)) : Keep n at_ w (actD D x) := by
  refine ⟨actD_ok h.ok hp x hx, ?_, ?_⟩
  · unfold actD
    have hsf := spend_f D
    repeat' split
    · unfold Dk.flush
      repeat' split
      · exact h.firm
      · dsimp only
        rw [foldP_keep h0 _ _ fun e he => ⟨(h.ok.at_ e he).1, h.no e he⟩]; exact h.firm
      · rw [hsf]; exact h.firm
    · exact h.firm
    · exact h.firm
    · show (crashF _ _ _)[_]? = _
      rw [crashF_keep h0 _ _ _ fun e he => ⟨(h.ok.at_ e he).1, h.no e he⟩]; exact h.firm
    · rw [write_f]; exact h.firm
  · have hl := kindN_lt x.1
    have hsp := spend_p D
    unfold actD
    repeat' split
    · unfold Dk.flush
      repeat' split
      · exact h.no
      · intro e he; simp at he
      · rw [hsp]; exact h.no
    · exact h.no
    · exact h.no
    · intro e he; simp [Dk.crash] at he
    · rename_i n3 n4 n5 n6
      have hne : x.2.1 ≠ at_ := fun he => hk ⟨by omega, he⟩
      unfold Dk.write
      repeat' split
      · exact h.no
      · exact h.no
      · exact h.no
      · intro e he
        rcases List.mem_append.1 he with he | he
        · exact h.no e he
        · rw [List.mem_singleton.1 he]; exact hne
      · rw [hsp]; exact h.no
set_option maxHeartbeats 1000000 in
theorem firm_eq (k : Nat) (hk : 3000 ≤ k) (at_ : Int) (s : ByteArray) (l : List k33.T) (hwf : ∀ x ∈ l, x.2.2.1 ≤ 9223372036854775807) :
    counterfoillaw05_DiskFirm k at_ s l = some ((true, ()), (), ()) := by
  unfold counterfoillaw05_DiskFirm
  have hn : disk_New k 8 = _ := new_eq k 8 (by omega) (by omega) (by omega)
  rw [hn]
  simp only [Option.bind_some, Sum.elim_inr, awake_eq k hk]
  by_cases h1 : at_ < 0
  · simp [h1]
  by_cases h2 : at_ > 7
  · simp [h1, h2]
  by_cases h3 : 32 < s.size
  · have h4 : 32 < (s.size : Int) := by omega
    simp [h1, h2, h4]
  have h4 : ¬ (s.size : Int) > 32 := by omega
  simp only [decide_eq_false h1, decide_eq_false h2, decide_eq_false h4, cond_false, Option.bind_some]
  have hw : (Dk.new 8).write at_ s = (⟨0, false, false, (Dk.new 8).f, [(at_, pad s, ())]⟩, 0) := by
    have hl : (Dk.new 8).f.length = 8 := rfl
    unfold Dk.write
    rw [if_neg (by simp [Dk.new]), hl, if_neg (by omega), if_neg h3]
    rfl
  have ow := write_ok (new_ok 8) (by simp [Dk.new]) at_ s
  rw [write_eq k (new_ok 8)]
  rw [hw] at ow ⊢
  have hf := flush_eq k (by omega) ow
  have of := flush_ok ow
  have hfe : Dk.flush ⟨0, false, false, (Dk.new 8).f, [(at_, pad s, ())]⟩ = (⟨0, false, false, setP (Dk.new 8).f (at_, pad s, ()), []⟩, 0) := rfl
  dsimp only at hf of
  rw [hfe] at hf of
  have e1 : ((0 : Int) != 0) = false := rfl
  simp only [Option.bind_some, e1, cond_false, hf]
  generalize hg : setP (Dk.new 8).f (at_, pad s, ()) = g at of ⊢
  have hlen := of.len
  dsimp only at hlen
  have hat : g[at_.toNat]? = some (pad s) := by
    rw [← hg]
    unfold setP
    rw [List.getElem?_set_self (by simp [Dk.new]; omega)]
  have hr := read_eq k (by omega) of at_
  dsimp only at hr
  have hre : ∀ (D : Dk), D.Ok 8 → D.d = false → D.p = [] → D.f[at_.toNat]? = some (pad s) → D.read at_ = (pad s, 0) := by
    intro D od d1 d2 d3
    unfold Dk.read
    rw [if_neg (by simp [d1]), od.len, if_neg (by omega), d2, d3]
    rfl
  rw [hr, hre _ of rfl rfl hat]
  simp only [Option.bind_some]
  refine loopX_fun (X := (Int × Unit) × DkT) _
    (fun z => ∃ D : Dk, Keep 8 at_ (pad s) D ∧ 0 ≤ z.1.1 ∧ z.1.1 ≤ 40 ∧ (D.p.length : Int) ≤ z.1.1 ∧ z.2 = D.tup)
    (fun z => (40 - z.1.1).toNat) (fun _ => ((true, ()), (), ())) ?_ k _ ?_ (by dsimp only; omega)
  · rintro ⟨⟨i, ⟨⟩⟩, y⟩ j ⟨D, kp, h5, h6, h7, hy⟩ hj
    have ok := kp.ok
    dsimp only at h5 h6 h7 hy hj ⊢
    subst hy
    have hw1 : IntKind.wrap .i64 (i + 1) = i + 1 := wr (by omega) (by omega)
    simp only [hw1, Dk.tup] at hj ⊢
    by_cases hc : i < l.length ∧ i < 40
    · obtain ⟨hc1, hc2⟩ := hc
      simp only [decide_eq_true hc1, decide_eq_true hc2, cond_true, Option.bind_some, rdS h5 hc1, kind_eq]
      have hx := hwf (l[i.toNat]'(by omega)) (List.getElem_mem _)
      generalize l[i.toNat]'(by omega) = x at hx ⊢
      refine jn_rule (fun q => ∃ D' : Dk, Keep 8 at_ (pad s) D' ∧ (D'.p.length : Int) ≤ i + 1 ∧ q.2 = D'.tup) ?_ ?_
      · rintro ⟨⟨⟩, y⟩ ⟨D', kp', h7', hy'⟩
        dsimp only at hy'
        subst hy'
        exact hj _ ⟨D', kp', by dsimp only; omega, by dsimp only; omega, h7', rfl⟩ (by dsimp only; omega)
      · intro j14 h14
        have hsame : j14 ((), ((D.l, D.a, D.d, D.f, D.p, ()), ()), ()) = some ((true, ()), (), ()) := h14 _ ⟨D, kp, by omega, rfl⟩
        have hact : ¬ (kindN x.1 < 3 ∧ x.2.1 = at_) → ((counterfoillaw05_act k ([], [], [], 0, false, ()) (x.1, x.2.1, x.2.2.1, x.2.2.2.1, x.2.2.2.2.1, ()) D.l D.a D.d D.f D.p).bind fun r21 => j14 ((), ((r21.2.1.1.1, r21.2.1.1.2.1, r21.2.1.1.2.2.1, r21.2.1.1.2.2.2.1, r21.2.1.1.2.2.2.2.1, ()), ()), ())) = some ((true, ()), (), ()) := by
          intro hne
          have hX : Xk.Ok 0 ⟨[], [], 0, false⟩ := ⟨rfl, by omega, fun e he => by simp at he, by simp, by simp⟩
          have ha := act_eq k (by omega) ok hX x
          rw [show counterfoillaw05_act k ([], [], [], 0, false, ()) (x.1, x.2.1, x.2.2.1, x.2.2.2.1, x.2.2.2.2.1, ()) D.l D.a D.d D.f D.p = _ from ha]
          simp only [Option.bind_some]
          exact h14 _ ⟨actD D x, kp.act (by omega) (by omega) x hx hne, by have := actD_len D x; omega, rfl⟩
        cases hkeep : decide ((x.2.2.2.2.1.length : Int) > 100) with
        | true => simp only [cond_true, Option.bind_some]; exact hsame
        | false =>
          simp only [cond_false]
          by_cases hk3 : kindN x.1 < 3
          · simp only [decide_eq_true hk3, cond_true, Option.bind_some]
            cases hat : x.2.1 == at_ with
            | true => simp only [cond_true]; exact hsame
            | false =>
              simp only [cond_false]
              exact hact fun hh => by rw [hh.2] at hat; simp at hat
          · simp only [decide_eq_false hk3, cond_false, Option.bind_some]
            exact hact fun hh => hk3 hh.1
    · have hend : (disk_Disk_Crash k ([]) D.l D.a D.d D.f D.p).bind (fun r22 => (disk_Disk_Read_v1 k at_ r22.2.1.1.1 r22.2.1.1.2.1 r22.2.1.1.2.2.1 r22.2.1.1.2.2.2.1 r22.2.1.1.2.2.2.2.1).bind fun r23 => (cond (r23.1.1.toList == (pad s).toList) (cond ((r23.1.1.size : Int) == 32) (if 0 ≤ (s.size : Int) ∧ (s.size : Int) ≤ (r23.1.1.size : Int) then cond ((r23.1.1.extract 0 ((s.size : Int).toNat)).toList == s.toList) (cond (r23.1.2.1 == 0) (some ((true, ()), (), ())) (some ((false, ()), (), ()))) (some ((false, ()), (), ())) else none) (some ((false, ()), (), ()))) (some ((false, ()), (), ())) : Option ((Bool × Unit) × (Unit × Unit))).bind fun p25 => some ((p25.1.1, ()), (), ())) = some ((true, ()), (), ()) := by
        have oc := crash_ok ok []
        rw [crash_eq k (by omega) ok]
        simp only [Option.bind_some]
        rw [read_eq k (by omega) oc, hre _ oc rfl rfl (by
          show (crashF _ _ _)[_]? = _
          rw [crashF_keep (by omega) _ _ _ fun e he => ⟨(ok.at_ e he).1, kp.no e he⟩]; exact kp.firm)]
        have hs := pad_size (s := s) (by omega)
        have e2 : (((pad s).size : Int) == 32) = true := by rw [hs]; rfl
        have e3 : 0 ≤ (s.size : Int) ∧ (s.size : Int) ≤ ((pad s).size : Int) := by rw [hs]; omega
        have e4 : (pad s).extract 0 ((s.size : Int).toNat) = s := by
          unfold pad
          exact ByteArray.extract_append_eq_left (by simp)
        simp only [Option.bind_some, beq_self_eq_true, cond_true, e2, if_pos e3, e4]
      by_cases hc1 : i < l.length
      · have hc2 : ¬ (i < 40) := fun h => hc ⟨hc1, h⟩
        simp only [decide_eq_true hc1, decide_eq_false hc2, cond_true, Option.bind_some, cond_false]
        exact hend
      · simp only [decide_eq_false hc1, Option.bind_some, cond_false]
        exact hend
  · exact ⟨_, ⟨of, hat, fun e he => by simp at he⟩, by simp, by simp, by simp, rfl⟩
end Go.Vm.Dsk
namespace Go.Vm
open Go.Proofs
theorem DiskFirm_pure (x : (kdL (counterfoillaw05_DiskFirm.i 0).si.ts).T) (h : WfL (counterfoillaw05_DiskFirm.i 0).si.ts x) : ∃ k, (counterfoillaw05_DiskFirm.i k).F (x, (), ()) = some ((true, ()), (), ()) := by
  obtain ⟨at_, s, l, ⟨⟩⟩ := x
  refine ⟨3000, Dsk.firm_eq 3000 (Nat.le_refl _) at_ s l fun e he => ?_⟩
  have h1 : Wf (.int .i64) e.2.2.1 := (h.2.2.1.2 e he).2.2.1
  exact Dsk.i64_le h1
end Go.Vm
