/- Proved: the given statement diskPlays holds, as it is stated, with no condition. -/
import Derived.Test.YtplbdggmaoanjaaRows
import Derived.Test.YtplbdggmaoanjaaPureDiskPlays
import Derived.ShutString
import Derived.WalkKit
namespace Go.Proofs.Ytplbdggmaoanjaa.diskPlays
open Go.ChangeShapes Go.WideShapes Go.ChangeAt Go.RowKit Go.Vm
set_option linter.unusedVariables false
theorem own : ownKnob Try.prog.godebug = none := by kernel_rfl
theorem laidOut : laidOutB Try.prog = true := by kernel_rfl
set_option maxRecDepth 100000 in
theorem lifted (os : Os) (started : os.Started) (H : Type) (enc : TypeId × Value → H) :
    ReturnsInHanded {} Try.checked os 6 .any (Rows.diskPlaysSpec.pre6 enc Try.prog Try.f6 Rows.diskPlaysRow.domain false) (Rows.diskPlaysSpec.post enc Try.prog Try.f6 false true false false) := by
  refine returnsInHanded_of_change_sized (C := Try.checked) own started (by kernel_rfl) Try.func6
    (ChangeSpec.witness6 (enc := enc) (C := Try.checked) false ⟨#[], #[.int .i64 0, .slice none 0 0], []⟩ 8 (by kernel_rfl) (by kernel_rfl) (by kernel_rfl) (by kernel_rfl)) ?_
  intro W base args ds gs before hval0 hW hcnd hsz0 _
  have hval : ∀ (j : Nat) t v, Try.f6.params.toList[j]? = some t → args.toList[j]? = some v → Value.okWide Try.prog W .any base t v := fun j t v h1 h2 => hval0 j t v (by simpa using h1) (by simpa using h2)
  have hW' := hW
  obtain ⟨p, q, hA, hV, rfl, hfz, hnd⟩ := hW
  obtain ⟨rfl, rfl⟩ := trodVars_none hV
  have hl : ds.length = 2 := trodAll_len hA
  obtain ⟨d0, d1, rfl⟩ : ∃ d0 d1, ds = [d0, d1] := by
    rcases ds with _ | ⟨d0, _ | ⟨d1, _ | ⟨dd, rr⟩⟩⟩ <;> first | exact ⟨_, _, rfl⟩ | (exfalso; simp at hl)
  obtain ⟨x, hx, hwf⟩ := args_rd (g := ⟨Old W, fun _ => 0, fun _ => Go.Vm.nilSlice⟩) rfl (counterfoillaw05_DiskPlays.i 0).si.ts Try.f6.params.toList args.toList _ p (by kernel_rfl) hA hval
  obtain ⟨k, hk⟩ := DiskPlays_pure x hwf
  refine (law_calls (F := counterfoillaw05_DiskPlays.i k) (counterfoillaw05_DiskPlays.ok k) (x := (x, (), ())) (z := ((true, ()), (), ())) hk hx rfl (by rintro _ _ ⟨rfl, rfl⟩; rfl)).mono fun e W' ⟨he, bel⟩ => ?_
  subst he
  exact ⟨_, rfl, _, _, _, [], _, [], hW', trodAll_mk1 (shut_bool Try.underlying4 _), args_back laidOut bel (counterfoillaw05_DiskPlays.i 0).si.ts _ _ _ _ (by kernel_rfl) hA, rfl, bel.frame _, fun h => by cases h⟩
theorem over : Rows.diskPlaysRow.holds Try.pinned (OpenSpec.ofChange Rows.diskPlaysSpec) :=
  OpenClaim.holds_of_wide 6 Try.f6 rfl rfl rfl rfl rfl rfl rfl ⟨rfl, rfl, rfl, rfl, rfl⟩ rfl rfl rfl rfl rfl (by kernel_rfl) Try.func6 (by kernel_rfl)
    (of_decide_eq_true (by kernel_rfl)) (by unfold Func.isWrapper; first | (rw [if_pos (by decide +kernel)]; kernel_rfl) | (rw [if_neg (by decide +kernel)]; exact ⟨rfl, rfl⟩))
    (fun os started H enc _ => lifted os started H enc)
end Go.Proofs.Ytplbdggmaoanjaa.diskPlays
namespace Go.Proofs.Ytplbdggmaoanjaa
/-- The row. -/
theorem diskPlays_holds : Rows.DiskPlaysSaid := diskPlays.over
#print axioms diskPlays_holds
end Go.Proofs.Ytplbdggmaoanjaa
