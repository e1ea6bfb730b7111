/- Each function of the program keeps its plain contract. -/
import Derived.Test.YtplbdggmaoanjaaFns
import Derived.Test.YtplbdggmaoanjaaVmLaw
import Derived.Test.YtplbdggmaoanjaaChecked
import Derived.Test.YtplbdggmaoanjaaShelf
set_option linter.unusedVariables false
namespace Go.Vm
open Go.Proofs
set_option maxRecDepth 100000
theorem mixed : Try.prog.follows .mixedOrders = true := by kernel_rfl
theorem tys_is : ∀ t i, tys t = some i → TyIs Try.prog t i := by
  intro t i h
  by_cases ht : t < 75
  · exact tysOk_is (n := 75) (by kernel_rfl) t i ht h
  · exfalso
    unfold tys at h
    split at h <;> first | exact ht (by decide) | cases h
theorem strings_Repeat_some {k : Nat} {s : ByteArray} {c : Int} {z : (ByteArray × Unit) × (Unit × Unit)} (hz : strings_Repeat k s c = some z) :
    ∃ n : Nat, c = n ∧ n ≤ 9223372036854775807 ∧ s.size * n ≤ 140737488355328 ∧ z = ((⟨(Lib.repeatL s.data.toList n).toArray⟩, ()), (), ()) := by
  unfold strings_Repeat at hz
  split at hz
  · rename_i hc
    obtain ⟨h1, h2, h3⟩ := hc
    injection hz with hz
    obtain ⟨n, rfl⟩ := Int.eq_ofNat_of_zero_le h1
    refine ⟨n, rfl, by omega, ?_, hz.symm⟩
    rw [← Int.natCast_mul] at h3
    generalize s.size * n = q at h3 ⊢
    omega
  · cases hz
theorem strings_Repeat.ok (k : Nat) : FnOk Try.prog 31 (strings_Repeat.i k) := by
  refine fn_plain (by kernel_rfl) ⟨_, Try.func31, by rfl, by decide +kernel⟩ ?_
  rintro ⟨⟨s, c, u⟩, u2, u3⟩ z hz w g vals hargs
  obtain ⟨n, rfl, h6, h5, rfl⟩ := strings_Repeat_some (k := k) (s := s) (c := c) hz
  have hv : vals = #[.string s, .int .i64 (n : Int)] := by
    cases hargs' : vals.toList with
    | nil => rw [hargs'] at hargs; cases hargs
    | cons v1 r =>
      rw [hargs'] at hargs
      cases hargs with
      | cons h1 h2 =>
        cases h2 with
        | cons h3 h4 =>
          cases h4
          have e1 : v1 = .string s := h1
          rename_i v2
          have e2 : v2 = .int .i64 (n : Int) := h3
          rw [← Array.toArray_toList (xs := vals), hargs', e1, e2]
  rw [hv]
  refine (Try.repeat_calls s n w h6 h5).mono ?_
  rintro e w' ⟨rfl, hb⟩
  exact ⟨_, rfl, hb, _, _, ⟨rfl, rfl⟩, rfl, fun g' => rfl⟩
theorem disk_New.ok (k : Nat) : FnOk Try.prog 8 (disk_New.i k) := fn_ok (E := disk_New.e k) (k := k) ⟨⟨tys_is⟩, ⟨fun f v F h => FnsOk.look (l := [(31, 0, strings_Repeat.i k)]) (v := v) (.cons (strings_Repeat.ok k) (.nil)) h⟩, mixed⟩ Try.func8 (by decide +kernel) (by rfl) (by kernel_rfl) (disk_New.eq k)

theorem disk_Disk_Down.ok (k : Nat) : FnOk Try.prog 17 (disk_Disk_Down.i k) := fn_ok (E := disk_Disk_Down.e k) (k := k) ⟨⟨tys_is⟩, ⟨fun f v F h => FnsOk.look (l := []) (v := v) (.nil) h⟩, mixed⟩ Try.func17 (by decide +kernel) (by rfl) (by kernel_rfl) (disk_Disk_Down.eq k)

theorem disk_power_spend.ok (k : Nat) : FnOk Try.prog 32 (disk_power_spend.i k) := fn_ok (E := disk_power_spend.e k) (k := k) ⟨⟨tys_is⟩, ⟨fun f v F h => FnsOk.look (l := []) (v := v) (.nil) h⟩, mixed⟩ Try.func32 (by decide +kernel) (by rfl) (by kernel_rfl) (disk_power_spend.eq k)

theorem disk_Disk_Write.ok (k : Nat) : FnOk Try.prog 10 (disk_Disk_Write.i k) := fn_ok (E := disk_Disk_Write.e k) (k := k) ⟨⟨tys_is⟩, ⟨fun f v F h => FnsOk.look (l := [(17, 0, disk_Disk_Down.i k), (31, 0, strings_Repeat.i k), (32, 0, disk_power_spend.i k)]) (v := v) (.cons (disk_Disk_Down.ok k) (.cons (strings_Repeat.ok k) (.cons (disk_power_spend.ok k) (.nil)))) h⟩, mixed⟩ Try.func10 (by decide +kernel) (by rfl) (by kernel_rfl) (disk_Disk_Write.eq k)

theorem disk_Disk_Loose.ok (k : Nat) : FnOk Try.prog 18 (disk_Disk_Loose.i k) := fn_ok (E := disk_Disk_Loose.e k) (k := k) ⟨⟨tys_is⟩, ⟨fun f v F h => FnsOk.look (l := []) (v := v) (.nil) h⟩, mixed⟩ Try.func18 (by decide +kernel) (by rfl) (by kernel_rfl) (disk_Disk_Loose.eq k)

theorem disk_Disk_Down_v1.ok (k : Nat) : FnOk Try.prog 17 (disk_Disk_Down_v1.i k) := fn_ok (E := disk_Disk_Down_v1.e k) (k := k) ⟨⟨tys_is⟩, ⟨fun f v F h => FnsOk.look (l := []) (v := v) (.nil) h⟩, mixed⟩ Try.func17 (by decide +kernel) (by rfl) (by kernel_rfl) (disk_Disk_Down_v1.eq k)

theorem disk_Disk_Read.ok (k : Nat) : FnOk Try.prog 12 (disk_Disk_Read.i k) := fn_ok (E := disk_Disk_Read.e k) (k := k) ⟨⟨tys_is⟩, ⟨fun f v F h => FnsOk.look (l := [(17, 0, disk_Disk_Down_v1.i k)]) (v := v) (.cons (disk_Disk_Down_v1.ok k) (.nil)) h⟩, mixed⟩ Try.func12 (by decide +kernel) (by rfl) (by kernel_rfl) (disk_Disk_Read.eq k)

theorem disk_Disk_Read_v1.ok (k : Nat) : FnOk Try.prog 12 (disk_Disk_Read_v1.i k) := fn_ok (E := disk_Disk_Read_v1.e k) (k := k) ⟨⟨tys_is⟩, ⟨fun f v F h => FnsOk.look (l := [(17, 0, disk_Disk_Down.i k)]) (v := v) (.cons (disk_Disk_Down.ok k) (.nil)) h⟩, mixed⟩ Try.func12 (by decide +kernel) (by rfl) (by kernel_rfl) (disk_Disk_Read_v1.eq k)

theorem counterfoillaw05_awake.ok (k : Nat) : FnOk Try.prog 9 (counterfoillaw05_awake.i k) := fn_ok (E := counterfoillaw05_awake.e k) (k := k) ⟨⟨tys_is⟩, ⟨fun f v F h => FnsOk.look (l := [(8, 0, disk_New.i k), (10, 0, disk_Disk_Write.i k), (12, 0, disk_Disk_Read.i k), (12, 1, disk_Disk_Read_v1.i k), (18, 0, disk_Disk_Loose.i k)]) (v := v) (.cons (disk_New.ok k) (.cons (disk_Disk_Write.ok k) (.cons (disk_Disk_Read.ok k) (.cons (disk_Disk_Read_v1.ok k) (.cons (disk_Disk_Loose.ok k) (.nil)))))) h⟩, mixed⟩ Try.func9 (by decide +kernel) (by rfl) (by kernel_rfl) (counterfoillaw05_awake.eq k)

theorem disk_Disk_Flush.ok (k : Nat) : FnOk Try.prog 11 (disk_Disk_Flush.i k) := fn_ok (E := disk_Disk_Flush.e k) (k := k) ⟨⟨tys_is⟩, ⟨fun f v F h => FnsOk.look (l := [(17, 0, disk_Disk_Down.i k), (32, 0, disk_power_spend.i k)]) (v := v) (.cons (disk_Disk_Down.ok k) (.cons (disk_power_spend.ok k) (.nil))) h⟩, mixed⟩ Try.func11 (by decide +kernel) (by rfl) (by kernel_rfl) (disk_Disk_Flush.eq k)

theorem counterfoillaw05_kind.ok (k : Nat) : FnOk Try.prog 13 (counterfoillaw05_kind.i k) := fn_ok (E := counterfoillaw05_kind.e k) (k := k) ⟨⟨tys_is⟩, ⟨fun f v F h => FnsOk.look (l := []) (v := v) (.nil) h⟩, mixed⟩ Try.func13 (by decide +kernel) (by rfl) (by kernel_rfl) (counterfoillaw05_kind.eq k)

theorem counterfoilref05_Copy.ok (k : Nat) : FnOk Try.prog 60 (counterfoilref05_Copy.i k) := fn_ok (E := counterfoilref05_Copy.e k) (k := k) ⟨⟨tys_is⟩, ⟨fun f v F h => FnsOk.look (l := []) (v := v) (.nil) h⟩, mixed⟩ Try.func60 (by decide +kernel) (by rfl) (by kernel_rfl) (counterfoilref05_Copy.eq k)

theorem counterfoilref05_spend.ok (k : Nat) : FnOk Try.prog 61 (counterfoilref05_spend.i k) := fn_ok (E := counterfoilref05_spend.e k) (k := k) ⟨⟨tys_is⟩, ⟨fun f v F h => FnsOk.look (l := []) (v := v) (.nil) h⟩, mixed⟩ Try.func61 (by decide +kernel) (by rfl) (by kernel_rfl) (counterfoilref05_spend.eq k)

theorem counterfoilref05_Copy_v1.ok (k : Nat) : FnOk Try.prog 60 (counterfoilref05_Copy_v1.i k) := fn_ok (E := counterfoilref05_Copy_v1.e k) (k := k) ⟨⟨tys_is⟩, ⟨fun f v F h => FnsOk.look (l := []) (v := v) (.nil) h⟩, mixed⟩ Try.func60 (by decide +kernel) (by rfl) (by kernel_rfl) (counterfoilref05_Copy_v1.eq k)

theorem counterfoilref05_Crash.ok (k : Nat) : FnOk Try.prog 35 (counterfoilref05_Crash.i k) := fn_ok (E := counterfoilref05_Crash.e k) (k := k) ⟨⟨tys_is⟩, ⟨fun f v F h => FnsOk.look (l := [(60, 0, counterfoilref05_Copy_v1.i k)]) (v := v) (.cons (counterfoilref05_Copy_v1.ok k) (.nil)) h⟩, mixed⟩ Try.func35 (by decide +kernel) (by rfl) (by kernel_rfl) (counterfoilref05_Crash.eq k)

theorem counterfoilref05_Flush.ok (k : Nat) : FnOk Try.prog 33 (counterfoilref05_Flush.i k) := fn_ok (E := counterfoilref05_Flush.e k) (k := k) ⟨⟨tys_is⟩, ⟨fun f v F h => FnsOk.look (l := [(35, 0, counterfoilref05_Crash.i k), (60, 0, counterfoilref05_Copy.i k), (61, 0, counterfoilref05_spend.i k)]) (v := v) (.cons (counterfoilref05_Crash.ok k) (.cons (counterfoilref05_Copy.ok k) (.cons (counterfoilref05_spend.ok k) (.nil)))) h⟩, mixed⟩ Try.func33 (by decide +kernel) (by rfl) (by kernel_rfl) (counterfoilref05_Flush.eq k)

theorem counterfoilref05_Read.ok (k : Nat) : FnOk Try.prog 21 (counterfoilref05_Read.i k) := fn_ok (E := counterfoilref05_Read.e k) (k := k) ⟨⟨tys_is⟩, ⟨fun f v F h => FnsOk.look (l := []) (v := v) (.nil) h⟩, mixed⟩ Try.func21 (by decide +kernel) (by rfl) (by kernel_rfl) (counterfoilref05_Read.eq k)

theorem disk_Disk_Arm.ok (k : Nat) : FnOk Try.prog 16 (disk_Disk_Arm.i k) := fn_ok (E := disk_Disk_Arm.e k) (k := k) ⟨⟨tys_is⟩, ⟨fun f v F h => FnsOk.look (l := []) (v := v) (.nil) h⟩, mixed⟩ Try.func16 (by decide +kernel) (by rfl) (by kernel_rfl) (disk_Disk_Arm.eq k)

theorem counterfoilref05_Arm.ok (k : Nat) : FnOk Try.prog 34 (counterfoilref05_Arm.i k) := fn_ok (E := counterfoilref05_Arm.e k) (k := k) ⟨⟨tys_is⟩, ⟨fun f v F h => FnsOk.look (l := []) (v := v) (.nil) h⟩, mixed⟩ Try.func34 (by decide +kernel) (by rfl) (by kernel_rfl) (counterfoilref05_Arm.eq k)

theorem disk_Disk_Crash.ok (k : Nat) : FnOk Try.prog 15 (disk_Disk_Crash.i k) := fn_ok (E := disk_Disk_Crash.e k) (k := k) ⟨⟨tys_is⟩, ⟨fun f v F h => FnsOk.look (l := []) (v := v) (.nil) h⟩, mixed⟩ Try.func15 (by decide +kernel) (by rfl) (by kernel_rfl) (disk_Disk_Crash.eq k)

theorem counterfoilref05_Copy_v2.ok (k : Nat) : FnOk Try.prog 60 (counterfoilref05_Copy_v2.i k) := fn_ok (E := counterfoilref05_Copy_v2.e k) (k := k) ⟨⟨tys_is⟩, ⟨fun f v F h => FnsOk.look (l := []) (v := v) (.nil) h⟩, mixed⟩ Try.func60 (by decide +kernel) (by rfl) (by kernel_rfl) (counterfoilref05_Copy_v2.eq k)

theorem counterfoilref05_spend_v1.ok (k : Nat) : FnOk Try.prog 61 (counterfoilref05_spend_v1.i k) := fn_ok (E := counterfoilref05_spend_v1.e k) (k := k) ⟨⟨tys_is⟩, ⟨fun f v F h => FnsOk.look (l := []) (v := v) (.nil) h⟩, mixed⟩ Try.func61 (by decide +kernel) (by rfl) (by kernel_rfl) (counterfoilref05_spend_v1.eq k)

theorem counterfoilref05_Pad.ok (k : Nat) : FnOk Try.prog 37 (counterfoilref05_Pad.i k) := fn_ok (E := counterfoilref05_Pad.e k) (k := k) ⟨⟨tys_is⟩, ⟨fun f v F h => FnsOk.look (l := []) (v := v) (.nil) h⟩, mixed⟩ Try.func37 (by decide +kernel) (by rfl) (by kernel_rfl) (counterfoilref05_Pad.eq k)

theorem counterfoilref05_Copy_v3.ok (k : Nat) : FnOk Try.prog 60 (counterfoilref05_Copy_v3.i k) := fn_ok (E := counterfoilref05_Copy_v3.e k) (k := k) ⟨⟨tys_is⟩, ⟨fun f v F h => FnsOk.look (l := []) (v := v) (.nil) h⟩, mixed⟩ Try.func60 (by decide +kernel) (by rfl) (by kernel_rfl) (counterfoilref05_Copy_v3.eq k)

theorem counterfoilref05_spend_v2.ok (k : Nat) : FnOk Try.prog 61 (counterfoilref05_spend_v2.i k) := fn_ok (E := counterfoilref05_spend_v2.e k) (k := k) ⟨⟨tys_is⟩, ⟨fun f v F h => FnsOk.look (l := []) (v := v) (.nil) h⟩, mixed⟩ Try.func61 (by decide +kernel) (by rfl) (by kernel_rfl) (counterfoilref05_spend_v2.eq k)

theorem counterfoilref05_Write.ok (k : Nat) : FnOk Try.prog 36 (counterfoilref05_Write.i k) := fn_ok (E := counterfoilref05_Write.e k) (k := k) ⟨⟨tys_is⟩, ⟨fun f v F h => FnsOk.look (l := [(37, 0, counterfoilref05_Pad.i k), (60, 0, counterfoilref05_Copy_v3.i k), (61, 0, counterfoilref05_spend_v2.i k)]) (v := v) (.cons (counterfoilref05_Pad.ok k) (.cons (counterfoilref05_Copy_v3.ok k) (.cons (counterfoilref05_spend_v2.ok k) (.nil)))) h⟩, mixed⟩ Try.func36 (by decide +kernel) (by rfl) (by kernel_rfl) (counterfoilref05_Write.eq k)

theorem counterfoillaw05_act.ok (k : Nat) : FnOk Try.prog 14 (counterfoillaw05_act.i k) := fn_ok (E := counterfoillaw05_act.e k) (k := k) ⟨⟨tys_is⟩, ⟨fun f v F h => FnsOk.look (l := [(10, 0, disk_Disk_Write.i k), (11, 0, disk_Disk_Flush.i k), (12, 0, disk_Disk_Read_v1.i k), (13, 0, counterfoillaw05_kind.i k), (15, 0, disk_Disk_Crash.i k), (16, 0, disk_Disk_Arm.i k), (21, 0, counterfoilref05_Read.i k), (33, 0, counterfoilref05_Flush.i k), (34, 0, counterfoilref05_Arm.i k), (35, 0, counterfoilref05_Crash.i k), (36, 0, counterfoilref05_Write.i k)]) (v := v) (.cons (disk_Disk_Write.ok k) (.cons (disk_Disk_Flush.ok k) (.cons (disk_Disk_Read_v1.ok k) (.cons (counterfoillaw05_kind.ok k) (.cons (disk_Disk_Crash.ok k) (.cons (disk_Disk_Arm.ok k) (.cons (counterfoilref05_Read.ok k) (.cons (counterfoilref05_Flush.ok k) (.cons (counterfoilref05_Arm.ok k) (.cons (counterfoilref05_Crash.ok k) (.cons (counterfoilref05_Write.ok k) (.nil)))))))))))) h⟩, mixed⟩ Try.func14 (by decide +kernel) (by rfl) (by kernel_rfl) (counterfoillaw05_act.eq k)

theorem counterfoillaw05_DiskFirm.ok (k : Nat) : FnOk Try.prog 3 (counterfoillaw05_DiskFirm.i k) := fn_ok (E := counterfoillaw05_DiskFirm.e k) (k := k) ⟨⟨tys_is⟩, ⟨fun f v F h => FnsOk.look (l := [(8, 0, disk_New.i k), (9, 0, counterfoillaw05_awake.i k), (10, 0, disk_Disk_Write.i k), (11, 0, disk_Disk_Flush.i k), (12, 0, disk_Disk_Read_v1.i k), (13, 0, counterfoillaw05_kind.i k), (14, 0, counterfoillaw05_act.i k), (15, 0, disk_Disk_Crash.i k)]) (v := v) (.cons (disk_New.ok k) (.cons (counterfoillaw05_awake.ok k) (.cons (disk_Disk_Write.ok k) (.cons (disk_Disk_Flush.ok k) (.cons (disk_Disk_Read_v1.ok k) (.cons (counterfoillaw05_kind.ok k) (.cons (counterfoillaw05_act.ok k) (.cons (disk_Disk_Crash.ok k) (.nil))))))))) h⟩, mixed⟩ Try.func3 (by decide +kernel) (by rfl) (by kernel_rfl) (counterfoillaw05_DiskFirm.eq k)

theorem counterfoillaw05_DiskArms.ok (k : Nat) : FnOk Try.prog 4 (counterfoillaw05_DiskArms.i k) := fn_ok (E := counterfoillaw05_DiskArms.e k) (k := k) ⟨⟨tys_is⟩, ⟨fun f v F h => FnsOk.look (l := [(8, 0, disk_New.i k), (9, 0, counterfoillaw05_awake.i k), (10, 0, disk_Disk_Write.i k), (11, 0, disk_Disk_Flush.i k), (13, 0, counterfoillaw05_kind.i k), (15, 0, disk_Disk_Crash.i k), (16, 0, disk_Disk_Arm.i k), (17, 0, disk_Disk_Down.i k)]) (v := v) (.cons (disk_New.ok k) (.cons (counterfoillaw05_awake.ok k) (.cons (disk_Disk_Write.ok k) (.cons (disk_Disk_Flush.ok k) (.cons (counterfoillaw05_kind.ok k) (.cons (disk_Disk_Crash.ok k) (.cons (disk_Disk_Arm.ok k) (.cons (disk_Disk_Down.ok k) (.nil))))))))) h⟩, mixed⟩ Try.func4 (by decide +kernel) (by rfl) (by kernel_rfl) (counterfoillaw05_DiskArms.eq k)

theorem counterfoillaw05_DiskTwins.ok (k : Nat) : FnOk Try.prog 5 (counterfoillaw05_DiskTwins.i k) := fn_ok (E := counterfoillaw05_DiskTwins.e k) (k := k) ⟨⟨tys_is⟩, ⟨fun f v F h => FnsOk.look (l := [(8, 0, disk_New.i k), (9, 0, counterfoillaw05_awake.i k), (10, 0, disk_Disk_Write.i k), (11, 0, disk_Disk_Flush.i k), (12, 0, disk_Disk_Read_v1.i k), (13, 0, counterfoillaw05_kind.i k), (15, 0, disk_Disk_Crash.i k), (16, 0, disk_Disk_Arm.i k), (17, 0, disk_Disk_Down.i k), (18, 0, disk_Disk_Loose.i k)]) (v := v) (.cons (disk_New.ok k) (.cons (counterfoillaw05_awake.ok k) (.cons (disk_Disk_Write.ok k) (.cons (disk_Disk_Flush.ok k) (.cons (disk_Disk_Read_v1.ok k) (.cons (counterfoillaw05_kind.ok k) (.cons (disk_Disk_Crash.ok k) (.cons (disk_Disk_Arm.ok k) (.cons (disk_Disk_Down.ok k) (.cons (disk_Disk_Loose.ok k) (.nil))))))))))) h⟩, mixed⟩ Try.func5 (by decide +kernel) (by rfl) (by kernel_rfl) (counterfoillaw05_DiskTwins.eq k)

theorem disk_Disk_Write_v1.ok (k : Nat) : FnOk Try.prog 10 (disk_Disk_Write_v1.i k) := fn_ok (E := disk_Disk_Write_v1.e k) (k := k) ⟨⟨tys_is⟩, ⟨fun f v F h => FnsOk.look (l := [(17, 0, disk_Disk_Down_v1.i k)]) (v := v) (.cons (disk_Disk_Down_v1.ok k) (.nil)) h⟩, mixed⟩ Try.func10 (by decide +kernel) (by rfl) (by kernel_rfl) (disk_Disk_Write_v1.eq k)

theorem disk_Disk_Flush_v1.ok (k : Nat) : FnOk Try.prog 11 (disk_Disk_Flush_v1.i k) := fn_ok (E := disk_Disk_Flush_v1.e k) (k := k) ⟨⟨tys_is⟩, ⟨fun f v F h => FnsOk.look (l := [(17, 0, disk_Disk_Down_v1.i k)]) (v := v) (.cons (disk_Disk_Down_v1.ok k) (.nil)) h⟩, mixed⟩ Try.func11 (by decide +kernel) (by rfl) (by kernel_rfl) (disk_Disk_Flush_v1.eq k)

theorem disk_Disk_Size.ok (k : Nat) : FnOk Try.prog 19 (disk_Disk_Size.i k) := fn_ok (E := disk_Disk_Size.e k) (k := k) ⟨⟨tys_is⟩, ⟨fun f v F h => FnsOk.look (l := []) (v := v) (.nil) h⟩, mixed⟩ Try.func19 (by decide +kernel) (by rfl) (by kernel_rfl) (disk_Disk_Size.eq k)

theorem disk_Disk_Loose_v1.ok (k : Nat) : FnOk Try.prog 18 (disk_Disk_Loose_v1.i k) := fn_ok (E := disk_Disk_Loose_v1.e k) (k := k) ⟨⟨tys_is⟩, ⟨fun f v F h => FnsOk.look (l := []) (v := v) (.nil) h⟩, mixed⟩ Try.func18 (by decide +kernel) (by rfl) (by kernel_rfl) (disk_Disk_Loose_v1.eq k)

theorem counterfoilref05_New.ok (k : Nat) : FnOk Try.prog 20 (counterfoilref05_New.i k) := fn_ok (E := counterfoilref05_New.e k) (k := k) ⟨⟨tys_is⟩, ⟨fun f v F h => FnsOk.look (l := [(37, 0, counterfoilref05_Pad.i k)]) (v := v) (.cons (counterfoilref05_Pad.ok k) (.nil)) h⟩, mixed⟩ Try.func20 (by decide +kernel) (by rfl) (by kernel_rfl) (counterfoilref05_New.eq k)

theorem disk_Disk_Size_v1.ok (k : Nat) : FnOk Try.prog 19 (disk_Disk_Size_v1.i k) := fn_ok (E := disk_Disk_Size_v1.e k) (k := k) ⟨⟨tys_is⟩, ⟨fun f v F h => FnsOk.look (l := []) (v := v) (.nil) h⟩, mixed⟩ Try.func19 (by decide +kernel) (by rfl) (by kernel_rfl) (disk_Disk_Size_v1.eq k)

theorem counterfoillaw05_DiskPlays.ok (k : Nat) : FnOk Try.prog 6 (counterfoillaw05_DiskPlays.i k) := fn_ok (E := counterfoillaw05_DiskPlays.e k) (k := k) ⟨⟨tys_is⟩, ⟨fun f v F h => FnsOk.look (l := [(8, 0, disk_New.i k), (9, 0, counterfoillaw05_awake.i k), (10, 0, disk_Disk_Write_v1.i k), (11, 0, disk_Disk_Flush_v1.i k), (12, 0, disk_Disk_Read.i k), (12, 1, disk_Disk_Read_v1.i k), (14, 0, counterfoillaw05_act.i k), (17, 0, disk_Disk_Down_v1.i k), (17, 1, disk_Disk_Down.i k), (18, 0, disk_Disk_Loose_v1.i k), (18, 1, disk_Disk_Loose.i k), (19, 0, disk_Disk_Size.i k), (19, 1, disk_Disk_Size_v1.i k), (20, 0, counterfoilref05_New.i k), (21, 0, counterfoilref05_Read.i k)]) (v := v) (.cons (disk_New.ok k) (.cons (counterfoillaw05_awake.ok k) (.cons (disk_Disk_Write_v1.ok k) (.cons (disk_Disk_Flush_v1.ok k) (.cons (disk_Disk_Read.ok k) (.cons (disk_Disk_Read_v1.ok k) (.cons (counterfoillaw05_act.ok k) (.cons (disk_Disk_Down_v1.ok k) (.cons (disk_Disk_Down.ok k) (.cons (disk_Disk_Loose_v1.ok k) (.cons (disk_Disk_Loose.ok k) (.cons (disk_Disk_Size.ok k) (.cons (disk_Disk_Size_v1.ok k) (.cons (counterfoilref05_New.ok k) (.cons (counterfoilref05_Read.ok k) (.nil)))))))))))))))) h⟩, mixed⟩ Try.func6 (by decide +kernel) (by rfl) (by kernel_rfl) (counterfoillaw05_DiskPlays.eq k)

end Go.Vm
