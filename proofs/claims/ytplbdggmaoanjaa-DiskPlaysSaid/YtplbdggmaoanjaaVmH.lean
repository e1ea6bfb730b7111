/- A small evaluator for the translated code, and the proof that what it computes the code does. -/
import Derived.Test.YtplbdggmaoanjaaVmG
/-! Soundness, part 6: operations on values. -/
namespace Go.Vm
open Go.RowKit

structure EnvTy (P : Program) (E : Env) : Prop where
  ty : ∀ t i, E.ty t = some i → TyIs P t i

section
variable {R : Type} {P : Program} {C : Ctx} {E : Env} {o : Oper} {g g' : Gh} {Γ Γ1 : G} {a : Act} {w w' : World} {K : G → Option R} {r : R}

theorem run_eqGuard_int (op : BinOp) (t : TypeId) (x y : Operand) (k k' : IntKind) (m n : Int) (w : World) : (eqGuard op t x y (.int k m) (.int k' n)).run P w = .ok () w := by
  unfold eqGuard
  cases op <;> simp
theorem run_eqGuard_str (op : BinOp) (t : TypeId) (x y : Operand) (m n : ByteArray) (w : World) : (eqGuard op t x y (.string m) (.string n)).run P w = .ok () w := by
  unfold eqGuard
  cases op <;> simp
theorem run_eqGuard_ptr (op : BinOp) (t : TypeId) (x y : Operand) (m n : Option Addr) (w : World) : (eqGuard op t x y (.pointer m) (.pointer n)).run P w = .ok () w := by
  unfold eqGuard
  cases op <;> simp

theorem run_int {op : BinOp} {k : IntKind} {m n : Int} {K : Cell → Option R} (t : TypeId) (w : World) (hs : isShift op = false) (h : intOp op k m n K = some r) :
    ∃ c v, (binOp op t (.int k m) (.int k n)).run P w = .ok v w ∧ K c = some r ∧ (∀ g H, VR w g H c v) := by
  cases op <;> simp only [intOp, isShift, Bool.true_eq_false] at h hs
  all_goals first
    | (refine ⟨_, _, ?_, h, fun g H => rfl⟩; simp [binOp, Op.intArith, Op.intCmp, Op.intBits, bitsOp]; done)
    | (split at h
       · cases h
       · rename_i hne
         refine ⟨_, _, ?_, h, fun g H => rfl⟩
         simp [binOp, Op.intDiv, hne])
    | (cases hs; done)
    | (cases h; done)
    | skip

theorem run_shift {op : BinOp} {k k' : IntKind} {m n : Int} {K : Cell → Option R} (t : TypeId) (w : World) (h : shiftOp op k m n K = some r) :
    ∃ c v, (binOp op t (.int k m) (.int k' n)).run P w = .ok v w ∧ K c = some r ∧ (∀ g H, VR w g H c v) := by
  cases op <;> simp only [shiftOp] at h
  all_goals first
    | (cases h; done)
    | (split at h
       · cases h
       · rename_i hne
         refine ⟨_, _, ?_, h, fun g H => rfl⟩
         simp [binOp, Op.shift, hne])

theorem run_str {op : BinOp} {m n : ByteArray} {K : Cell → Option R} (t : TypeId) (w : World) (h : binop op (.c (.str m)) (.c (.str n)) K = some r) :
    ∃ c v, (binOp op t (.string m) (.string n)).run P w = .ok v w ∧ K c = some r ∧ (∀ g H, VR w g H c v) := by
  cases op <;> simp only [binop] at h
  case add =>
    split at h
    · cases h
    · rename_i hne
      refine ⟨_, _, ?_, h, fun g H => rfl⟩
      simp only [binOp, Op.stringOp]
      rw [if_neg hne]
      rfl
  all_goals first
    | (cases h; done)
    | (refine ⟨_, _, ?_, h, fun g H => rfl⟩; simp [binOp, Op.stringOp]; done)

theorem binop_cases {op : BinOp} {X Y : AV} {K : Cell → Option R} (h : binop op X Y K = some r) :
    (∃ k m k' n, X = .c (.int k m) ∧ Y = .c (.int k' n)) ∨ (∃ m n, X = .c (.str m) ∧ Y = .c (.str n)) ∨ (∃ m n, X = .c (.bool m) ∧ Y = .c (.bool n) ∧ ((op = .eql ∧ K (.bool (m == n)) = some r) ∨ (op = .neq ∧ K (.bool (m != n)) = some r))) ∨ ((op = .eql ∨ op = .neq) ∧ Y = .c .nilp ∧ ((X = .c .nilp ∧ K (.bool (op == .eql)) = some r) ∨ (((∃ id off, X = .c (.ptr id off)) ∨ (∃ k x off, X = .c (.rptr k x off))) ∧ K (.bool (op != .eql)) = some r))) := by
  unfold binop at h
  split at h
  · exact .inl ⟨_, _, _, _, rfl, rfl⟩
  · exact .inr (.inl ⟨_, _, rfl, rfl⟩)
  · refine .inr (.inr (.inl ?_))
    cases op <;> first | (cases h; done) | exact ⟨_, _, rfl, rfl, .inl ⟨rfl, h⟩⟩ | exact ⟨_, _, rfl, rfl, .inr ⟨rfl, h⟩⟩
  · refine .inr (.inr (.inr ?_))
    cases op <;> first | (cases h; done) | exact ⟨by simp, rfl, .inl ⟨rfl, h⟩⟩
  · refine .inr (.inr (.inr ?_))
    cases op <;> first | (cases h; done) | exact ⟨by simp, rfl, .inr ⟨.inl ⟨_, _, rfl⟩, h⟩⟩
  · refine .inr (.inr (.inr ?_))
    cases op <;> first | (cases h; done) | exact ⟨by simp, rfl, .inr ⟨.inr ⟨_, _, _, rfl⟩, h⟩⟩
  · cases h

theorem run_equal_bool {t : TypeId} (hu : P.underlying t = some .bool) (x y : Bool) (w : World) : (Op.equal t (.bool x) (.bool y)).run P w = .ok (x == y) w := by
  have : ∀ d, (Op.equalIn (d + 1) t (.bool x) (.bool y)).run P w = .ok (x == y) w := by
    intro d
    simp [Op.equalIn, run_underlying hu]
  exact this 9999
theorem run_eqGuard_bool (op : BinOp) (t : TypeId) (x y : Operand) (m n : Bool) (w : World) : (eqGuard op t x y (.bool m) (.bool n)).run P w = .ok () w := by
  unfold eqGuard
  cases op <;> simp
theorem run_equal_nil {t e : TypeId} (hu : P.underlying t = some (.pointer e)) (x : Option Addr) (w : World) : (Op.equal t (.pointer x) (.pointer none)).run P w = .ok x.isNone w := by
  have : ∀ d, (Op.equalIn (d + 1) t (.pointer x) (.pointer none)).run P w = .ok x.isNone w := by
    intro d
    cases x <;> simp [Op.equalIn, run_underlying hu]
  exact this 9999

theorem goes_binOp (hE : EnvTy P E) {op : BinOp} {t ty : TypeId} {x y : Operand} (h : Rel C g Γ a w) (ho : o.op = .binOp op t x y ty) (hK : opx E Γ o K = some r) : Goes P C o g Γ a w K r := by
  simp only [opx, ho] at hK
  split at hK
  · cases hK
  rename_i hnp
  have hx := h.ev x
  have hy := h.ev y
  have fin : ∀ c v, (binOp op t (a.eval x) (a.eval y)).run P w = .ok v w → (eqGuard op t x y (a.eval x) (a.eval y)).run P w = .ok () w → K (Γ.put o.dst (.c c)) = some r → (∀ g H, VR w g H c v) → Goes P C o g Γ a w K r := by
    intro c v h1 h2 h3 h4
    refine goes_same h (v := v) (av := .c c) ?_ (h4 g Γ.h) h3
    simp [execOp, ho, h1, h2]
  rcases binop_cases hK with ⟨k, m, k', n, eX, eY⟩ | ⟨m, n, eX, eY⟩ | ⟨m, n, eX, eY, hk⟩ | ⟨hop, eY, hh⟩
  · rw [eX] at hx hK
    rw [eY] at hy hK
    have ex : a.eval x = .int k m := hx
    have ey : a.eval y = .int k' n := hy
    simp only [binop] at hK
    split at hK
    · obtain ⟨c, v, h1, h2, h3⟩ := run_shift (P := P) (k' := k') t w hK
      exact fin c v (by rw [ex, ey]; exact h1) (by rw [ex, ey]; exact run_eqGuard_int ..) h2 h3
    · rename_i hsh
      split at hK
      · rename_i p hp
        have := ikEq_some hp
        subst this
        obtain ⟨c, v, h1, h2, h3⟩ := run_int (P := P) t w (by simpa using hsh) hK
        exact fin c v (by rw [ex, ey]; exact h1) (by rw [ex, ey]; exact run_eqGuard_int ..) h2 h3
      · cases hK
  · rw [eX] at hx hK
    rw [eY] at hy hK
    have ex : a.eval x = .string m := hx
    have ey : a.eval y = .string n := hy
    obtain ⟨c, v, h1, h2, h3⟩ := run_str (P := P) t w hK
    exact fin c v (by rw [ex, ey]; exact h1) (by rw [ex, ey]; exact run_eqGuard_str ..) h2 h3
  · rw [eX] at hx
    rw [eY] at hy hnp
    have ex : a.eval x = .bool m := hx
    have ey : a.eval y = .bool n := hy
    have hp : isBoolTy E t = true := by simpa [nilY, boolY] using hnp
    unfold isBoolTy at hp
    split at hp
    · rename_i i hi
      split at hp
      · rename_i he
        have hu := (hE.ty t i hi).bool he
        rcases hk with ⟨rfl, hk⟩ | ⟨rfl, hk⟩
        · exact fin _ _ (by rw [ex, ey]; simp [binOp, run_equal_bool hu]) (by rw [ex, ey]; exact run_eqGuard_bool ..) hk (fun _ _ => rfl)
        · exact fin _ _ (by rw [ex, ey]; simp [binOp, run_equal_bool hu, bne]) (by rw [ex, ey]; exact run_eqGuard_bool ..) hk (fun _ _ => rfl)
      · cases hp
    · cases hp
  · rw [eY] at hy hnp
    have ey : a.eval y = .pointer none := hy
    have hp : isPtrTy E t = true := by simpa [nilY, boolY] using hnp
    unfold isPtrTy at hp
    split at hp
    · rename_i i hi
      split at hp
      · rename_i e he
        have hu := (hE.ty t i hi).ptr he
        rcases hh with ⟨eX, hk⟩ | ⟨eX, hk⟩
        · rw [eX] at hx
          have ex : a.eval x = .pointer none := hx
          refine fin _ (.bool (op == .eql)) ?_ (by rw [ex, ey]; exact run_eqGuard_ptr ..) hk (fun _ _ => rfl)
          rw [ex, ey]
          rcases hop with rfl | rfl <;> simp [binOp, run_equal_nil hu]
        · have ex : ∃ p, a.eval x = .pointer (some p) := by
            rcases eX with ⟨id, off, eX⟩ | ⟨k, z, off, eX⟩
            · rw [eX] at hx
              exact ⟨_, hx.2⟩
            · rw [eX] at hx
              obtain ⟨b, o', us, hx, _⟩ := hx
              exact ⟨_, hx⟩
          obtain ⟨p, ex⟩ := ex
          refine fin _ (.bool (op != .eql)) ?_ (by rw [ex, ey]; exact run_eqGuard_ptr ..) hk (fun _ _ => rfl)
          rw [ex, ey]
          rcases hop with rfl | rfl <;> simp [binOp, run_equal_nil hu]
      · cases hp
    · cases hp

theorem goes_unOp {op : UnOp} {t : TypeId} {x : Operand} (h : Rel C g Γ a w) (ho : o.op = .unOp op t x) (hK : opx E Γ o K = some r) : Goes P C o g Γ a w K r := by
  simp only [opx, ho] at hK
  have hx := h.ev x
  split at hK
  · rename_i b hb
    rw [hb] at hx
    have ex : a.eval x = .bool b := hx
    refine goes_same h (v := .bool (!b)) (av := .c (.bool (!b))) ?_ rfl hK
    simp [execOp, ho, ex, Op.unary]
  · rename_i k n hb
    rw [hb] at hx
    have ex : a.eval x = .int k n := hx
    refine goes_same h (v := .int k (k.wrap (0 - n))) (av := .c (.int k (k.wrap (0 - n)))) ?_ rfl hK
    simp [execOp, ho, ex, Op.unary, Op.intArith]
  · cases hK

theorem goes_convert (hE : EnvTy P E) {s d : TypeId} {x : Operand} (h : Rel C g Γ a w) (ho : o.op = .convert s d x) (hK : opx E Γ o K = some r) : Goes P C o g Γ a w K r := by
  simp only [opx, ho] at hK
  have hx := h.ev x
  split at hK
  · rename_i si i hsi hi
    obtain ⟨_, u, _, _, hu, _⟩ := (hE.ty s si hsi).ex
    split at hK
    · rename_i k k' n hd hb
      rw [hb] at hx
      have ex : a.eval x = .int k' n := hx
      refine goes_same h (v := .int k (k.wrap n)) (av := .c (.int k (k.wrap n))) ?_ rfl hK
      have := (hE.ty d i hi).int hd
      simp [execOp, ho, ex, convert, run_underlying hu, run_underlying this, Conv.intToInt]
    · rename_i s' hd hb
      rw [hb] at hx
      have ex : a.eval x = .string s' := hx
      refine goes_same h (v := .string s') (av := .c (.str s')) ?_ rfl hK
      have := (hE.ty d i hi).str hd
      simp [execOp, ho, ex, convert, run_underlying hu, run_underlying this]
    · cases hK
  · cases hK

theorem goes_nilCheck {x : Operand} (h : Rel C g Γ a w) (ho : o.op = .nilCheck x) (hK : opx E Γ o K = some r) : Goes P C o g Γ a w K r := by
  simp only [opx, ho] at hK
  have hx := h.ev x
  have fin : ∀ (av : AV), K (Γ.put o.dst av) = some r → AVR w g Γ.h av (a.eval x) → (∃ p, a.eval x = .pointer (some p)) → Goes P C o g Γ a w K r := by
    rintro av h1 h2 ⟨p, h3⟩
    refine goes_same h (v := a.eval x) ?_ h2 h1
    simp [execOp, ho, h3]
  split at hK
  · rename_i id off hb
    rw [hb] at hx
    exact fin _ hK hx ⟨_, hx.2⟩
  · rename_i k y off hb
    rw [hb] at hx
    have hx' := hx
    obtain ⟨b, o', us, hx', _⟩ := hx'
    exact fin _ hK hx ⟨_, hx'⟩
  · cases hK
end
end Go.Vm
