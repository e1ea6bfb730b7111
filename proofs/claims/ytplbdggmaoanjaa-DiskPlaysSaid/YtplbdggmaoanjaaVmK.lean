/- A small evaluator for the translated code, and the proof that what it computes the code does. -/
import Derived.Test.YtplbdggmaoanjaaVmJ
/-! Soundness, part 9: slices, structs, lists of parts, lengths, appends. -/
namespace Go.Vm
open Go.RowKit

section
variable {R : Type} {P : Program} {C : Ctx} {E : Env} {o : Oper} {g g' : Gh} {Γ Γ1 : G} {a : Act} {w w' : World} {K : G → Option R} {r : R} {H : List Obj}

/-- What a cut's bounds come to. -/
theorem slicex_ok {lo hi : Option Int} {n : Nat} {F : Nat → Nat → Option R} (h : slicex lo hi n F = some r) :
    ∃ l u : Nat, l ≤ u ∧ u ≤ n ∧ F l u = some r ∧ (lo = none → l = 0) ∧ (∀ x, lo = some x → x = l) ∧ (hi = none → u = n) ∧ (∀ x, hi = some x → x = u) := by
  unfold slicex at h
  cases hi with
  | none =>
    cases lo with
    | none => exact ⟨0, n, by omega, by omega, h, by simp, by simp, by simp, by simp⟩
    | some x =>
      simp only at h
      split at h
      · rename_i hx
        exact ⟨x.toNat, n, by omega, by omega, h, by simp, by rintro y ⟨⟩; omega, by simp, by simp⟩
      · cases h
  | some y =>
    simp only at h
    split at h
    · rename_i hy
      cases lo with
      | none => exact ⟨0, y.toNat, by omega, by omega, h, by simp, by simp, by simp, by rintro z ⟨⟩; omega⟩
      | some x =>
        simp only at h
        split at h
        · rename_i hx
          exact ⟨x.toNat, y.toNat, by omega, by omega, h, by simp, by rintro z ⟨⟩; omega, by simp, by rintro z ⟨⟩; omega⟩
        · cases h
    · cases h

theorem run_bounds (isSlice : Bool) {len cap : Nat} {lo hi : Option Int} {lv hv : Option Value} {l u : Nat} (hl : ∀ x, lo = some x → ∃ k, lv = some (.int k x)) (hln : lo = none → lv = none) (hh : ∀ x, hi = some x → ∃ k, hv = some (.int k x)) (hhn : hi = none → hv = none)
    (h1 : l ≤ u) (h2 : u ≤ len) (h3 : len ≤ cap) (e1 : lo = none → l = 0) (e2 : ∀ x, lo = some x → x = l) (e3 : hi = none → u = len) (e4 : ∀ x, hi = some x → x = u) (w : World) :
    (Instr.sliceBounds isSlice len cap lv hv none).run P w = .ok (l, u, cap) w := by
  cases lo with
  | none =>
    have el := e1 rfl
    rw [hln rfl]
    cases hi with
    | none =>
      rw [hhn rfl, e3 rfl, el]
      simp [Instr.sliceBounds]
    | some y =>
      obtain ⟨k, hk⟩ := hh y rfl
      have := e4 y rfl
      rw [hk, el]
      have hb : (Instr.sliceBound (.int k y) cap (if isSlice then .sliceAcap else .sliceAlen)).run P w = .ok u w := by
        simp [Instr.sliceBound, asIntOf, this]
        omega
      simp [Instr.sliceBounds, hb]
  | some x =>
    obtain ⟨k, hk⟩ := hl x rfl
    have ex := e2 x rfl
    rw [hk]
    cases hi with
    | none =>
      rw [hhn rfl]
      have hu := e3 rfl
      have hb : (Instr.sliceBound (.int k x) len .sliceB).run P w = .ok l w := by
        simp [Instr.sliceBound, asIntOf, ex]
        omega
      simp [Instr.sliceBounds, hb, hu]
    | some y =>
      obtain ⟨k2, hk2⟩ := hh y rfl
      have ey := e4 y rfl
      rw [hk2]
      have hb : (Instr.sliceBound (.int k2 y) cap (if isSlice then .sliceAcap else .sliceAlen)).run P w = .ok u w := by
        simp [Instr.sliceBound, asIntOf, ey]
        omega
      have hb2 : (Instr.sliceBound (.int k x) u .sliceB).run P w = .ok l w := by
        simp [Instr.sliceBound, asIntOf, ex]
        omega
      simp [Instr.sliceBounds, hb, hb2]

theorem optInt_ok (h : Rel C g Γ a w) {x : Option Operand} {n : Option Int} (hx : optInt Γ x = some n) : (∀ y, n = some y → ∃ k, x.map a.eval = some (.int k y)) ∧ (n = none → x.map a.eval = none) := by
  unfold optInt at hx
  split at hx
  · injection hx with hx
    subst hx
    exact ⟨by simp, fun _ => rfl⟩
  · rename_i y
    split at hx
    · rename_i k m hy
      injection hx with hx
      subst hx
      have := h.ev y
      rw [hy] at this
      have e : a.eval y = .int k m := this
      exact ⟨fun z hz => ⟨k, by injection hz with hz; subst hz; simp [e]⟩, by simp⟩
    · cases hx

/-- A cut of what is read. -/
theorem cut_reads {St : Nat → Nat → Prop} {k : Kd} {A : Option Addr} {c l u : Nat} {xs : List k.T} (h : RdV w St (.slice k) [.slice A xs.length c] xs) (h1 : l ≤ u) (h2 : u ≤ xs.length) :
    RdV w St (.slice k) [.slice (if c = l then A else A.map (·.add (l * k.size))) (u - l) (c - l)] ((xs.take u).drop l) := by
  simp only [RdV] at h ⊢
  obtain ⟨A', c', he, hc, hr⟩ := h
  simp only [List.cons.injEq, Value.slice.injEq, true_and, and_true] at he
  obtain ⟨rfl, rfl⟩ := he
  have hlen : ((xs.take u).drop l).length = u - l := by simp; omega
  refine ⟨_, c - l, by rw [hlen], by rw [hlen]; omega, fun h0 => ?_⟩
  rw [hlen] at h0
  obtain ⟨b, o, rfl, hel⟩ := hr (by omega)
  refine ⟨b, o + l * k.size, ?_, fun i hi => ?_⟩
  · rw [if_neg (by omega)]
    simp [add_mk]
  · rw [hlen] at hi
    obtain ⟨us, a1, a2⟩ := hel (l + i) (by omega)
    refine ⟨us, ?_, ?_⟩
    · rw [List.getElem_drop, List.getElem_take]
      exact a1
    · rw [Nat.add_mul, ← Nat.add_assoc] at a2
      exact a2

theorem goes_slice (hE : EnvTy P E) {t : TypeId} {x : Operand} {lo hi mx : Option Operand} (h : Rel C g Γ a w) (ho : o.op = .slice t x lo hi mx) (hK : opx E Γ o K = some r) : Goes P C o g Γ a w K r := by
  simp only [opx, ho] at hK
  have hx := h.ev x
  split at hK
  · rename_i lo' hi' e1 e2
    obtain ⟨l1, l2⟩ := optInt_ok h e1
    obtain ⟨u1, u2⟩ := optInt_ok h e2
    split at hK
    · rename_i s hs
      rw [hs] at hx
      have ex : a.eval x = .string s := hx
      split at hK
      · rename_i hst
        have hu := isStrTy_is hE hst
        obtain ⟨l, u, b1, b2, b3, b4, b5, b6, b7⟩ := slicex_ok hK
        have hb := run_bounds (P := P) false (cap := s.size) l1 l2 u1 u2 b1 b2 (Nat.le_refl _) b4 b5 b6 b7 w
        refine goes_same h (v := .string (s.extract l u)) (av := .c (.str (s.extract l u))) ?_ rfl b3
        simp [execOp, ho, ex, Instr.sliceAt, Instr.slice, run_underlying hu, hb]
      · cases hK
    · rename_i k xs hs
      rw [hs] at hx
      have hx' : RdV w g.St (.slice k) [a.eval x] xs := hx
      have hx2 := hx'
      simp only [RdV] at hx2
      obtain ⟨A, c, he, hc, _⟩ := hx2
      simp only [List.cons.injEq, and_true] at he
      rw [he] at hx'
      split at hK
      · rename_i hsz
        obtain ⟨e, ti, hu, hti, hs⟩ := elemSz_is hE hsz
        obtain ⟨l, u, b1, b2, b3, b4, b5, b6, b7⟩ := slicex_ok hK
        have hb := run_bounds (P := P) true (cap := c) l1 l2 u1 u2 b1 b2 hc b4 b5 b6 b7 w
        refine goes_same h (v := .slice (if c = l then A else A.map (·.add (l * k.size))) (u - l) (c - l)) (av := .c (.sl k ((xs.take u).drop l))) ?_ (cut_reads hx' b1 b2) b3
        simp [execOp, ho, he, Instr.sliceAt, Instr.slice, run_underlying hu, hb, sizeOf, typeInfo, hti, hs]
      · cases hK
    · cases hK
  · cases hK

/-! ### Parts -/
theorem fold_ok : ∀ (vs : List Cell) (l : List Value) (off s : Nat) (cs : List Cell) (arr : Array Value), All2 (VC w g H) vs l → All2 (VC w g H) cs arr.toList →
    All2 (VC w g H) (setCells cs (off + s) vs) ((l.zipIdx s).foldl (fun (cs : Array Value) (x : Value × Nat) => cs.setIfInBounds (off + x.2) x.1) arr).toList
  | _, _, off, s, cs, arr, .nil, h => h
  | _, _, off, s, cs, arr, .cons (a := c) (b := v) (l := vs) (m := l) h0 h1, h => by
    simp only [List.zipIdx_cons, List.foldl_cons, setCells]
    have := fold_ok vs l off (s + 1) (cs.set (off + s) c) (arr.setIfInBounds (off + s) v) h1 (by rw [setIfInBounds_toList]; exact h.set h0 _)
    rwa [← Nat.add_assoc] at this

theorem fillx_ok (h : Rel C g Γ a w) (place : Nat → Option (Nat × Nat)) : ∀ (parts : List (Nat × Operand)) (cs cs' : List Cell) (arr : Array Value), fillx Γ place parts cs = some cs' → All2 (VC w g Γ.h) cs arr.toList →
    ∃ arr', Instr.fill place arr (parts.map fun (i, x) => (i, a.eval x)) = some arr' ∧ All2 (VC w g Γ.h) cs' arr'.toList
  | [], cs, cs', arr, hf, hc => by
    injection hf with hf
    subst hf
    exact ⟨arr, rfl, hc⟩
  | (i, x) :: parts, cs, cs', arr, hf, hc => by
    simp only [fillx] at hf
    split at hf
    · rename_i off size vs hp hv
      split at hf
      · rename_i hle
        have hcs := cells_ok h.inv (h.ev x) hv
        have hl := hcs.length
        have hl2 := hc.length
        have hfo := fold_ok vs (a.eval x).cells.toList off 0 cs arr hcs hc
        rw [Nat.add_zero] at hfo
        have e : ((a.eval x).cells.zipIdx.foldl (fun (cs : Array Value) (x : Value × Nat) => cs.setIfInBounds (off + x.2) x.1) arr) = (((a.eval x).cells.toList.zipIdx 0).foldl (fun (cs : Array Value) (x : Value × Nat) => cs.setIfInBounds (off + x.2) x.1) arr) := by
          rw [← Array.foldl_toList]
          congr 1
          simp
        obtain ⟨arr', h1, h2⟩ := fillx_ok h place parts _ cs' _ hf hfo
        refine ⟨arr', ?_, h2⟩
        simp only [List.map_cons, Instr.fill, hp]
        simp only [Array.length_toList] at hl hl2
        rw [if_neg (by simp; omega), e]
        exact h1
      · cases hf
    · cases hf

theorem goes_build (hE : EnvTy P E) {t : TypeId} {parts : Array (Nat × Operand)} (h : Rel C g Γ a w) (ho : o.op = .build t parts) (hK : opx E Γ o K = some r) : Goes P C o g Γ a w K r := by
  simp only [opx, ho] at hK
  split at hK
  · rename_i i hi
    split at hK
    · rename_i offs hd
      split at hK
      · rename_i cs hf
        have hty := hE.ty t i hi
        obtain ⟨ti, d, z, h1, h2, _, _, _, _, h7, h8, _⟩ := hty.ex
        obtain ⟨fs, h3, h4⟩ := hty.struct hd
        obtain ⟨arr, h5, h6⟩ := fillx_ok h (fun j => offs[j]?) parts.toList i.zero cs z.cells hf (zeroEq_ok w g Γ.h _ _ h8)
        have hb : P.built t (parts.map fun (i, x) => (i, a.eval x)).toList = some arr := by
          unfold Program.built
          rw [h1, h3]
          simp only [h7, fieldsOk_places _ _ h4]
          rw [Array.toList_map]
          simpa using h5
        refine goes_same h (v := .agg arr) (av := .agg cs) ?_ ⟨arr, rfl, h6⟩ hK
        have := run_build w t (parts.map fun (i, x) => (i, a.eval x)) arr hb
        simp only [execOp, ho]
        simp [this]
      · cases hK
    · cases hK
  · cases hK

theorem goes_extract {x : Operand} {j : Nat} (h : Rel C g Γ a w) (ho : o.op = .extract x j) (hK : opx E Γ o K = some r) : Goes P C o g Γ a w K r := by
  simp only [opx, ho] at hK
  have hx := h.ev x
  split at hK
  · rename_i l hl
    rw [hl] at hx
    obtain ⟨vs, e1, e2⟩ := hx
    split at hK
    · rename_i b cs hj
      obtain ⟨u, hu, hp⟩ := e2.get j _ hj
      have hu' : vs[j]? = some u := by simpa using hu
      split at hK
      · rename_i av hav
        cases b with
        | true =>
          injection hav with hav
          subst hav
          simp only [if_true] at hp
          obtain ⟨us, rfl, hp⟩ := hp
          refine goes_same h (v := .agg us) (av := .agg cs) ?_ ⟨us, rfl, hp⟩ hK
          simp [execOp, ho, e1, Instr.extract, hu']
        | false =>
          simp only [Bool.false_eq_true, if_false] at hp
          obtain ⟨c, rfl, hp⟩ := hp
          injection hav with hav
          subst hav
          refine goes_same h (v := u) (av := .c c) ?_ hp hK
          simp [execOp, ho, e1, Instr.extract, hu']
      · cases hK
    · cases hK
  · cases hK
end
end Go.Vm
