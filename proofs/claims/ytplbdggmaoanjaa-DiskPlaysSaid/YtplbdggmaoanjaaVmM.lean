/- A small evaluator for the translated code, and the proof that what it computes the code does. -/
import Derived.Test.YtplbdggmaoanjaaVmL
/-! Soundness, part 10: append, make, function values. -/
namespace Go.Vm
open Go.RowKit

/-- What is appended: its length, its cells. -/
structure SrcOk (P : Program) (w : World) (size : Nat) (t' : TypeId) (x : Value) (m : Nat) (news : List Value) : Prop where
  ty : (∃ e', P.underlying t' = some (.slice e')) ∨ P.underlying t' = some .string
  len : (Builtin.lenOf x).run P w = .ok m w
  cells : (Builtin.firstCells size m x).run P w = .ok news.toArray w
  drew : (Builtin.firstCells size m x).run P w.drew = .ok news.toArray w.drew
  size : news.length = m * size
  one : ∀ u ∈ news, u.oneCell' = true

section
variable {P : Program} {w : World} {t t' ty e : TypeId} {i : TypeInfo} {z x : Value} {m : Nat} {news : List Value}

theorem run_app_nil0 (ht : P.underlying t = some (.slice e)) (hi : P.info? e = some i) (hs : SrcOk P w i.size t' x 0 news) :
    (Builtin.append_ #[t, t'] ty #[.slice none 0 0, x]).run P w = .ok (.slice none 0 0) w := by
  have h1 := hs.len
  have h2 := hs.cells
  rcases hs.ty with ⟨_, hd⟩ | hd <;> simp [Builtin.append_, run_underlying ht, run_underlying hd, sizeOf, typeInfo, hi, h1, h2]

theorem run_app_nil (ht : P.underlying t = some (.slice e)) (hi : P.info? e = some i) (hz : i.zero = some z) (hs : SrcOk P w i.size t' x m news)
    (h0 : 0 < m) (h63 : (m : Int) ≤ 9223372036854775807) (h48 : m * i.bytes ≤ 281474976710656) :
    (Builtin.append_ #[t, t'] ty #[.slice none 0 0, x]).run P w =
      .ok (.slice (some ⟨w.heap.size, 0, none⟩) m (grownCap w m 0 e)) (w.drew.alloc (.cells (news.toArray ++ Builtin.zeroCells z.cells (grownCap w m 0 e - m)) e)) := by
  have h1 := hs.len
  have h2 := hs.drew
  have hm : m ≠ 0 := by omega
  have h63' : ¬ (9223372036854775807 < (m : Int)) := by omega
  have h48' : ¬ (281474976710656 < Builtin.nextslicecap m 0 * i.bytes) := by rw [nextslicecap_zero h0]; omega
  rcases hs.ty with ⟨_, hd⟩ | hd <;> simp [Builtin.append_, run_underlying ht, run_underlying hd, sizeOf, typeInfo, zeroValue, hi, hz, h1, hm, h63', h48', Question.forced, run_firstCells_none, h2, newRow, grownCap]

theorem run_app_grow (ht : P.underlying t = some (.slice e)) (hi : P.info? e = some i) (hz : i.zero = some z) (hs : SrcOk P w i.size t' x m news)
    (b : Addr) (sLen sCap : Nat) (olds : List Value) (hlo : olds.length = sLen * i.size) (holds : ∀ (j : Nat) v, olds[j]? = some v → w.cell? (b.add j) = some v)
    (hg : sCap < sLen + m) (h63 : ((sLen + m : Nat) : Int) ≤ 9223372036854775807) (hfit : Builtin.nextslicecap (sLen + m) sCap * i.bytes ≤ 281474976710656) :
    (Builtin.append_ #[t, t'] ty #[.slice (some b) sLen sCap, x]).run P w =
      .ok (.slice (some ⟨w.heap.size, 0, none⟩) (sLen + m) (grownCap w (sLen + m) sCap e))
        (w.drew.alloc (.cells (olds.toArray ++ news.toArray ++ Builtin.zeroCells z.cells (grownCap w (sLen + m) sCap e - (sLen + m))) e)) := by
  have h1 := hs.len
  have h2 := hs.drew
  have hm : ¬ (sLen + m ≤ sCap) := by omega
  have h63' : ¬ (9223372036854775807 < ((sLen : Int) + (m : Int))) := by omega
  have h48' : ¬ (281474976710656 < Builtin.nextslicecap (sLen + m) sCap * i.bytes) := by omega
  have hfo := run_firstCells_some (P := P) w.drew i.size sLen b sLen sCap olds hlo (by simpa using holds)
  rcases hs.ty with ⟨_, hd⟩ | hd
  all_goals
    simp [Builtin.append_, run_underlying ht, run_underlying hd, sizeOf, typeInfo, zeroValue, hi, hz, h1, hm, h63', h48', Question.forced, h2, hfo, newRow, grownCap]
    congr 2
    apply Array.ext'
    simp [List.append_assoc]

theorem run_app_room (ht : P.underlying t = some (.slice e)) (hi : P.info? e = some i) (hs : SrcOk P w i.size t' x m news)
    (g sLen sCap : Nat) (cur : Array Value) (hg : w.heap[g]? = some (.cells cur e (0, 0)))
    (hroom : sLen + m ≤ sCap) (hfit : sLen * i.size + news.length ≤ cur.size) :
    (Builtin.append_ #[t, t'] ty #[.slice (some ⟨g, 0, none⟩) sLen sCap, x]).run P w =
      .ok (.slice (some ⟨g, 0, none⟩) (sLen + m) sCap) (w.setRow g (cur.toList.take (sLen * i.size) ++ news ++ cur.toList.drop (sLen * i.size + news.length)).toArray) := by
  have h1 := hs.len
  have h2 := hs.cells
  have hst := run_storeCells_at P g (sLen * i.size) e news 0 cur w hg (by simpa using hfit) hs.one
  simp only [Nat.add_zero] at hst
  rcases hs.ty with ⟨_, hd⟩ | hd <;> simp [Builtin.append_, run_underlying ht, run_underlying hd, sizeOf, typeInfo, hi, h1, hroom, h2, Addr.add_lit, hst]

/-- append onto a row: in its place, or in a new block and every old block as it was. -/
theorem run_append_any (base : Nat) (ht : P.underlying t = some (.slice e)) (hi : P.info? e = some i) (hz : i.zero = some z)
    (hzs : z.cells.size = i.size) (v : Value) (n : Nat) (xs : List Value) (hown : w.ownsRow base e i.size v n xs) (hs : SrcOk P w i.size t' x m news)
    (h63 : n + m ≤ maxLen) (hbytes : (n + m) * i.bytes ≤ 140737488355328) (hbase : base ≤ w.heap.size) :
    ∃ v' w', (Builtin.append_ #[t, t'] ty #[v, x]).run P w = .ok v' w' ∧ w'.ownsRow base e i.size v' (n + m) (xs ++ news) ∧
      ((v'.ownBlock = v.ownBlock ∧ w.grownBy w' v.ownBlock ∧ (v = nilSlice → v' = nilSlice)) ∨ (v'.ownBlock = some w.heap.size ∧ w.grownBy w' none)) := by
  have hl := hs.size
  have hlen : (xs ++ news).length = (n + m) * i.size := by rw [List.length_append, hown.1, hl, Nat.add_mul]
  have grown : ∀ (old : Nat), old < n + m →
      (w.drew.alloc (.cells (xs.toArray ++ news.toArray ++ Builtin.zeroCells z.cells (grownCap w (n + m) old e - (n + m))) e)).ownsRow base e i.size
        (.slice (some ⟨w.heap.size, 0, none⟩) (n + m) (grownCap w (n + m) old e)) (n + m) (xs ++ news) ∧
      w.grownBy (w.drew.alloc (.cells (xs.toArray ++ news.toArray ++ Builtin.zeroCells z.cells (grownCap w (n + m) old e - (n + m))) e)) none := by
    intro old ho
    have hge := grownCap_ge w (n + m) old e
    refine ⟨⟨hlen, .inr ⟨w.heap.size, _, _, rfl, hbase, heap_alloc_new w.drew _, hge, grownCap_le_maxLen w (n + m) old e h63, ?_, ?_⟩⟩, ⟨rfl, rfl, rfl, by simp, fun k hk _ => heap_alloc_old w.drew _ hk⟩⟩
    · simp only [Array.size_append, List.size_toArray, size_zeroCells, hzs, hown.1, hl, ← Nat.add_mul]
      congr 1
      omega
    · simp only [Array.toList_append, List.append_assoc]
      rw [← List.append_assoc, ← hlen]
      exact List.take_left
  rcases hown.2 with ⟨rfl, rfl⟩ | ⟨g, cap, cur, rfl, hbg, hg, hnc, hcm, hcs, htake⟩
  · obtain rfl : xs = [] := List.eq_nil_of_length_eq_zero (by simpa using hown.1)
    by_cases hm : m = 0
    · subst hm
      obtain rfl : news = [] := List.eq_nil_of_length_eq_zero (by simpa using hl)
      exact ⟨.slice none 0 0, w, run_app_nil0 ht hi hs, World.ownsRow_nil w base e i.size, .inl ⟨rfl, ⟨rfl, rfl, rfl, Nat.le_refl _, fun _ _ _ => rfl⟩, fun _ => rfl⟩⟩
    · have hr := run_app_nil (ty := ty) ht hi hz hs (by omega) (by simp only [maxLen] at h63; omega) (by have hb := hbytes; simp only [Nat.zero_add] at hb; omega)
      have hgr := grown 0 (by omega)
      simp only [Nat.zero_add, List.nil_append, Array.empty_append] at hgr ⊢
      exact ⟨_, _, hr, hgr.1, .inr ⟨rfl, hgr.2⟩⟩
  · by_cases hroom : n + m ≤ cap
    · have hfit : n * i.size + news.length ≤ cur.size := by rw [hl, hcs, ← Nat.add_mul]; exact Nat.mul_le_mul_right _ hroom
      have hr := run_app_room (ty := ty) ht hi hs g n cap cur hg hroom hfit
      refine ⟨_, _, hr, ⟨hlen, .inr ⟨g, cap, _, rfl, hbg, setRow_heap w g cur _ e _ hg, hroom, hcm, ?_, ?_⟩⟩, .inl ⟨rfl, ⟨rfl, rfl, rfl, by simp, fun k _ hk => setRow_other w g k _ (fun e => hk (by simp [Value.ownBlock, e]))⟩, fun e => by simp [nilSlice] at e⟩⟩
      · simp only [List.size_toArray, List.length_append, List.length_take, List.length_drop, Array.length_toList]
        omega
      · rw [htake, ← hlen]
        exact List.take_left
    · have holds : ∀ (j : Nat) u, xs[j]? = some u → w.cell? ((⟨g, 0, none⟩ : Addr).add j) = some u := hown.cells (g := g) rfl
      have hr := run_app_grow (ty := ty) ht hi hz hs ⟨g, 0, none⟩ n cap xs hown.1 holds (by omega) (by simp only [maxLen] at h63; omega) (growslice_fits (by omega) hbytes)
      have hgr := grown cap (by omega)
      exact ⟨_, _, hr, hgr.1, .inr ⟨rfl, hgr.2⟩⟩
end

section
variable {w : World} {g : Gh} {H : List Obj}

theorem strBytes_len (s : ByteArray) : (strBytes s).length = s.size := by simp [strBytes]

theorem src_str {P : Program} (size : Nat) (hs : size = 1) {t' : TypeId} (ht : (∃ e', P.underlying t' = some (.slice e')) ∨ P.underlying t' = some .string) (w : World) (s : ByteArray) :
    SrcOk P w size t' (.string s) (strBytes s).length (s.data.toList.map fun b => Value.int .u8 b.toNat) := by
  have hx : ∀ w' : World, (Builtin.firstCells size (strBytes s).length (.string s)).run P w' = .ok (s.data.toList.map fun b => Value.int .u8 b.toNat).toArray w' := by
    intro w'
    simp only [Builtin.firstCells, strBytes_len]
    have : (s.extract 0 s.size).data.map (fun b : UInt8 => Value.int IntKind.u8 (b.toNat : Int)) = (s.data.toList.map fun b : UInt8 => Value.int .u8 b.toNat).toArray := by
      apply Array.ext'
      simp
    rw [this]
    rfl
  refine ⟨ht, ?_, hx w, hx w.drew, by simp [strBytes, hs], ?_⟩
  · simp [Builtin.lenOf, strBytes_len]
  · intro u hu
    obtain ⟨b, _, rfl⟩ := List.mem_map.1 hu
    rfl

theorem src_sl {P : Program} {St : Nat → Nat → Prop} {k : Kd} (hs : 0 < k.size) {t' : TypeId} (ht : (∃ e', P.underlying t' = some (.slice e')) ∨ P.underlying t' = some .string) {v : Value} {m : List k.T} (h : RdV w St (.slice k) [v] m) :
    ∃ news, SrcOk P w k.size t' v m.length news ∧ ∀ i (hi : i < m.length), ∃ us, RdV w St k us m[i] ∧ ∀ j (hj : j < us.length), news[i * k.size + j]? = some us[j] := by
  simp only [RdV] at h
  obtain ⟨A, c, hv, hc, hr⟩ := h
  injection hv with hv
  subst hv
  have hlen : ∀ w' : World, (Builtin.lenOf (.slice A m.length c)).run P w' = .ok m.length w' := fun w' => by simp [Builtin.lenOf]
  by_cases h0 : m.length = 0
  · have hm : m = [] := List.eq_nil_of_length_eq_zero h0
    subst hm
    have hx : ∀ w' : World, (Builtin.firstCells k.size 0 (.slice A 0 c)).run P w' = .ok #[] w' := by
      intro w'
      cases A with
      | none => simp [Builtin.firstCells]
      | some a =>
        have := run_firstCells_some (P := P) w' k.size 0 a 0 c [] (by simp) (by simp)
        simpa using this
    exact ⟨[], ⟨ht, hlen w, hx w, hx w.drew, by simp, by simp⟩, fun i hi => absurd hi (by simp)⟩
  · obtain ⟨b, o, rfl, he⟩ := hr (by omega)
    obtain ⟨news, n1, n2, n3, n4⟩ := news_of hs he
    have n2' : ∀ (j : Nat) u, news[j]? = some u → w.cell? ((⟨b, o, none⟩ : Addr).add j) = some u := by
      intro j u hu
      rw [Addr.add_lit]
      exact n2 j u hu
    refine ⟨news, ⟨ht, hlen w, run_firstCells_some (P := P) w k.size m.length ⟨b, o, none⟩ m.length c news n1 n2', run_firstCells_some (P := P) w.drew k.size m.length ⟨b, o, none⟩ m.length c news n1 (by simpa using n2'), n1, n3⟩, n4⟩

theorem src_ok {P : Program} (hobj : ∀ id ob, H[id]? = some ob → ObjOk w g H id ob) {k : Kd} (hs : 0 < k.size) {t' : TypeId} (ht : (∃ e', P.underlying t' = some (.slice e')) ∨ P.underlying t' = some .string) {c : Cell} {v : Value} {m : List k.T}
    (hv : VR w g H c v) (h : srcAs H k c = some m) (hf : Full g H (ownIds [c])) :
    ∃ news, SrcOk P w k.size t' v m.length news ∧ ∀ i (hi : i < m.length), ∃ us, RdV w g.St k us m[i] ∧ ∀ j (hj : j < us.length), news[i * k.size + j]? = some us[j] := by
  unfold srcAs at h
  split at h
  · rename_i s
    obtain ⟨rfl, rfl⟩ := Kd.castL_some h
    obtain rfl : v = .string s := hv
    refine ⟨_, src_str _ rfl ht w s, fun i hi => ?_⟩
    refine ⟨[.int .u8 (strBytes s)[i]], rfl, fun j hj => ?_⟩
    have hj0 : j = 0 := by simpa using hj
    subst hj0
    have hi' : i < s.data.toList.length := by simpa [strBytes] using hi
    have : (s.data.toList.map fun b => Value.int .u8 b.toNat)[i * Kd.size (.int .u8) + 0]? = some (Value.int .u8 (s.data.toList[i]).toNat) := by
      simp only [Kd.size, Nat.mul_one, Nat.add_zero]
      rw [List.getElem?_map, List.getElem?_eq_getElem hi']
      rfl
    simp only [List.getElem_cons_zero]
    refine this.trans ?_
    simp [strBytes]
  · exact src_sl hs ht (sliceAs_ok hobj hv h hf)
end

theorem isSliceTy_is {P : Program} {E : Env} (hE : EnvTy P E) {t : TypeId} (h : isSliceTy E t = true) : ∃ e, P.underlying t = some (.slice e) := by
  unfold isSliceTy at h
  split at h
  · rename_i i hi
    split at h
    · rename_i e hd
      exact ⟨e, (hE.ty t i hi).slice hd⟩
    · cases h
  · cases h

section
variable {R : Type} {P : Program} {C : Ctx} {E : Env} {o : Oper} {g g' : Gh} {Γ Γ1 : G} {a : Act} {w w' : World} {K : G → Option R} {r : R}

theorem goes_append (hE : EnvTy P E) {ts : Array TypeId} {s x : Operand} {t t' : TypeId} {c : Call} (h : Rel C g Γ a w) (ho : o.op = .call c) (hc1 : c.callee = .builtin .append) (hc2 : c.args = #[s, x]) (hc3 : c.argTypes = #[t, t'])
    {d : Tmp} (hd : o.dst = some d) (hty : (isSliceTy E t' || isStrTy E t') = true) {i ie : TI} {e : TypeId} (hi : E.ty t = some i) (hde : i.d = .slice e) (hie : E.ty e = some ie)
    (hs1 : ie.kd.size = ie.size) (hs2 : 0 < ie.size) (hs3 : 0 < ie.bytes) {cs cx : Cell} (es : Γ.ev s = .c cs) (ex : Γ.ev x = .c cx)
    (hK : appendx Γ e ie.bytes ie.kd d cs cx K = some r) : Goes P C o g Γ a w K r := by
  have hu := (hE.ty t i hi).slice hde
  obtain ⟨ti, de, z, h1, _, h3, h4, _, _, h7, h8, h9⟩ := (hE.ty e ie hie).ex
  have ht' : (∃ e', P.underlying t' = some (.slice e')) ∨ P.underlying t' = some .string := by
    rcases Bool.or_eq_true _ _ ▸ hty with hh | hh
    · exact .inl (isSliceTy_is hE hh)
    · exact .inr (isStrTy_is hE hh)
  have hs := h.ev s
  have hx := h.ev x
  rw [es] at hs
  rw [ex] at hx
  have hf1 := h.inv.fz (ownIds [cx])
  have hx1 := Ext.fz w g Γ.h (ownIds [cx])
  have hat := Ext.at w g Γ.h (ownIds [cx])
  have hexec : ∀ v' w', (Builtin.append_ #[t, t'] o.type #[a.eval s, a.eval x]).run P w = .ok v' w' → (execOp a.eval o).run P w = .ok (.value v') w' := by
    intro v' w' hr
    simp [execOp, ho, hc1, hc2, hc3, resolve, invoke, builtin, hr, Result.andThen]
  unfold appendx at hK
  split at hK
  · -- a row
    rename_i id ver
    split at hK
    · rename_i e' k l ver' fz hob
      split at hK
      · rename_i hc
        obtain ⟨e1, e2, e3, e4⟩ := hc
        subst e1 e2
        split at hK
        · rename_i m hm
          split at hK
          · rename_i hb
            have hks : 0 < k.size := by omega
            obtain ⟨news, n1, n2⟩ := src_ok (P := P) (h.inv.objAt (ownIds [cx])) hks ht' (VR.ext hat hx) hm (Full.fz' g Γ.h (ownIds [cx]))
            have hob1 : (fzAll (ownIds [cx]) Γ.h)[id]? = some (.row e k l ver fz) := by
              have := fzAll_some (ids := ownIds [cx]) hob
              rwa [if_neg e4] at this
            have hrow : RowOk w (g.fz Γ.h (ownIds [cx])).St (g.rv id) (g.bl id) e k l := hf1.obj id _ hob1
            have hlive : g.rv id ≠ nilSlice → Live (g.fz Γ.h (ownIds [cx])) (fzAll (ownIds [cx]) Γ.h) id := fun hn => .inr ⟨e, k, l, ver, fz, hob1, hn⟩
            obtain ⟨xs, x1, x2, x3⟩ := hrow.owns 0 (fun _ => Nat.zero_le _)
            have hsz : ti.size = k.size := by omega
            have hbytes : (l.length + m.length) * ti.bytes ≤ 140737488355328 := by rw [h4]; exact hb
            have hmax : l.length + m.length ≤ maxLen := by
              have : l.length + m.length ≤ (l.length + m.length) * ie.bytes := Nat.le_mul_of_pos_right _ hs3
              simp only [maxLen]
              omega
            obtain ⟨v', w', r1, r2, r3⟩ := run_append_any (ty := o.type) 0 hu h1 h7 (by rw [h9, h3]) (g.rv id) l.length xs (by rw [hsz]; exact x1) (by rw [hsz]; exact n1) hmax hbytes (Nat.zero_le _)
            rw [hsz] at r2
            obtain ⟨g', i1, i2, i3, i4⟩ := append_obj (ver' := ver + 1) (fz := fz) hf1 hob1 x2 x1.1 x3 n2 (fun hn => ⟨hlive hn, rfl⟩) (fun hn o' hst => hf1.row id e k l ver fz hob1 hn o' hst) r2 r3 (fun g' => ⟨_, _, _, _, _, rfl, .inr (by omega)⟩)
            have hv : a.eval s = g.rv id := by
              obtain ⟨e0, k0, l0, ver0, fz0, a1, a2, a3⟩ := hs
              rw [hob] at a1
              cases a1
              exact a3 rfl
            refine goes_value (hexec v' w' (by rw [hv]; exact r1)) (Γ1 := (Γ.fz (ownIds [cx])).obj id (.row e k (l ++ m) (ver + 1) fz)) (av := .c (.own id (ver + 1))) ⟨i1, h.t.mono fun _ _ hv => (hv.ext hx1).ext i2, h.defers⟩
              ⟨e, k, l ++ m, ver + 1, fz, set_get_eq hob1, Nat.le_refl _, fun _ => i3⟩ ((Tr.fz (ownIds [cx])).trans (Tr.obj i2 i4)) (by rw [hd]; exact hK)
          · cases hK
        · cases hK
      · cases hK
    · cases hK
  · -- nil
    split at hK
    · rename_i hno
      split at hK
      · rename_i m hm
        split at hK
        · rename_i hb
          have hks : 0 < ie.kd.size := by omega
          obtain ⟨news, n1, n2⟩ := src_ok (P := P) (h.inv.objAt (ownIds [cx])) hks ht' (VR.ext hat hx) hm (Full.fz' g Γ.h (ownIds [cx]))
          have hno1 : (fzAll (ownIds [cx]) Γ.h)[d]? = some .no := by
            have := fzAll_some (ids := ownIds [cx]) hno
            split at this <;> exact this
          have hsz : ti.size = ie.kd.size := by omega
          have hbytes : (0 + m.length) * ti.bytes ≤ 140737488355328 := by rw [h4, Nat.zero_add]; exact hb
          have hmax : 0 + m.length ≤ maxLen := by
            have : m.length ≤ m.length * ie.bytes := Nat.le_mul_of_pos_right _ hs3
            simp only [maxLen]
            omega
          obtain ⟨v', w', r1, r2, r3⟩ := run_append_any (ty := o.type) 0 hu h1 h7 (by rw [h9, h3]) nilSlice 0 [] (World.ownsRow_nil w 0 e ti.size) (by rw [hsz]; exact n1) hmax hbytes (Nat.zero_le _)
          rw [hsz] at r2
          obtain ⟨g', i1, i2, i3, i4⟩ := append_obj (l := []) (v := nilSlice) (b := 0) (ver' := 0) (fz := false) hf1 hno1 (fun i hi => absurd hi (by simp)) (by simp) (fun hn => absurd rfl hn) n2 (fun hn => absurd rfl hn) (fun hn => absurd rfl hn) r2 r3 (fun g' => trivial)
          have hv : a.eval s = nilSlice := hs
          simp only [List.nil_append] at i1 i2
          refine goes_value (hexec v' w' (by rw [hv]; exact r1)) (Γ1 := (Γ.fz (ownIds [cx])).obj d (.row e ie.kd m 0 false)) (av := .c (.own d 0)) ⟨i1, h.t.mono fun _ _ hv => (hv.ext hx1).ext i2, h.defers⟩
            ⟨e, ie.kd, m, 0, false, set_get_eq hno1, Nat.le_refl _, fun _ => i3⟩ ((Tr.fz (ownIds [cx])).trans (Tr.obj i2 i4)) (by rw [hd]; exact hK)
        · cases hK
      · cases hK
    · cases hK
  · cases hK
end
end Go.Vm
