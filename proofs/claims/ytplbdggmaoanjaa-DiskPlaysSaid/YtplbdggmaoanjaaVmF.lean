/- A small evaluator for the translated code, and the proof that what it computes the code does. -/
import Derived.Test.YtplbdggmaoanjaaVmE
/-! Soundness, part 4: append; a store into a row. -/
namespace Go.Vm
open Go.RowKit

/-- A list of cells laid out, out of a reading. -/
theorem news_of {w : World} {St : Nat → Nat → Prop} {k : Kd} {m : List k.T} {b o : Nat} (hs : 0 < k.size)
    (h : ∀ i (hi : i < m.length), ∃ us, RdV w St k us m[i] ∧ MemAt w St b (o + i * k.size) us) :
    ∃ news : List Value, news.length = m.length * k.size ∧ (∀ (j : Nat) u, news[j]? = some u → w.cell? ⟨b, o + j, none⟩ = some u) ∧ (∀ u ∈ news, u.oneCell' = true) ∧
      (∀ i (hi : i < m.length), ∃ us, RdV w St k us m[i] ∧ ∀ j (hj : j < us.length), news[i * k.size + j]? = some us[j]) := by
  refine ⟨(List.range (m.length * k.size)).map fun j => (w.cell? ⟨b, o + j, none⟩).getD undef, by simp, ?_, ?_, ?_⟩
  · intro j u hj
    simp only [List.getElem?_map] at hj
    by_cases hlt : j < m.length * k.size
    · rw [List.getElem?_range hlt] at hj
      simp only [Option.map_some, Option.some.injEq] at hj
      have hi : j / k.size < m.length := Nat.div_lt_of_lt_mul (by rw [Nat.mul_comm]; exact hlt)
      obtain ⟨us, hu, hm⟩ := h _ hi
      have hjm : j % k.size < us.length := by rw [hu.len]; exact Nat.mod_lt _ hs
      have := (hm _ hjm).2
      rw [Nat.add_assoc, Nat.mul_comm, Nat.div_add_mod] at this
      rw [this] at hj ⊢
      simpa using hj
    · have : (List.range (m.length * k.size))[j]? = none := by simp; omega
      rw [this] at hj
      cases hj
  · intro u hu
    obtain ⟨j, hj, rfl⟩ := List.mem_map.1 hu
    have hlt : j < m.length * k.size := by simpa using hj
    have hi : j / k.size < m.length := Nat.div_lt_of_lt_mul (by rw [Nat.mul_comm]; exact hlt)
    obtain ⟨us, hu, hm⟩ := h _ hi
    have hjm : j % k.size < us.length := by rw [hu.len]; exact Nat.mod_lt _ hs
    have := (hm _ hjm).2
    rw [Nat.add_assoc, Nat.mul_comm, Nat.div_add_mod] at this
    rw [this]
    exact hu.one _ (List.getElem_mem _)
  · intro i hi
    obtain ⟨us, hu, hm⟩ := h i hi
    refine ⟨us, hu, fun j hj => ?_⟩
    have hlen := hu.len
    have hlt : i * k.size + j < m.length * k.size := by
      have : (i + 1) * k.size ≤ m.length * k.size := Nat.mul_le_mul_right _ (by omega)
      rw [Nat.add_mul, Nat.one_mul] at this
      omega
    rw [List.getElem?_map, List.getElem?_range hlt]
    have := (hm j hj).2
    rw [Nat.add_assoc] at this
    simp [this]

/-- append onto a row: in its place, or in a new block and every old block as it was. -/
theorem run_append_either {P : Program} (w : World) (base : Nat) (t ty e : TypeId) (i : TypeInfo) (z : Value) (ht : P.underlying t = some (.slice e)) (hi : P.info? e = some i) (hz : i.zero = some z)
    (hzs : z.cells.size = i.size) (v : Value) (n : Nat) (xs : List Value) (hown : w.ownsRow base e i.size v n xs)
    (a : Addr) (m c : Nat) (news : List Value) (hl : news.length = m * i.size) (hnews : ∀ (j : Nat) u, news[j]? = some u → w.cell? (a.add j) = some u) (h1 : ∀ u ∈ news, u.oneCell' = true)
    (h63 : n + m ≤ maxLen) (hbytes : (n + m) * i.bytes ≤ 140737488355328) (hbase : base ≤ w.heap.size) :
    ∃ v' w', (Builtin.append_ #[t, t] ty #[v, .slice (some a) m c]).run P w = .ok v' w' ∧ w'.ownsRow base e i.size v' (n + m) (xs ++ news) ∧
      ((v'.ownBlock = v.ownBlock ∧ w.grownBy w' v.ownBlock ∧ (v = nilSlice → v' = nilSlice)) ∨ (v'.ownBlock = some w.heap.size ∧ w.grownBy w' none)) := by
  have hlen : (xs ++ news).length = (n + m) * i.size := by rw [List.length_append, hown.1, hl, Nat.add_mul]
  have grown : ∀ (old : Nat), old < n + m →
      (w.drew.alloc (.cells (xs.toArray ++ news.toArray ++ Builtin.zeroCells z.cells (grownCap w (n + m) old e - (n + m))) e)).ownsRow base e i.size
        (.slice (some ⟨w.heap.size, 0, none⟩) (n + m) (grownCap w (n + m) old e)) (n + m) (xs ++ news) ∧
      w.grownBy (w.drew.alloc (.cells (xs.toArray ++ news.toArray ++ Builtin.zeroCells z.cells (grownCap w (n + m) old e - (n + m))) e)) none := by
    intro old ho
    have hge := grownCap_ge w (n + m) old e
    refine ⟨⟨hlen, .inr ⟨w.heap.size, _, _, rfl, hbase, heap_alloc_new w.drew _, hge, grownCap_le_maxLen w (n + m) old e h63, ?_, ?_⟩⟩, ⟨rfl, rfl, rfl, by simp, fun k hk _ => heap_alloc_old w.drew _ hk⟩⟩
    · simp only [Array.size_append, List.size_toArray, size_zeroCells, hzs, hown.1, hl, ← Nat.add_mul]
      congr 1
      omega
    · simp only [Array.toList_append, List.append_assoc]
      rw [← List.append_assoc, ← hlen]
      exact List.take_left
  have hsm : n + m ≤ 9223372036854775807 := by simp only [maxLen] at h63; omega
  rcases hown.2 with ⟨rfl, rfl⟩ | ⟨g, cap, cur, rfl, hbg, hg, hnc, hcm, hcs, htake⟩
  · obtain rfl : xs = [] := List.eq_nil_of_length_eq_zero (by simpa using hown.1)
    by_cases hm : m = 0
    · subst hm
      obtain rfl : news = [] := List.eq_nil_of_length_eq_zero (by simpa using hl)
      refine ⟨.slice none 0 0, w, ?_, World.ownsRow_nil w base e i.size, .inl ⟨rfl, ⟨rfl, rfl, rfl, Nat.le_refl _, fun _ _ _ => rfl⟩, fun _ => rfl⟩⟩
      simp [Builtin.append_, run_underlying ht, sizeOf, typeInfo, hi, Builtin.lenOf, Builtin.firstCells, loadCells, loadCellsFrom]
    · have hr := run_append_nil (P := P) w t ty e i z ht hi hz a m c news hl hnews (by omega) (by omega) (by have hb := hbytes; simp only [Nat.zero_add] at hb; omega)
      have hgr := grown 0 (by omega)
      simp only [Nat.zero_add, List.nil_append, Array.empty_append] at hgr ⊢
      exact ⟨_, _, hr, hgr.1, .inr ⟨rfl, hgr.2⟩⟩
  · by_cases hroom : n + m ≤ cap
    · have hfit : n * i.size + news.length ≤ cur.size := by rw [hl, hcs, ← Nat.add_mul]; exact Nat.mul_le_mul_right _ hroom
      have hr := run_append_room (P := P) w t ty e i ht hi g n cap cur hg a m c news hl hnews h1 hroom hfit
      refine ⟨_, _, hr, ⟨hlen, .inr ⟨g, cap, _, rfl, hbg, setRow_heap w g cur _ e _ hg, hroom, hcm, ?_, ?_⟩⟩, .inl ⟨rfl, ⟨rfl, rfl, rfl, by simp, fun k _ hk => setRow_other w g k _ (fun e => hk (by simp [Value.ownBlock, e]))⟩, fun e => by simp [nilSlice] at e⟩⟩
      · simp only [List.size_toArray, List.length_append, List.length_take, List.length_drop, Array.length_toList]
        omega
      · rw [htake, ← hlen]
        exact List.take_left
    · have holds : ∀ (j : Nat) u, xs[j]? = some u → w.cell? ((⟨g, 0, none⟩ : Addr).add j) = some u := hown.cells (g := g) rfl
      have hr := run_append_grow (P := P) w t ty e i z ht hi hz ⟨g, 0, none⟩ n cap xs hown.1 holds a m c news hl hnews (by omega) (by omega) (growslice_fits (by omega) hbytes)
      have hgr := grown cap (by omega)
      exact ⟨_, _, hr, hgr.1, .inr ⟨rfl, hgr.2⟩⟩

section
variable {C : Ctx} {w w' : World} {g : Gh} {H : List Obj} {id : Nat} {old : Obj} {e : TypeId} {k : Kd} {l m : List k.T} {v v' : Value} {b : Nat}

/-- A row as the kit has it. -/
theorem RowOk.owns (h : RowOk w g.St v b e k l) (B : Nat) (hB : v ≠ nilSlice → B ≤ b) : ∃ xs, w.ownsRow B e k.size v l.length xs ∧
    (∀ i (hi : i < l.length), ∃ us, RdV w g.St k us l[i] ∧ ∀ j (hj : j < us.length), xs[i * k.size + j]? = some us[j]) ∧ (v ≠ nilSlice → v.ownBlock = some b ∧ ∀ o, o < l.length * k.size → xs[o]? = w.cell? ⟨b, o, none⟩) := by
  rcases h with ⟨rfl, rfl⟩ | ⟨cap, cur, rfl, h1, h2, h3, h4, h5⟩
  · exact ⟨[], ⟨by simp, .inl ⟨rfl, rfl⟩⟩, fun i hi => absurd hi (by simp), fun hn => absurd rfl hn⟩
  · have hle : l.length * k.size ≤ cur.size := by rw [h4]; exact Nat.mul_le_mul_right _ h2
    refine ⟨cur.toList.take (l.length * k.size), ⟨by simp [hle], .inr ⟨b, cap, cur, rfl, hB (by simp [nilSlice]), h1, h2, h3, h4, rfl⟩⟩, fun i hi => ?_, fun _ => ⟨rfl, fun o ho => ?_⟩⟩
    · obtain ⟨us, hu, hc⟩ := h5 i hi
      refine ⟨us, hu, fun j hj => ?_⟩
      have hlen := hu.len
      have hlt : i * k.size + j < l.length * k.size := by
        have : (i + 1) * k.size ≤ l.length * k.size := Nat.mul_le_mul_right _ (by omega)
        rw [Nat.add_mul, Nat.one_mul] at this
        omega
      rw [List.getElem?_take, if_pos hlt]
      simpa using hc j hj
    · rw [List.getElem?_take, if_pos ho]
      simp [World.cell?, h1]

/-- What an append leaves is a row. -/
theorem append_obj (h : Inv C w g H) (hold : H[id]? = some old) {xs news : List Value} {ver' : Nat} {fz : Bool}
    (hxs : ∀ i (hi : i < l.length), ∃ us, RdV w g.St k us l[i] ∧ ∀ j (hj : j < us.length), xs[i * k.size + j]? = some us[j])
    (hxl : xs.length = l.length * k.size)
    (hblk : v ≠ nilSlice → v.ownBlock = some b ∧ ∀ o, o < l.length * k.size → xs[o]? = w.cell? ⟨b, o, none⟩)
    (hnews : ∀ i (hi : i < m.length), ∃ us, RdV w g.St k us m[i] ∧ ∀ j (hj : j < us.length), news[i * k.size + j]? = some us[j])
    (hlv : v ≠ nilSlice → Live g H id ∧ b = g.bl id)
    (hSt : v ≠ nilSlice → ∀ o, g.St b o → fz = true ∧ o < l.length * k.size)
    {B : Nat} (hown : w'.ownsRow B e k.size v' (l.length + m.length) (xs ++ news))
    (hat : (v'.ownBlock = v.ownBlock ∧ w.grownBy w' v.ownBlock ∧ (v = nilSlice → v' = nilSlice)) ∨ (v'.ownBlock = some w.heap.size ∧ w.grownBy w' none))
    (hlater : ∀ g', Later g g' id old (.row e k (l ++ m) ver' fz)) :
    ∃ g', Inv C w' g' (H.set id (.row e k (l ++ m) ver' fz)) ∧ Ext w g H w' g' (H.set id (.row e k (l ++ m) ver' fz)) ∧ v' = g'.rv id ∧ ∀ j, j ≠ id → Live g H j → w'.heap[g.bl j]? = w.heap[g.bl j]? := by
  have hvn : v = nilSlice → v.ownBlock = none := fun e => by rw [e]; rfl
  have hvb : ∀ j, v.ownBlock = some j → v ≠ nilSlice := fun j hj e => by rw [hvn e] at hj; cases hj
  have hg : w.grownBy w' v.ownBlock := by
    rcases hat with ⟨_, hat, _⟩ | ⟨_, hat⟩
    · exact hat
    · exact ⟨hat.os, hat.tape, hat.output, hat.size, fun j hj _ => hat.block j hj (by simp)⟩
  have hsize : w.heap.size ≤ w'.heap.size := hg.size
  -- the new row's block
  obtain ⟨b', hb'⟩ : ∃ b', v' ≠ nilSlice → v'.ownBlock = some b' := by
    cases hv : v'.ownBlock with
    | none => exact ⟨0, fun hn => by
        rcases hown.2 with ⟨h1, _⟩ | ⟨g', cap, cur, h1, _⟩
        · exact absurd h1 hn
        · rw [h1] at hv; cases hv⟩
    | some x => exact ⟨x, fun _ => rfl⟩
  have hbelow : Bel C w' := h.below.to hg.os hg.tape hg.output hg.size (fun j hj hno => hg.block j (Nat.lt_of_lt_of_le hj h.below.size) (fun he => by
    have hn := hvb j he.symm
    rw [(hblk hn).1] at he
    injection he with he
    subst he
    have h1 := (h.new id (hlv hn).1).1
    rw [← (hlv hn).2] at h1
    rcases h1 with h1 | h1
    · omega
    · exact hno h1))
  have hcells : ∀ bb o, g.St bb o → w'.cell? ⟨bb, o, none⟩ = w.cell? ⟨bb, o, none⟩ := by
    intro bb o hs
    rcases hat with ⟨hat, hgr, _⟩ | ⟨_, hgr⟩
    · by_cases hrow : some bb = v.ownBlock
      · have hn := hvb bb hrow.symm
        have hbb : bb = b := by rw [(hblk hn).1] at hrow; injection hrow
        subst hbb
        have ho := (hSt hn o hs).2
        have hc := hown.cells (g := bb) (by rw [hat, ← hrow]) o
        have hx : xs[o]? = some (xs[o]'(by omega)) := List.getElem?_eq_getElem _
        have h2 := hc (xs[o]'(by omega)) (by rw [List.getElem?_append_left (by omega)]; exact hx)
        have hadd : (⟨bb, 0, none⟩ : Addr).add o = ⟨bb, o, none⟩ := by unfold Addr.add; split <;> simp_all
        rw [hadd] at h2
        rw [h2, ← (hblk hn).2 o ho, hx]
      · exact World.cell?_of_block (w := w) (hgr.block bb (h.lt bb o hs) hrow)
    · exact World.cell?_of_block (w := w) (hgr.block bb (h.lt bb o hs) (by simp))
  have hst := step_obj (w' := w') (g' := g.setRow id b' v') (ob := .row e k (l ++ m) ver' fz) h hold hbelow hsize
    (fun bb hbb hne => hg.block bb hbb (fun he => by
      have hn := hvb bb he.symm
      rw [(hblk hn).1] at he
      injection he with he
      subst he
      exact hne (hlv hn).1 (hlv hn).2))
    (fun j hj => by simp [Gh.setRow, hj]) (fun j hj => by simp [Gh.setRow, hj]) rfl hcells (hlater _)
    (fun hl => by
      rcases hl with ⟨t, cs, fz, h1⟩ | ⟨_, _, _, _, _, _, h1⟩
      · rw [set_get_eq hold] at h1; cases h1
      have hn' : v' ≠ nilSlice := by simpa [Gh.setRow] using h1
      simp only [Gh.setRow, if_true]
      have hvb' := hb' hn'
      rcases hat with ⟨h2, _, h3⟩ | ⟨h2, hgr⟩
      · rw [h2] at hvb'
        have hn := hvb b' hvb'
        rw [(hblk hn).1] at hvb'
        injection hvb' with hvb'
        subst hvb'
        exact .inl ⟨(hlv hn).1, (hlv hn).2⟩
      · rw [h2] at hvb'
        injection hvb' with hvb'
        subst hvb'
        have := (hown.lt _ h2).2
        exact .inr ⟨Nat.le_refl _, this⟩)
    (fun hx => by
      show RowOk _ _ _ _ _ _ _
      have hrv : (g.setRow id b' v').rv id = v' := by simp [Gh.setRow]
      have hbl : (g.setRow id b' v').bl id = b' := by simp [Gh.setRow]
      rw [hrv, hbl]
      rcases hown.2 with ⟨h1, h2⟩ | ⟨g', cap, cur, h1, h2, h3, h4, h5, h6, h7⟩
      · refine .inl ⟨h1, ?_⟩
        have : l ++ m = [] := List.eq_nil_of_length_eq_zero (by rw [List.length_append]; exact h2)
        exact this
      · have hbb : b' = g' := by
          have := hb' (by rw [h1]; simp [nilSlice])
          rw [h1] at this
          simpa [Value.ownBlock] using this.symm
        subst hbb
        refine .inr ⟨cap, cur, by rw [h1, List.length_append], h3, by rw [List.length_append]; exact h4, h5, h6, fun i hi => ?_⟩
        have hcur : ∀ (j : Nat) u, (xs ++ news)[j]? = some u → cur[j]? = some u := fun j u hj => by
          rw [← h7, List.getElem?_take] at hj
          split at hj
          · simpa using hj
          · cases hj
        by_cases hil : i < l.length
        · obtain ⟨us, hu, hc⟩ := hxs i hil
          refine ⟨us, ?_, fun j hj => hcur _ _ ?_⟩
          · rw [List.getElem_append_left hil]
            exact hu.keep hx.keeps
          · have hlt : i * k.size + j < l.length * k.size := by
              have hlen := hu.len
              have : (i + 1) * k.size ≤ l.length * k.size := Nat.mul_le_mul_right _ (by omega)
              rw [Nat.add_mul, Nat.one_mul] at this
              omega
            rw [List.getElem?_append_left (by omega)]
            exact hc j hj
        · have him : i - l.length < m.length := by rw [List.length_append] at hi; omega
          obtain ⟨us, hu, hc⟩ := hnews _ him
          refine ⟨us, ?_, fun j hj => hcur _ _ ?_⟩
          · rw [List.getElem_append_right (by omega)]
            exact hu.keep hx.keeps
          · have : i * k.size = l.length * k.size + (i - l.length) * k.size := by rw [← Nat.add_mul]; congr 1; omega
            rw [List.getElem?_append_right (by omega), hxl, this, Nat.add_assoc, Nat.add_sub_cancel_left]
            exact hc j hj)
    (fun _ _ _ he => by cases he)
    (fun e2 k2 l2 ver2 fz2 he hne o hs => by
      cases he
      have hn' : v' ≠ nilSlice := by simpa [Gh.setRow] using hne
      have hbl : (g.setRow id b' v').bl id = b' := by simp [Gh.setRow]
      rw [hbl] at hs
      have hvb' := hb' hn'
      rcases hat with ⟨h2, _, h3⟩ | ⟨h2, hgr⟩
      · rw [h2] at hvb'
        have hn := hvb b' hvb'
        rw [(hblk hn).1] at hvb'
        injection hvb' with hvb'
        subst hvb'
        have := hSt hn o hs
        exact ⟨this.1, by rw [List.length_append, Nat.add_mul]; omega⟩
      · rw [h2] at hvb'
        injection hvb' with hvb'
        subst hvb'
        exact absurd (h.lt _ _ hs) (Nat.lt_irrefl _))
  exact ⟨_, hst.1, hst.2, by simp [Gh.setRow], fun j hj hlj => hg.block _ (h.new j hlj).2 (fun he => by
      have hn := hvb _ he.symm
      rw [(hblk hn).1] at he
      injection he with he
      exact hj (h.apart _ _ hlj (hlv hn).1 (by rw [he, (hlv hn).2])))⟩

/-- An element of a row is written. -/
theorem set_row {ver : Nat} {y : k.T} {i cap : Nat} {cur cur' : Array Value} {us' : List Value} (h : Inv C w g H) (hn : H[id]? = some (.row e k l ver false))
    (hv : g.rv id = .slice (some ⟨g.bl id, 0, none⟩) l.length cap) (hb : w.heap[g.bl id]? = some (.cells cur e (0, 0))) (hi : i < l.length)
    (hlc : l.length ≤ cap) (hcm : cap ≤ maxLen) (hcs : cur.size = cap * k.size)
    (hel : ∀ i (hi : i < l.length), ∃ us, RdV w g.St k us l[i] ∧ ∀ j (hj : j < us.length), cur[i * k.size + j]? = some us[j])
    (hu : RdV w g.St k us' y) (hsz : cur'.size = cur.size) (hin : ∀ j (hj : j < us'.length), cur'[i * k.size + j]? = some us'[j])
    (hout : ∀ j, j < i * k.size ∨ (i + 1) * k.size ≤ j → cur'[j]? = cur[j]?) :
    Inv C (w.setRow (g.bl id) cur') g (H.set id (.row e k (l.set i y) ver false)) ∧ Ext w g H (w.setRow (g.bl id) cur') g (H.set id (.row e k (l.set i y) ver false)) := by
  have hne : g.rv id ≠ nilSlice := by rw [hv]; simp [nilSlice]
  have hl : Live g H id := .inr ⟨e, k, l, ver, false, hn, hne⟩
  have hns : ∀ o, ¬ g.St (g.bl id) o := fun o hs => by have := (h.row id e k l ver false hn hne o hs).1; cases this
  refine step_obj h hn (below_setRow h.below _ (h.new id hl).1 _) (by simp) (fun b hb hne => heap_setRow_ne w _ b _ (hne hl)) (fun _ _ => rfl) (fun _ _ => rfl) rfl
    (fun b o hs => cell_setRow_ne w _ b o _ (fun e => hns o (e ▸ hs))) ⟨e, k, l.set i y, ver, false, rfl, .inl ⟨rfl, rfl, by simp, rfl, rfl⟩⟩ (fun _ => .inl ⟨hl, rfl⟩) (fun hx => ?_) (fun _ _ _ he => by cases he)
    (fun _ _ _ _ _ _ _ o hs => absurd hs (hns o))
  show RowOk _ _ _ _ _ _ _
  refine .inr ⟨cap, cur', by rw [List.length_set]; exact hv, setRow_heap w _ cur _ e _ hb, by rw [List.length_set]; exact hlc, hcm, by rw [hsz]; exact hcs, fun j hj => ?_⟩
  rw [List.length_set] at hj
  by_cases e : i = j
  · subst e
    rw [List.getElem_set_self]
    exact ⟨us', hu.keep hx.keeps, hin⟩
  · obtain ⟨us, h1, h2⟩ := hel j hj
    rw [List.getElem_set_ne e]
    refine ⟨us, h1.keep hx.keeps, fun p hp => ?_⟩
    rw [hout _ ?_]
    · exact h2 p hp
    · have hlen := h1.len
      rcases Nat.lt_or_ge j i with hlt | hge
      · have : (j + 1) * k.size ≤ i * k.size := Nat.mul_le_mul_right _ (by omega)
        rw [Nat.add_mul, Nat.one_mul] at this
        exact .inl (by omega)
      · have : (i + 1) * k.size ≤ j * k.size := Nat.mul_le_mul_right _ (by omega)
        exact .inr (by omega)
end
end Go.Vm
