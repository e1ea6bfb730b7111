/- A small evaluator for the translated code, and the proof that what it computes the code does. -/
import Derived.Test.YtplbdggmaoanjaaVmD
/-! Soundness, part 3: an object is made or turned. -/
namespace Go.Vm
open Go.RowKit

section
variable {C : Ctx} {w w' : World} {g g' : Gh} {H : List Obj} {id : Nat} {old ob : Obj}

theorem set_get_ne {H : List Obj} {id j : Nat} {ob : Obj} (h : j ≠ id) : (H.set id ob)[j]? = H[j]? := by
  rw [List.getElem?_set, if_neg (fun e => h e.symm)]
theorem set_get_eq {H : List Obj} {id : Nat} {o ob : Obj} (h : H[id]? = some o) : (H.set id ob)[id]? = some ob := by
  rw [List.getElem?_set, if_pos rfl, if_pos (List.getElem?_eq_some_iff.1 h).1]


theorem live_ne {j : Nat} (hj : j ≠ id) (hrv : g'.rv j = g.rv j) : Live g' (H.set id ob) j ↔ Live g H j := by
  unfold Live
  rw [set_get_ne hj, hrv]

theorem step_obj (h : Inv C w g H) (hold : H[id]? = some old) (hbelow : Bel C w') (hsz : w.heap.size ≤ w'.heap.size)
    (hsame : ∀ b, b < w.heap.size → (Live g H id → b ≠ g.bl id) → w'.heap[b]? = w.heap[b]?)
    (hbl : ∀ j, j ≠ id → g'.bl j = g.bl j) (hrv : ∀ j, j ≠ id → g'.rv j = g.rv j) (hst : g'.St = g.St)
    (hcell : ∀ b o, g.St b o → w'.cell? ⟨b, o, none⟩ = w.cell? ⟨b, o, none⟩)
    (hlater : Later g g' id old ob)
    (hlive : Live g' (H.set id ob) id → (Live g H id ∧ g'.bl id = g.bl id) ∨ (w.heap.size ≤ g'.bl id ∧ g'.bl id < w'.heap.size))
    (hobj : Ext w g H w' g' (H.set id ob) → ObjOk w' g' (H.set id ob) id ob)
    (hbox : ∀ t cs fz, ob = .box t cs fz → ∀ o, g.St (g'.bl id) o → fz = true)
    (hrow : ∀ e k l ver fz, ob = .row e k l ver fz → g'.rv id ≠ nilSlice → ∀ o, g.St (g'.bl id) o → fz = true ∧ o < l.length * k.size) :
    Inv C w' g' (H.set id ob) ∧ Ext w g H w' g' (H.set id ob) := by
  have hx : Ext w g H w' g' (H.set id ob) := by
    refine ⟨⟨fun b o hs => by rw [hst]; exact hs, hcell⟩, fun j o hj => ?_⟩
    by_cases e : j = id
    · subst e
      rw [hold] at hj
      cases hj
      exact ⟨ob, set_get_eq hold, hlater⟩
    · refine ⟨o, by rw [set_get_ne e]; exact hj, ?_⟩
      cases o with
      | no => trivial
      | box t cs fz => exact ⟨⟨cs, fz, rfl⟩, hbl j e⟩
      | row e' k l ver fz => exact ⟨e', k, l, ver, fz, rfl, .inl ⟨rfl, rfl, rfl, hrv j e, hbl j e⟩⟩
  have hblk : ∀ j, j ≠ id → Live g H j → w'.heap[g.bl j]? = w.heap[g.bl j]? := fun j hj hl =>
    hsame _ (h.new j hl).2 (fun hi he => hj (h.apart j id hl hi he))
  refine ⟨⟨hbelow, fun b o hs => by rw [hst]; exact h.sub b o hs, fun b o hs => h.old b o (by rw [hst] at hs; exact hs), fun b o hs => Nat.lt_of_lt_of_le (h.lt b o (by rw [hst] at hs; exact hs)) hsz, ?_, ?_, ?_, ?_, ?_⟩, hx⟩
  · intro j o hj
    by_cases e : j = id
    · subst e
      rw [set_get_eq hold] at hj
      cases hj
      exact hobj hx
    · rw [set_get_ne e] at hj
      have ho := h.obj j o hj
      cases o with
      | no => trivial
      | box t cs fz =>
        obtain ⟨vs, h2, h3⟩ := ho
        refine ⟨vs, ?_, h3.ext hx⟩
        rw [hbl j e, hblk j e (.inl ⟨t, cs, fz, hj⟩)]
        exact h2
      | row e' k l ver fz =>
        show RowOk w' g'.St (g'.rv j) (g'.bl j) e' k l
        rw [hrv j e, hbl j e]
        exact RowOk.keep hx.keeps (fun hn => hblk j e (.inr ⟨e', k, l, ver, fz, hj, hn⟩)) ho
  · intro j hl
    by_cases e : j = id
    · subst e
      rcases hlive hl with ⟨h1, h2⟩ | ⟨h1, h2⟩
      · rw [h2]
        exact ⟨(h.new j h1).1, Nat.lt_of_lt_of_le (h.new j h1).2 hsz⟩
      · exact ⟨.inl (Nat.le_trans h.below.size h1), h2⟩
    · rw [live_ne e (hrv j e)] at hl
      rw [hbl j e]
      exact ⟨(h.new j hl).1, Nat.lt_of_lt_of_le (h.new j hl).2 hsz⟩
  · intro i j hi hj he
    by_cases ei : i = id
    · by_cases ej : j = id
      · rw [ei, ej]
      · rw [live_ne ej (hrv j ej)] at hj
        rw [ei, hbl j ej] at he
        rw [ei] at hi
        rcases hlive hi with ⟨h1, h2⟩ | ⟨h1, h2⟩
        · rw [h2] at he
          rw [ei]
          exact h.apart id j h1 hj he
        · have := (h.new j hj).2
          omega
    · rw [live_ne ei (hrv i ei)] at hi
      by_cases ej : j = id
      · rw [ej, hbl i ei] at he
        rw [ej] at hj
        rcases hlive hj with ⟨h1, h2⟩ | ⟨h1, h2⟩
        · rw [h2] at he
          rw [ej]
          exact h.apart i id hi h1 he
        · have := (h.new i hi).2
          omega
      · rw [live_ne ej (hrv j ej)] at hj
        rw [hbl i ei, hbl j ej] at he
        exact h.apart i j hi hj he
  · intro j t cs fz hj o hs
    rw [hst] at hs
    by_cases e : j = id
    · subst e
      rw [set_get_eq hold] at hj
      cases hj
      exact hbox t cs fz rfl o hs
    · rw [set_get_ne e] at hj
      rw [hbl j e] at hs
      exact h.box j t cs fz hj o hs
  · intro j e' k l ver fz hj hn o hs
    rw [hst] at hs
    by_cases e : j = id
    · subst e
      rw [set_get_eq hold] at hj
      cases hj
      exact hrow e' k l ver fz rfl hn o hs
    · rw [set_get_ne e] at hj
      rw [hbl j e] at hs
      rw [hrv j e] at hn
      exact h.row j e' k l ver fz hj hn o hs

/-- New blocks that are stable from the beginning. -/
theorem step_new (h : Inv C w g H) (hb : Below w.heap.size w w') :
    Inv C w' { St := fun b o => g.St b o ∨ (w.heap.size ≤ b ∧ b < w'.heap.size), bl := g.bl, rv := g.rv } H ∧ Ext w g H w' { St := fun b o => g.St b o ∨ (w.heap.size ≤ b ∧ b < w'.heap.size), bl := g.bl, rv := g.rv } H := by
  have hx : Ext w g H w' { St := fun b o => g.St b o ∨ (w.heap.size ≤ b ∧ b < w'.heap.size), bl := g.bl, rv := g.rv } H := by
    refine ⟨⟨fun b o hs => .inl hs, fun b o hs => World.cell?_of_block (w := w) (hb.block b (h.lt b o hs))⟩, fun j o hj => ⟨o, hj, ?_⟩⟩
    cases o with
    | no => trivial
    | box t cs fz => exact ⟨⟨cs, fz, rfl⟩, rfl⟩
    | row e' k l ver fz => exact ⟨e', k, l, ver, fz, rfl, .inl ⟨rfl, rfl, rfl, rfl, rfl⟩⟩
  refine ⟨⟨h.below.to hb.os hb.tape hb.output hb.size (fun b hbb _ => hb.block b (Nat.lt_of_lt_of_le hbb h.below.size)), fun b o hs => .inl (h.sub b o hs), ?_, ?_, ?_, ?_, ?_, ?_, ?_⟩, hx⟩
  · rintro b o (hs | hs)
    · exact h.old b o hs
    · exact .inr (.inl (Nat.le_trans h.below.size hs.1))
  · rintro b o (hs | hs)
    · exact Nat.lt_of_lt_of_le (h.lt b o hs) hb.size
    · exact hs.2
  · intro j o hj
    have ho := h.obj j o hj
    cases o with
    | no => trivial
    | box t cs fz =>
      obtain ⟨vs, h2, h3⟩ := ho
      exact ⟨vs, by rw [← h2]; exact hb.block _ (h.new j (.inl ⟨t, cs, fz, hj⟩)).2, h3.ext hx⟩
    | row e' k l ver fz => exact RowOk.keep hx.keeps (fun hn => hb.block _ (h.new j (.inr ⟨e', k, l, ver, fz, hj, hn⟩)).2) ho
  · intro j hl
    exact ⟨(h.new j hl).1, Nat.lt_of_lt_of_le (h.new j hl).2 hb.size⟩
  · exact h.apart
  · rintro j t cs fz hj o (hs | hs)
    · exact h.box j t cs fz hj o hs
    · have := (h.new j (.inl ⟨t, cs, fz, hj⟩)).2
      exact absurd hs.1 (by show ¬ w.heap.size ≤ g.bl j; omega)
  · rintro j e' k l ver fz hj hn o (hs | hs)
    · exact h.row j e' k l ver fz hj hn o hs
    · have := (h.new j (.inr ⟨e', k, l, ver, fz, hj, hn⟩)).2
      exact absurd hs.1 (by show ¬ w.heap.size ≤ g.bl j; omega)
end

/-! ### What is done to objects -/
section
variable {C : Ctx} {w : World} {g : Gh} {H : List Obj} {id : Nat}

def Gh.setBl (g : Gh) (id b : Nat) : Gh := { St := g.St, bl := fun j => if j = id then b else g.bl j, rv := g.rv }
def Gh.setRow (g : Gh) (id b : Nat) (v : Value) : Gh := { St := g.St, bl := fun j => if j = id then b else g.bl j, rv := fun j => if j = id then v else g.rv j }

theorem not_live_no {g : Gh} {H : List Obj} {id : Nat} (h : H[id]? = some .no) : ¬ Live g H id := by
  rintro (⟨t, cs, fz, h1⟩ | ⟨e, k, l, ver, fz, h1, _⟩) <;> rw [h] at h1 <;> cases h1

theorem size_alloc (w : World) (o : Go.Obj) : (w.alloc o).heap.size = w.heap.size + 1 := by show (w.heap.push o).size = _; simp

theorem below_alloc (h : Bel C w) (o : Go.Obj) : Bel C (w.alloc o) :=
  h.to rfl rfl rfl (by rw [size_alloc]; omega) (fun b hb _ => heap_alloc_old w o (Nat.lt_of_lt_of_le hb h.size))
theorem heap_old (w : World) (o : Go.Obj) (b : Nat) (h : b < w.heap.size) : (w.alloc o).heap[b]? = w.heap[b]? := heap_alloc_old w o h
theorem cell_alloc_lt (w : World) (o : Go.Obj) (b off : Nat) (h : b < w.heap.size) : (w.alloc o).cell? ⟨b, off, none⟩ = w.cell? ⟨b, off, none⟩ :=
  World.cell?_of_block (w := w) (heap_old w o b h)

/-- A variable is made. -/
theorem new_box (h : Inv C w g H) (hn : H[id]? = some .no) (t : TypeId) {cs : List Cell} {vs : Array Value} (hc : All2 (VC w g H) cs vs.toList) :
    Inv C (w.alloc (.cells vs t)) (g.setBl id w.heap.size) (H.set id (.box t cs false)) ∧ Ext w g H (w.alloc (.cells vs t)) (g.setBl id w.heap.size) (H.set id (.box t cs false)) := by
  refine step_obj h hn (below_alloc h.below _) (by rw [size_alloc]; omega) (fun b hb _ => heap_old w _ b hb) (fun j hj => by simp [Gh.setBl, hj]) (fun _ _ => rfl) rfl
    (fun b o hs => cell_alloc_lt w _ b o (h.lt b o hs)) trivial (fun _ => .inr ?_) (fun hx => ?_) (fun t' cs' fz' he o hs => ?_) (fun _ _ _ _ _ he => by cases he)
  · simp [Gh.setBl]
  · refine ⟨vs, ?_, hc.ext hx⟩
    simp only [Gh.setBl, if_true]
    exact heap_alloc_new w _
  · have := h.lt _ _ hs
    simp [Gh.setBl] at this

/-- The blocks of the others. -/
theorem kept_new (h : Inv C w g H) {w1 : World} (hw : ∀ b, b < w.heap.size → w1.heap[b]? = w.heap[b]?) : ∀ j, j ≠ id → Live g H j → w1.heap[g.bl j]? = w.heap[g.bl j]? :=
  fun j _ hl => hw _ (h.new j hl).2
theorem kept_set (h : Inv C w g H) {w1 : World} (hl : Live g H id) (hw : ∀ b, b ≠ g.bl id → w1.heap[b]? = w.heap[b]?) : ∀ j, j ≠ id → Live g H j → w1.heap[g.bl j]? = w.heap[g.bl j]? :=
  fun j hj hlj => hw _ (fun e => hj (h.apart _ _ hlj hl e))

/-- A row is made. -/
theorem new_row (h : Inv C w g H) (hn : H[id]? = some .no) (e : TypeId) (k : Kd) (l : List k.T) (ver : Nat) (fz : Bool) {cur : Array Value} {cap : Nat} (h1 : l.length ≤ cap) (h2 : cap ≤ maxLen) (h3 : cur.size = cap * k.size)
    (h4 : ∀ i (hi : i < l.length), ∃ us, RdV w g.St k us l[i] ∧ ∀ j (hj : j < us.length), cur[i * k.size + j]? = some us[j]) :
    Inv C (w.alloc (.cells cur e)) (g.setRow id w.heap.size (.slice (some ⟨w.heap.size, 0, none⟩) l.length cap)) (H.set id (.row e k l ver fz)) ∧
    Ext w g H (w.alloc (.cells cur e)) (g.setRow id w.heap.size (.slice (some ⟨w.heap.size, 0, none⟩) l.length cap)) (H.set id (.row e k l ver fz)) := by
  refine step_obj h hn (below_alloc h.below _) (by rw [size_alloc]; omega) (fun b hb _ => heap_old w _ b hb) (fun j hj => by simp [Gh.setRow, hj]) (fun j hj => by simp [Gh.setRow, hj]) rfl
    (fun b o hs => cell_alloc_lt w _ b o (h.lt b o hs)) trivial (fun _ => .inr ?_) (fun hx => ?_) (fun _ _ _ he => by cases he) (fun _ _ _ _ _ _ _ o hs => ?_)
  · simp [Gh.setRow]
  · show RowOk _ _ _ _ _ _ _
    refine .inr ⟨cap, cur, by simp [Gh.setRow], ?_, h1, h2, h3, fun i hi => ?_⟩
    · simp only [Gh.setRow, if_true]
      exact heap_alloc_new w _
    · obtain ⟨us, h5, h6⟩ := h4 i hi
      exact ⟨us, h5.keep hx.keeps, h6⟩
  · have := h.lt _ _ hs
    simp [Gh.setRow] at this

/-- A nil slice is told as a row. -/
theorem nil_row (h : Inv C w g H) (hn : H[id]? = some .no) (e : TypeId) (k : Kd) (ver : Nat) (fz : Bool) :
    Inv C w (g.setRow id 0 nilSlice) (H.set id (.row e k [] ver fz)) ∧ Ext w g H w (g.setRow id 0 nilSlice) (H.set id (.row e k [] ver fz)) := by
  refine step_obj h hn h.below (Nat.le_refl _) (fun _ _ _ => rfl) (fun j hj => by simp [Gh.setRow, hj]) (fun j hj => by simp [Gh.setRow, hj]) rfl
    (fun _ _ _ => rfl) trivial (fun hl => ?_) (fun hx => ?_) (fun _ _ _ he => by cases he) (fun _ _ _ _ _ _ hne => ?_)
  · rcases hl with ⟨t, cs, fz, h1⟩ | ⟨_, _, _, _, _, _, h1⟩
    · rw [set_get_eq hn] at h1
      cases h1
    · exact absurd (by simp [Gh.setRow]) h1
  · exact .inl ⟨by simp [Gh.setRow], rfl⟩
  · exact absurd (by simp [Gh.setRow]) hne

theorem cell_setRow_ne (w : World) (b b' off : Nat) (cs : Array Value) (h : b' ≠ b) : (w.setRow b cs).cell? ⟨b', off, none⟩ = w.cell? ⟨b', off, none⟩ :=
  World.cell?_of_block (w := w) (by rw [World.setRow]; exact (Array.getElem?_modify ..).trans (if_neg (fun e => h e.symm)))
theorem heap_setRow_ne (w : World) (b b' : Nat) (cs : Array Value) (h : b' ≠ b) : (w.setRow b cs).heap[b']? = w.heap[b']? := by
  rw [World.setRow]
  exact (Array.getElem?_modify ..).trans (if_neg (fun e => h e.symm))
theorem below_setRow (h : Bel C w) (b : Nat) (hb : C.w0.heap.size ≤ b ∨ C.own b) (cs : Array Value) : Bel C (w.setRow b cs) :=
  h.to rfl rfl rfl (by simp) (fun k hk hn => heap_setRow_ne w b k cs (fun e => by
    subst e
    rcases hb with hb | hb
    · omega
    · exact hn hb))

/-- A variable is written. -/
theorem set_box (h : Inv C w g H) {t : TypeId} {cs cs' : List Cell} (hn : H[id]? = some (.box t cs false)) {vs' : Array Value} (hc : All2 (VC w g H) cs' vs'.toList) :
    Inv C (w.setRow (g.bl id) vs') g (H.set id (.box t cs' false)) ∧ Ext w g H (w.setRow (g.bl id) vs') g (H.set id (.box t cs' false)) := by
  have hl : Live g H id := .inl ⟨t, cs, false, hn⟩
  have hns : ∀ o, ¬ g.St (g.bl id) o := fun o hs => by have := h.box id t cs false hn o hs; cases this
  obtain ⟨vs, hv, _⟩ := h.obj id _ hn
  refine step_obj h hn (below_setRow h.below _ (h.new id hl).1 _) (by simp) (fun b hb hne => heap_setRow_ne w _ b _ (hne hl)) (fun _ _ => rfl) (fun _ _ => rfl) rfl
    (fun b o hs => cell_setRow_ne w _ b o _ (fun e => hns o (e ▸ hs))) ⟨⟨cs', false, rfl⟩, rfl⟩ (fun _ => .inl ⟨hl, rfl⟩) (fun hx => ?_) (fun t' cs2 fz' he o hs => absurd hs (hns o)) (fun _ _ _ _ _ he => by cases he)
  exact ⟨vs', setRow_heap w _ vs _ t _ hv, hc.ext hx⟩
end
end Go.Vm
