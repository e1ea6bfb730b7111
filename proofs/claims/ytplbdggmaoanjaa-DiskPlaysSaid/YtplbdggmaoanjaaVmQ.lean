/- A small evaluator for the translated code, and the proof that what it computes the code does. -/
import Derived.Test.YtplbdggmaoanjaaVmP
/-! Soundness, part 14: where ways meet: the objects. -/
namespace Go.Vm
open Go.RowKit

theorem srcB_rows {H : List Obj} : ∀ {bs : List SB} {x : (kdB bs).T}, exB H bs = some x → ∀ i ∈ (srcB H bs).map (·.1), ∃ e k l ver fz, (i, Obj.row e k l ver fz) ∈ obB bs x
  | [], _, _ => fun i hi => by simp [srcB] at hi
  | b :: bs, x, h => by
    simp only [exB] at h
    split at h
    · rename_i t cs fz hob
      split at h
      · split at h
        · rename_i x1 h1
          split at h
          · rename_i y h2
            injection h with h
            subst h
            have e1 : srcB H (b :: bs) = srcL b.cs (cs.map AV.c) ++ srcB H bs := by simp only [srcB, hob]
            rw [e1]
            intro i hi
            simp only [List.map_append, List.mem_append, srcL_ids h1] at hi
            rcases hi with hi | hi
            · rw [← obL_ids b.cs x1] at hi
              obtain ⟨ob, ho⟩ := mem_ids hi
              obtain ⟨e, k, l, ver, fz, h3, _⟩ := exL_rows h1 _ ho
              dsimp only at h3
              subst h3
              exact ⟨e, k, l, ver, fz, by simp [obB, ho]⟩
            · obtain ⟨e, k, l, ver, fz, h3⟩ := srcB_rows h2 i hi
              exact ⟨e, k, l, ver, fz, by simp [obB, h3]⟩
          · cases h
        · cases h
      · cases h
    · cases h

/-- Where the told rows come from. -/
def Shape.src (s : Shape) (Γ' : G) (vs : List AV) : List (Nat × Option Nat) := srcL s.ts vs ++ (srcB Γ'.h s.b ++ s.dd.map fun d => (d.id, none))
def Shape.rds (s : Shape) (Γ' : G) (vs : List AV) : List Nat := readL s.ts vs ++ readB Γ'.h s.b
def Gh.told (g1 : Gh) (S : List (Nat × Option Nat)) : Gh :=
  { St := g1.St,
    bl := fun id => match look S id with | some (some j) => g1.bl j | some none => 0 | none => g1.bl id,
    rv := fun id => match look S id with | some (some j) => g1.rv j | some none => nilSlice | none => g1.rv id }
def srcOf (S : List (Nat × Option Nat)) (id : Nat) : Nat := match look S id with | some (some j) => j | _ => id

section
variable {C : Ctx} {w w' : World} {g g' : Gh} {Γ Γ' : G} {s : Shape} {vs : List AV} {x : s.kd.T}

/-- What the told objects are. -/
theorem obs_from (ex : ExtOk s Γ' vs x) : ∀ p ∈ s.obs x,
    RowFrom Γ'.h (s.src Γ' vs) (hotL s.ts vs ++ hotB Γ'.h s.b) p ∨ BoxFrom Γ'.h s.b (s.src Γ' vs) (s.rds Γ' vs) (s.obs x) p ∨
    (∃ r ∈ s.r, ∃ l : List r.k.T, ∃ fz', p = (r.id, .row r.e r.k l r.ver r.fz) ∧ Γ'.h[r.id]? = some (.row r.e r.k l r.ver fz') ∧ (fz' = true → r.fz = true) ∧ (r.fz = false → r.id ∈ hotR s.r)) ∨ p.2 = .no := by
  intro p hp
  simp only [Shape.obs, List.mem_append] at hp
  rcases hp with hp | hp | hp | hp | hp
  · exact .inl ((exL_rows ex.xt p hp).mono (fun _ h => by simp [Shape.src, h]) (fun _ h => by simp [h]))
  · rcases exB_obs ex.xb p hp with h | h
    · exact .inl (h.mono (fun _ h => by simp [Shape.src, h]) (fun _ h => by simp [h]))
    · exact .inr (.inl (h.mono (fun _ h => h) (fun _ h => by simp [Shape.src, h]) (fun _ h => by simp [Shape.rds, h]) (fun _ h => by simp [Shape.obs, h])))
  · exact .inr (.inr (.inl (exR_obs ex.xr p hp)))
  · obtain ⟨d, hd, rfl⟩ := obD_mem hp
    exact .inl ⟨d.e, d.k, [], d.ver, false, rfl, .inl ⟨by simp only [Shape.src, List.mem_append, List.mem_map]; exact .inr (.inr ⟨d, hd, rfl⟩), rfl⟩⟩
  · exact .inr (.inr (.inr (obN_mem hp).2))

theorem idR_mem : ∀ {rs : List SR} {r : SR}, r ∈ rs → r.id ∈ idR rs
  | a :: l, r, h => by
    rcases List.mem_cons.1 h with rfl | h
    · simp [idR]
    · simp [idR, idR_mem h]
theorem bIds_mem : ∀ {rs : List SB} {r : SB}, r ∈ rs → r.id ∈ bIds rs
  | a :: l, r, h => by
    rcases List.mem_cons.1 h with rfl | h
    · simp [bIds]
    · simp [bIds, bIds_mem h]
theorem bIds_of : ∀ {rs : List SB} {i : Nat}, i ∈ bIds rs → ∃ r ∈ rs, r.id = i
  | a :: l, i, h => by
    simp only [bIds, List.mem_cons] at h
    rcases h with rfl | h
    · exact ⟨a, List.mem_cons_self, rfl⟩
    · obtain ⟨r, h1, h2⟩ := bIds_of h
      exact ⟨r, List.mem_cons_of_mem _ h1, h2⟩
theorem obB_box : ∀ {bs : List SB} (x : (kdB bs).T) {b : SB}, b ∈ bs → ∃ cs, (b.id, Obj.box b.t cs b.fz) ∈ obB bs x
  | a :: l, x, b, h => by
    rcases List.mem_cons.1 h with rfl | h
    · exact ⟨_, by simp [obB]; exact .inl rfl⟩
    · obtain ⟨cs, h1⟩ := obB_box x.2 h
      exact ⟨cs, by simp [obB, h1]⟩
theorem idR_dd (ds : List SR) : (ds.map fun d => (d.id, (none : Option Nat))).map (·.1) = idR ds := by
  induction ds with
  | nil => rfl
  | cons d l ih => simp only [List.map_cons, idR, ih]

theorem src_keys (ex : ExtOk s Γ' vs x) : List.Sublist ((s.src Γ' vs).map (·.1)) s.ids := by
  simp only [Shape.src, Shape.ids, List.map_append, srcL_ids ex.xt, idR_dd]
  refine List.Sublist.append (List.Sublist.refl _) (List.Sublist.append (srcB_ids ex.xb) ?_)
  exact (List.sublist_append_left _ _).trans (List.sublist_append_right _ _)
theorem key_row (ex : ExtOk s Γ' vs x) : ∀ i ∈ (s.src Γ' vs).map (·.1), ∃ e k l ver fz, (i, Obj.row e k l ver fz) ∈ s.obs x := by
  intro i hi
  simp only [Shape.src, List.map_append, List.mem_append, srcL_ids ex.xt, idR_dd] at hi
  rcases hi with hi | hi | hi
  · rw [← obL_ids s.ts x.1] at hi
    obtain ⟨ob, ho⟩ := mem_ids hi
    obtain ⟨e, k, l, ver, fz, h3, _⟩ := exL_rows ex.xt _ ho
    dsimp only at h3
    subst h3
    exact ⟨e, k, l, ver, fz, by simp [Shape.obs, ho]⟩
  · obtain ⟨e, k, l, ver, fz, h3⟩ := srcB_rows ex.xb i hi
    exact ⟨e, k, l, ver, fz, by simp [Shape.obs, h3]⟩
  · rw [← obD_ids] at hi
    obtain ⟨ob, ho⟩ := mem_ids hi
    obtain ⟨d, _, h1⟩ := obD_mem ho
    injection h1 with h1 h2
    subst h2
    exact ⟨_, _, _, _, _, by simp only [Shape.obs, List.mem_append]; exact .inr (.inr (.inr (.inl ho)))⟩
theorem r_nokey (ok : OkIs s Γ.h) (ex : ExtOk s Γ' vs x) : ∀ i ∈ idR s.r, i ∉ (s.src Γ' vs).map (·.1) := by
  intro i hi hk
  simp only [Shape.src, List.map_append, List.mem_append, srcL_ids ex.xt, idR_dd] at hk
  have hn := ok.nodup
  simp only [Shape.ids] at hn
  obtain ⟨_, hn2, hd1⟩ := List.nodup_append.1 hn
  obtain ⟨_, hn3, hd2⟩ := List.nodup_append.1 hn2
  obtain ⟨_, _, hd3⟩ := List.nodup_append.1 hn3
  rcases hk with hk | hk | hk
  · exact hd1 i hk i (by simp [hi]) rfl
  · exact hd2 i ((srcB_ids ex.xb).subset hk) i (by simp [hi]) rfl
  · exact hd3 i hi i (by simp [hk]) rfl
theorem nokey {g1 : Gh} {S : List (Nat × Option Nat)} {i : Nat} (h : i ∉ S.map (·.1)) : (g1.told S).bl i = g1.bl i ∧ (g1.told S).rv i = g1.rv i ∧ srcOf S i = i := by
  simp [Gh.told, srcOf, look_out h]
end
end Go.Vm
