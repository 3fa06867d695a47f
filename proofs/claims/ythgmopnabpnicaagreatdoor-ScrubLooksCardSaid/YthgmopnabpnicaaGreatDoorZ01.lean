import Derived.Test.YthgmopnabpnicaaGreatDoorZ00
set_option linter.all false
namespace Go.Ab
open Go
variable [Glob]

/-- A box's cells turn. -/
theorem HeapOK.setBox {w : World} {S : Nat → Prop} {φ : Pm} {h : Nat → AObj} {n : Nat} (H : HeapOK w S φ h n) (i : Nat) {cells cells' : List AV}
    (hi : h i = .box cells) {b sz cap : Nat} (hb : φ i 0 = some (.at b sz cap)) (w' : World) (cs' : Array Value) (hlen : cells'.length = cells.length)
    (hrow : RowAt w' b cs') (hkeep : ∀ k, k ≠ b → w'.heap[k]? = w.heap[k]?) (hsize : w'.heap.size = w.heap.size)
    (hos : w'.os = w.os) (htape : w'.tape = w.tape) (hout : w'.output = w.output) (hr : BoxRel w S φ cells' cs') :
    HeapOK w' S φ (upd h i (.box cells')) n ∧ Step w S φ h w' S φ (upd h i (.box cells')) := by
  have ho := H.obj i
  rw [hi] at ho
  obtain ⟨b', cs, h1, h2, h3⟩ := ho
  rw [hb] at h1; cases h1
  have hl : LiveAt φ h i b := ⟨0, _, _, by rw [hi]; rfl, hb⟩
  have hSb : ¬ S b := H.sep i b hl
  have hks : ∀ k, S k → w'.heap[k]? = w.heap[k]? := fun k hk => hkeep k fun e => hSb (e ▸ hk)
  have hin : i < n := by
    rcases Nat.lt_or_ge i n with h' | h'
    · exact h'
    · have := (H.new i h').1; rw [hi] at this; cases this
  have lv : ∀ k, LiveAt φ (upd h i (.box cells')) i k → k = b := fun k ⟨g, sz, cap, h4, h5⟩ => by
    rw [upd_same] at h4; cases h4; rw [hb] at h5; cases h5; rfl
  exact H.turn i (fun id hid => upd_ne _ _ hid) (fun _ _ _ => rfl) (Pm.le_refl _) hos htape hout (by omega) (fun _ h => h)
    (fun k _ hk => hkeep k fun e => hk (e ▸ hl))
    (by rw [upd_same]; exact ⟨b, cs', by rw [hb, hlen], hrow, hr.mono hks (fun _ h => h) (Pm.le_refl _)⟩)
    (fun k hk => .inl (lv k hk ▸ hl)) (fun k hk => .inl hk) (fun k hk => lv k hk ▸ hSb) (Nat.le_refl _) hin (by rw [upd_same]; intro h; cases h)

/-- A row turns: in its place, or in a new one. -/
theorem HeapOK.setRow {w : World} {S : Nat → Prop} {φ : Pm} {h : Nat → AObj} {n : Nat} (H : HeapOK w S φ h n) (i : Nat) {sz g : Nat} {xs : List (List AV)}
    (hi : h i = .row sz g xs) (g' : Nat) (xs' : List (List AV)) (b cap : Nat) (w' : World) (cs' : Array Value)
    (hg : (g' = g ∧ φ i g = some (.at b sz cap)) ∨ (g' = g + 1 ∧ φ i g = some (.at b sz cap)) ∨ (g' = g + 1 ∧ b = w.heap.size))
    (hrow : RowAt w' b cs') (hsz : cs'.size = cap * sz) (hcap : xs'.length ≤ cap)
    (hkeep : ∀ k, k ≠ b → k < w.heap.size → w'.heap[k]? = w.heap[k]?) (hsize : w.heap.size ≤ w'.heap.size)
    (hos : w'.os = w.os) (htape : w'.tape = w.tape) (hout : w'.output = w.output) (hr : RowRel w S sz xs' cs') :
    ∃ φ', HeapOK w' S φ' (upd h i (.row sz g' xs')) n ∧ Step w S φ h w' S φ' (upd h i (.row sz g' xs')) ∧ φ' i g' = some (.at b sz cap) := by
  have ho := H.obj i
  rw [hi] at ho
  obtain ⟨hnone, ho⟩ := ho
  have hin : i < n := by
    rcases Nat.lt_or_ge i n with h' | h'
    · exact h'
    · have := (H.new i h').1; rw [hi] at this; cases this
  have hbS : ¬ S b := by
    rcases hg with ⟨_, h1⟩ | ⟨_, h1⟩ | ⟨_, h1⟩
    · exact H.sep i b ⟨g, _, _, by rw [hi]; rfl, h1⟩
    · exact H.sep i b ⟨g, _, _, by rw [hi]; rfl, h1⟩
    · intro hb; have := H.bnd b hb; omega
  have hks : ∀ k, S k → w'.heap[k]? = w.heap[k]? := fun k hk => hkeep k (fun e => hbS (e ▸ hk)) (H.bnd k hk)
  have hle : φ.le (upd2 φ i g' (.at b sz cap)) := by
    intro i' g'' p hp
    unfold upd2
    split
    · rename_i e
      obtain ⟨rfl, rfl⟩ := e
      rcases hg with ⟨rfl, h1⟩ | ⟨rfl, _⟩ | ⟨rfl, _⟩
      · rw [h1] at hp; exact hp
      · rw [hnone (g + 1) (by omega)] at hp; cases hp
      · rw [hnone (g + 1) (by omega)] at hp; cases hp
    · exact hp
  have hgg : g ≤ g' := by rcases hg with ⟨rfl, _⟩ | ⟨rfl, _⟩ | ⟨rfl, _⟩ <;> omega
  have lv : ∀ k, LiveAt (upd2 φ i g' (.at b sz cap)) (upd h i (.row sz g' xs')) i k → k = b := fun k ⟨g2, sz2, cap2, h4, h5⟩ => by
    rw [upd_same] at h4; cases h4; simp [upd2] at h5; omega
  have lv' : ∀ k, LiveAt (upd2 φ i g' (.at b sz cap)) (upd h i (.row sz g' xs')) i k → LiveAt φ h i k ∨ w.heap.size ≤ k := fun k hk => by
    have e := lv k hk
    subst e
    rcases hg with ⟨_, h1⟩ | ⟨_, h1⟩ | ⟨_, h1⟩
    · exact .inl ⟨g, _, _, by rw [hi]; rfl, h1⟩
    · exact .inl ⟨g, _, _, by rw [hi]; rfl, h1⟩
    · exact .inr (by omega)
  have := H.turn (w' := w') (S' := S) (φ' := upd2 φ i g' (.at b sz cap)) (h' := upd h i (.row sz g' xs')) (n' := n) i (fun id hid => upd_ne _ _ hid) (fun id g2 hid => by simp [upd2, hid]) hle hos htape hout hsize (fun _ h => h)
    (fun k hk hnl => hkeep k (fun e => by
      rcases hg with ⟨_, h1⟩ | ⟨_, h1⟩ | ⟨_, h1⟩
      · exact hnl (e ▸ ⟨g, _, _, by rw [hi]; rfl, h1⟩)
      · exact hnl (e ▸ ⟨g, _, _, by rw [hi]; rfl, h1⟩)
      · omega) hk)
    (by
      rw [upd_same]
      refine ⟨fun g2 hg2 => ?_, .inr ⟨b, cap, cs', by simp [upd2], hrow, hsz, hcap, hr.mono hks (fun _ h => h)⟩⟩
      have e : g2 ≠ g' := by omega
      simp only [upd2, e, and_false, if_false]
      exact hnone g2 (by omega))
    lv' (fun k hk => .inl hk) (fun k hk => lv k hk ▸ hbS) (Nat.le_refl _) hin (by rw [upd_same]; intro h; cases h)
  exact ⟨_, this.1, this.2, by simp [upd2]⟩

/-- A row is frozen: it is written no more. -/
theorem HeapOK.freezeRow {w : World} {S : Nat → Prop} {φ : Pm} {h : Nat → AObj} {n : Nat} (H : HeapOK w S φ h n) (i : Nat) {sz g : Nat} {xs : List (List AV)}
    (hi : h i = .row sz g xs) : ∃ S', HeapOK w S' φ (upd h i (.frow sz g xs)) n ∧ Step w S φ h w S' φ (upd h i (.frow sz g xs)) := by
  have ho := H.obj i
  rw [hi] at ho
  obtain ⟨hnone, ho⟩ := ho
  have hin : i < n := by
    rcases Nat.lt_or_ge i n with h' | h'
    · exact h'
    · have := (H.new i h').1; rw [hi] at this; cases this
  have hSS : ∀ b, S b → S b ∨ LiveAt φ h i b := fun _ h => .inl h
  refine ⟨fun b => S b ∨ LiveAt φ h i b, ?_⟩
  exact H.turn i (fun id hid => upd_ne _ _ hid) (fun _ _ _ => rfl) (Pm.le_refl _) rfl rfl rfl (Nat.le_refl _) hSS (fun _ _ _ => rfl)
    (by
      rw [upd_same]
      rcases ho with ho | ⟨b, cap, cs, h1, h2, h3, h4, h5⟩
      · exact .inl ho
      · exact .inr ⟨b, cap, cs, h1, h2, h3, h4, h5.mono (fun _ _ => rfl) hSS, .inr ⟨g, _, _, by rw [hi]; rfl, h1⟩⟩)
    (fun b ⟨g2, sz2, cap2, h4, h5⟩ => by rw [upd_same] at h4; cases h4)
    (fun b hb => by
      rcases hb with hb | hb
      · exact .inl hb
      · exact .inr ⟨.inl hb, H.live_lt hb⟩)
    (fun b ⟨g2, sz2, cap2, h4, h5⟩ => by rw [upd_same] at h4; cases h4)
    (Nat.le_refl _) hin (by rw [upd_same]; intro h; cases h)

/-- A box is frozen. -/
theorem HeapOK.freezeBox {w : World} {S : Nat → Prop} {φ : Pm} {h : Nat → AObj} {n : Nat} (H : HeapOK w S φ h n) (i : Nat) {cells : List AV}
    (hi : h i = .box cells) (hf : ∀ b cs, φ i 0 = some (.at b 1 cells.length) → RowAt w b cs → BoxRel w S φ cells cs → BoxRel w S pm0 cells cs) :
    ∃ S', HeapOK w S' φ (upd h i (.fbox cells)) n ∧ Step w S φ h w S' φ (upd h i (.fbox cells)) := by
  have ho := H.obj i
  rw [hi] at ho
  obtain ⟨b, cs, h1, h2, h3⟩ := ho
  have hin : i < n := by
    rcases Nat.lt_or_ge i n with h' | h'
    · exact h'
    · have := (H.new i h').1; rw [hi] at this; cases this
  have hSS : ∀ b, S b → S b ∨ LiveAt φ h i b := fun _ h => .inl h
  refine ⟨fun b => S b ∨ LiveAt φ h i b, ?_⟩
  exact H.turn i (fun id hid => upd_ne _ _ hid) (fun _ _ _ => rfl) (Pm.le_refl _) rfl rfl rfl (Nat.le_refl _) hSS (fun _ _ _ => rfl)
    (by
      rw [upd_same]
      exact ⟨b, cs, h1, h2, (hf b cs h1 h2 h3).mono (fun _ _ => rfl) hSS (Pm.le_refl _), .inr ⟨0, _, _, by rw [hi]; rfl, h1⟩⟩)
    (fun b ⟨g2, sz2, cap2, h4, h5⟩ => by rw [upd_same] at h4; cases h4)
    (fun b hb => by
      rcases hb with hb | hb
      · exact .inl hb
      · exact .inr ⟨.inl hb, H.live_lt hb⟩)
    (fun b ⟨g2, sz2, cap2, h4, h5⟩ => by rw [upd_same] at h4; cases h4)
    (Nat.le_refl _) hin (by rw [upd_same]; intro h; cases h)

/-- A row that is nil: nothing lies in memory. -/
theorem HeapOK.nilRow {w : World} {S : Nat → Prop} {φ : Pm} {h : Nat → AObj} {n : Nat} (H : HeapOK w S φ h n) (i : Nat) (n' : Nat) (hn : n ≤ n') (hi : i < n') (sz g : Nat)
    (hg : (Fr φ h i ∧ g = 0) ∨ ∃ g0, h i = .row sz g0 [] ∧ φ i g0 = some .nil ∧ g = g0 + 1) :
    ∃ φ', HeapOK w S φ' (upd h i (.row sz g [])) n' ∧ Step w S φ h w S φ' (upd h i (.row sz g [])) ∧ φ' i g = some .nil := by
  have hnone : (∀ g', g ≤ g' → φ i g' = none) ∧ ∀ b, ¬ LiveAt φ h i b := by
    rcases hg with ⟨h1, rfl⟩ | ⟨g0, h1, h2, rfl⟩
    · obtain ⟨h3, h4⟩ := h1
      exact ⟨fun g' _ => h4 g', fun b ⟨g2, sz2, cap2, h5, _⟩ => by rw [h3] at h5; cases h5⟩
    · have ho := H.obj i
      rw [h1] at ho
      exact ⟨fun g' hg' => ho.1 g' (by omega), fun b ⟨g2, sz2, cap2, h5, h6⟩ => by rw [h1] at h5; cases h5; rw [h2] at h6; cases h6⟩
  have lv : ∀ b, ¬ LiveAt (upd2 φ i g .nil) (upd h i (.row sz g [])) i b := fun b ⟨g2, sz2, cap2, h5, h6⟩ => by
    rw [upd_same] at h5; cases h5; simp [upd2] at h6
  have := H.turn (w' := w) (S' := S) (φ' := upd2 φ i g .nil) (h' := upd h i (.row sz g [])) (n' := n') i (fun id hid => upd_ne _ _ hid) (fun id g2 hid => by simp [upd2, hid])
    (upd2_le (hnone.1 g (Nat.le_refl _))) rfl rfl rfl (Nat.le_refl _) (fun _ h => h) (fun _ _ _ => rfl)
    (by
      rw [upd_same]
      refine ⟨fun g2 hg2 => ?_, .inl ⟨by simp [upd2], rfl⟩⟩
      have e : g2 ≠ g := by omega
      simp only [upd2, e, and_false, if_false]
      exact hnone.1 g2 (by omega))
    (fun b hb => absurd hb (lv b)) (fun b hb => .inl hb) (fun b hb => absurd hb (lv b)) hn hi (by rw [upd_same]; intro h; cases h)
  exact ⟨_, this.1, this.2, by simp [upd2]⟩

/-- A draw turns nothing. -/
theorem HeapOK.congr {w w' : World} {S : Nat → Prop} {φ : Pm} {h : Nat → AObj} {n n' : Nat} (H : HeapOK w S φ h n) (hh : w'.heap = w.heap)
    (hos : w'.os = w.os) (htape : w'.tape = w.tape) (hout : w'.output = w.output) (hn : n ≤ n') :
    HeapOK w' S φ h n' ∧ Step w S φ h w' S φ h := by
  refine ⟨⟨fun id => (H.obj id).mono (fun _ _ => by rw [hh]) (fun _ h => h) (Pm.le_refl _) (fun _ => rfl) (fun _ _ _ _ _ _ => by rw [hh]), H.inj, H.sep,
    fun b hb => by rw [hh]; exact H.bnd b hb, fun id hid => H.new id (by omega), Glob.mono H.glob (fun _ _ => by rw [hh]) (fun _ h => h)⟩,
    ⟨hos, htape, hout, by rw [hh]; exact Nat.le_refl _, fun _ h => h, Pm.le_refl _, fun _ _ _ => by rw [hh], fun _ h => .inl h, fun id _ h => .inl ⟨id, h⟩, fun _ e => e, fun _ _ e _ => e⟩⟩

end Go.Ab
namespace Go.Ab
open Go
variable [Glob]

theorem add_off (b o n : Nat) : (⟨b, o, none⟩ : Addr).add n = ⟨b, o + n, none⟩ := by
  unfold Addr.add
  split
  · rename_i h; subst h; rfl
  · rfl

/-- cells from a place on -/
def CellsAt (w : World) (b off : Nat) (vs : List Value) : Prop := ∀ j v, vs[j]? = some v → w.cell? ⟨b, off + j, none⟩ = some v

theorem run_loadCells_at {P : Program} {w : World} {b off : Nat} {vs : List Value} (h : CellsAt w b off vs) :
    (loadCells ⟨b, off, none⟩ vs.length).run P w = .ok vs.toArray w :=
  run_loadCells_list w _ vs fun j v hj => by rw [add_off]; exact h j v hj

def setA (cs : Array Value) (off : Nat) : List Value → Array Value
  | [] => cs
  | v :: vs => setA (cs.setIfInBounds off v) (off + 1) vs
theorem setA_size (cs : Array Value) (off : Nat) (vs : List Value) : (setA cs off vs).size = cs.size := by
  induction vs generalizing cs off with
  | nil => rfl
  | cons v vs ih => rw [setA, ih]; simp
theorem setA_get (vs : List Value) : ∀ (cs : Array Value) (off j : Nat), off + vs.length ≤ cs.size →
    (setA cs off vs)[j]? = if off ≤ j ∧ j < off + vs.length then vs[j - off]? else cs[j]? := by
  induction vs with
  | nil => intro cs off j _; rw [if_neg (by simp)]; rfl
  | cons v vs ih =>
    intro cs off j h
    simp only [List.length_cons] at h ⊢
    rw [setA, ih _ _ _ (by simp; omega)]
    by_cases h1 : off + 1 ≤ j ∧ j < off + 1 + vs.length
    · rw [if_pos h1, if_pos (by omega)]
      have : j - off = (j - (off + 1)) + 1 := by omega
      rw [this, List.getElem?_cons_succ]
    · rw [if_neg h1]
      by_cases h2 : j = off
      · subst h2
        rw [if_pos (by omega)]
        simp [show j < cs.size by omega]
      · rw [if_neg (by omega), Array.getElem?_setIfInBounds_ne (by omega)]

theorem RowAt.setCell {w : World} {b off : Nat} {cs : Array Value} (h : RowAt w b cs) (v : Value) :
    RowAt (w.setCell ⟨b, off, none⟩ v) b (cs.setIfInBounds off v) := by
  obtain ⟨ty, fz, h1, h2⟩ := h
  refine ⟨ty, fz, ?_, fun o ho => h2 o (by simpa using ho)⟩
  simp [World.setCell, Array.getElem?_modify, h1]
theorem setCell_other (w : World) (b off k : Nat) (v : Value) (h : k ≠ b) : (w.setCell ⟨b, off, none⟩ v).heap[k]? = w.heap[k]? := by
  simp only [World.setCell, Array.getElem?_modify]
  rw [if_neg (by omega)]

/-- What a store of cells leaves. -/
structure Stored (w w' : World) (b : Nat) : Prop where
  keep : ∀ k, k ≠ b → w'.heap[k]? = w.heap[k]?
  size : w'.heap.size = w.heap.size
  os : w'.os = w.os
  tape : w'.tape = w.tape
  out : w'.output = w.output

theorem run_storeCells_row {P : Program} {b : Nat} : ∀ (vs : List Value) (w : World) (off i : Nat) (cs : Array Value), RowAt w b cs → off + i + vs.length ≤ cs.size →
    (∀ v, v ∈ vs → v.oneCell' = true) →
    ∃ w', (storeCells ⟨b, off, none⟩ vs i).run P w = .ok () w' ∧ RowAt w' b (setA cs (off + i) vs) ∧ Stored w w' b := by
  intro vs
  induction vs with
  | nil => intro w off i cs hr _ _; exact ⟨w, by simp [storeCells], hr, ⟨fun _ _ => rfl, rfl, rfl, rfl, rfl⟩⟩
  | cons v vs ih =>
    intro w off i cs hr hb h1
    simp only [List.length_cons] at hb
    have hc : w.cell? ⟨b, off + i, none⟩ = some (cs[off + i]'(by omega)) := by rw [hr.cell]; simp [show off + i < cs.size by omega]
    have hf := hr.frozen (off := off + i) (by omega)
    obtain ⟨w', e1, e2, e3⟩ := ih (w.setCell ⟨b, off + i, none⟩ v) off (i + 1) _ (hr.setCell v) (by simp; omega) (fun u hu => h1 u (by simp [hu]))
    refine ⟨w', ?_, by rw [show off + i = off + i from rfl, setA]; exact e2, ⟨fun k hk => (e3.keep k hk).trans (setCell_other _ _ _ _ _ hk), ?_, e3.os, e3.tape, e3.out⟩⟩
    · simp only [storeCells, Sem.run_bind, add_off]
      rw [run_store P w _ v _ (h1 v (by simp)), hc]
      simp only [hf]
      exact e1
    · rw [e3.size]; simp [World.setCell]

theorem run_isAgg {P : Program} {w : World} {t : TypeId} {g : Bool} (h : tAgg P t = some g) : (isAgg t).run P w = .ok g w := by
  unfold tAgg at h
  cases hu : P.underlying t with
  | none => rw [hu] at h; cases h
  | some d =>
    rw [hu] at h
    simp only [Option.map_some, Option.some.injEq] at h
    simp only [isAgg, Sem.run_bind, underlying, run_program, hu, Sem.run_pure, Result.andThen]
    subst h
    cases d <;> rfl
theorem run_sizeOf {P : Program} {w : World} {t : TypeId} {n : Nat} (h : tSize P t = some n) : (sizeOf t).run P w = .ok n w := by
  unfold tSize at h
  cases hu : P.info? t with
  | none => rw [hu] at h; cases h
  | some i =>
    rw [hu] at h
    simp only [Option.map_some, Option.some.injEq] at h
    simp [sizeOf, typeInfo, hu, Result.andThen, h]

/-- A variable is loaded. -/
theorem run_loadVar_at {P : Program} {w : World} {t : TypeId} {n : Nat} {g : Bool} {b off : Nat} {vs : List Value} (hn : tSize P t = some n) (hg : tAgg P t = some g)
    (hv : vs.length = n) (h : CellsAt w b off vs) (h1 : g = false → n = 1) :
    ∃ x, (loadVar t ⟨b, off, none⟩).run P w = .ok x w ∧ (g = true → x = .agg vs.toArray) ∧ (g = false → vs = [x]) := by
  cases g with
  | true =>
    refine ⟨.agg vs.toArray, ?_, fun _ => rfl, fun h => by cases h⟩
    simp only [loadVar, Sem.run_bind, run_isAgg hg, Result.andThen, if_true, run_sizeOf hn]
    rw [← hv, run_loadCells_at h]
    rfl
  | false =>
    have e := h1 rfl
    subst e
    match vs, hv with
    | [x], _ =>
      refine ⟨x, ?_, (fun h => by cases h), fun _ => rfl⟩
      have h0 := h 0 x rfl
      simp only [Nat.add_zero] at h0
      simp only [loadVar, Sem.run_bind, run_isAgg hg, Result.andThen]
      simp [h0]

theorem run_storeVar_row {P : Program} {w : World} {t : TypeId} {b off : Nat} {cs : Array Value} {v : Value} (hn : tSize P t = some v.cells.size)
    (hr : RowAt w b cs) (hb : off + v.cells.size ≤ cs.size) (h1 : ∀ u, u ∈ v.cells.toList → u.oneCell' = true) :
    ∃ w', (storeVar t ⟨b, off, none⟩ v).run P w = .ok () w' ∧ RowAt w' b (setA cs off v.cells.toList) ∧ Stored w w' b := by
  obtain ⟨w', e1, e2, e3⟩ := run_storeCells_row (P := P) v.cells.toList w off 0 cs hr (by simpa using hb) h1
  refine ⟨w', ?_, by simpa using e2, e3⟩
  simp only [storeVar, Sem.run_bind, run_sizeOf hn, Result.andThen, ne_eq, not_true_eq_false, if_false]
  simpa using e1

/-! ### readers -/
theorem RM.run_bind {α β : Type} (m : RM α) (f : α → RM β) (s : AS) : (m.bind f).run s = (m.run s).bind fun a => (f a).run s := by
  induction m with
  | ret a => rfl
  | fail => rfl
  | t n k ih => exact ih _
  | h n k ih => exact ih _
theorem run_ret {α : Type} (a : α) (s : AS) : (RM.ret a).run s = some a := rfl
theorem run_fail {α : Type} (s : AS) : (RM.fail : RM α).run s = none := rfl
theorem run_guardA {α : Type} (c : Prop) [Decidable c] (x : RM α) (s : AS) : (guardA c x).run s = if c then x.run s else none := by
  unfold guardA; split <;> rfl
theorem guardA_some {α : Type} {c : Prop} [Decidable c] {x : RM α} {s : AS} {r : α} (h : (guardA c x).run s = some r) : c ∧ x.run s = some r := by
  rw [run_guardA] at h
  split at h
  · exact ⟨‹_›, h⟩
  · cases h

theorem ofV1_rel (w : World) (S : Nat → Prop) (φ : Pm) (v : Value) : Rel w S φ (ofV1 v) v := by
  unfold ofV1
  split <;> first
    | exact .bool
    | exact .int
    | (rename_i s; have : s = ⟨s.data.toList.toArray⟩ := by simp
       conv => arg 5; rw [this]
       exact .str)
    | exact .nilp
    | exact .nils
    | exact .nilf
    | exact .nili
    | exact .nilm
    | exact .bot
theorem ofV_rel (w : World) (S : Nat → Prop) (φ : Pm) (v : Value) : Rel w S φ (ofV v) v := by
  unfold ofV
  split
  · rename_i cs
    refine .agg (by simp) fun i h h' => ?_
    simp only [List.getElem_map, Array.getElem_toList]
    exact ofV1_rel _ _ _ _
  · exact ofV1_rel _ _ _ _

/-- The slots say what the frame holds. -/
def Slots (w : World) (S : Nat → Prop) (φ : Pm) (t : Nat → AV) (ρ : Operand → Value) : Prop :=
  (∀ n, Rel w S φ (t n) (ρ (.tmp n))) ∧ (∀ v, ρ (.const v) = v) ∧ (∀ g, ρ (.global g) = .pointer (some ⟨g, 0, none⟩)) ∧ (∀ f, ρ (.func f) = .func (.func f) #[] #[])

theorem aev_rel {w : World} {S : Nat → Prop} {φ : Pm} {s : AS} {ρ : Operand → Value} (h : Slots w S φ s.t ρ) {x : Operand} {v : AV}
    (e : (aev x).run s = some v) : Rel w S φ v (ρ x) := by
  cases x with
  | tmp n => simp only [aev, RM.run] at e; cases e; exact h.1 n
  | const c => simp only [aev, RM.run] at e; cases e; rw [h.2.1]; exact ofV_rel _ _ _ _
  | global g => simp only [aev, RM.run] at e; cases e; rw [h.2.2.1]; exact .gp
  | func f =>
    simp only [aev, RM.run] at e; cases e; rw [h.2.2.2]
    exact .fn rfl (fun i h _ => by simp at h) rfl (fun i h _ => by simp at h)

theorem bind_some {α β : Type} {m : RM α} {f : α → RM β} {s : AS} {r : β} (h : (m.bind f).run s = some r) : ∃ a, m.run s = some a ∧ (f a).run s = some r := by
  rw [RM.run_bind] at h
  cases e : m.run s with
  | none => rw [e] at h; cases h
  | some a => rw [e] at h; exact ⟨a, rfl, h⟩

def HW (ws : List W) : Prop := ∀ x, x ∈ ws → ∃ i o, x = .h i o
theorem app_t {ws : List W} (h : HW ws) : ∀ s : AS, (s.app ws).t = s.t := by
  induction ws with
  | nil => intro s; rfl
  | cons x ws ih =>
    intro s
    obtain ⟨i, o, rfl⟩ := h x (by simp)
    rw [AS.app, ih (fun y hy => h y (by simp [hy]))]
    rfl
theorem app_append (ws us : List W) : ∀ s : AS, s.app (ws ++ us) = (s.app ws).app us := by
  induction ws with
  | nil => intro s; rfl
  | cons x ws ih => intro s; exact ih _
theorem app_n (ws : List W) : ∀ s : AS, (s.app ws).n = s.n := by
  induction ws with
  | nil => intro s; rfl
  | cons x ws ih => intro s; rw [AS.app, ih]; cases x <;> rfl

/-- What an operation that yields a value owes. -/
structure Good (P : Program) (w : World) (S : Nat → Prop) (φ : Pm) (s : AS) (n' : Nat) (m : Sem Value) (v : AV) (ws : List W) : Prop where
  hw : HW ws
  ok : ∃ x w' S' φ', m.run P w = .ok x w' ∧ HeapOK w' S' φ' (s.app ws).h n' ∧ Step w S φ s.h w' S' φ' (s.app ws).h ∧ Rel w' S' φ' v x
structure GoodU (P : Program) (w : World) (S : Nat → Prop) (φ : Pm) (s : AS) (n' : Nat) (m : Sem Unit) (ws : List W) : Prop where
  hw : HW ws
  ok : ∃ w' S' φ', m.run P w = .ok () w' ∧ HeapOK w' S' φ' (s.app ws).h n' ∧ Step w S φ s.h w' S' φ' (s.app ws).h

theorem Good.pure {P : Program} {w : World} {S : Nat → Prop} {φ : Pm} {s : AS} {n n' : Nat} {m : Sem Value} {v : AV} (H : HeapOK w S φ s.h n) (hn : n ≤ n') {x : Value}
    (hm : m.run P w = .ok x w) (hr : Rel w S φ v x) : Good P w S φ s n' m v [] :=
  ⟨(fun _ h => by cases h), x, w, S, φ, hm, (H.congr rfl rfl rfl rfl hn).1, Step.refl _ _ _ _, hr⟩

end Go.Ab
namespace Go.Ab
open Go
variable [Glob]

variable {P : Program} {w : World} {S : Nat → Prop} {φ : Pm} {s : AS} {n n' : Nat}

theorem cut_length {cs : List AV} {off n : Nat} (h : off + n ≤ cs.length) : (cut cs off n).length = n := by
  simp only [cut, List.length_take, List.length_drop]; omega
theorem cut_get {cs : List AV} {off n j : Nat} (h : j < (cut cs off n).length) : (cut cs off n)[j] = cs[off + j]'(by simp only [cut, List.length_take, List.length_drop] at h; omega) := by
  simp [cut]

theorem mk_rel {g : Bool} {cl : List AV} {vs : List Value} {v : AV} {x : Value} (hl : cl.length = vs.length)
    (hr : ∀ j (h : j < cl.length) (h' : j < vs.length), Rel w S φ cl[j] vs[j]) (hm : mkV g cl = some v)
    (h1 : g = true → x = .agg vs.toArray) (h2 : g = false → vs = [x]) : Rel w S φ v x := by
  cases g with
  | true =>
    rw [h1 rfl]
    simp only [mkV, Option.some.injEq] at hm
    subst hm
    exact .agg (by simpa using hl) fun j h h' => by simpa using hr j h (by simpa using h')
  | false =>
    have := h2 rfl
    subst this
    match cl, hl with
    | [c], _ =>
      simp only [mkV, Option.some.injEq] at hm
      subst hm
      exact hr 0 (by simp) (by simp)

/-- a value that is read: nothing turns -/
def Val (P : Program) (w : World) (S : Nat → Prop) (φ : Pm) (m : Sem Value) (v : AV) : Prop := ∃ x, m.run P w = .ok x w ∧ Rel w S φ v x

theorem loadVar_good {t : TypeId} {m : Nat} {g : Bool} {b off : Nat} {vs : List Value} {cl : List AV} {v : AV} (hm : tSize P t = some m) (hg : tAgg P t = some g) (hl : cl.length = m) (hv : vs.length = m) (hc : CellsAt w b off vs)
    (hr : ∀ j (h : j < cl.length) (h' : j < vs.length), Rel w S φ cl[j] vs[j]) (hk : mkV g cl = some v) :
    Val P w S φ (loadVar t ⟨b, off, none⟩) v := by
  obtain ⟨x, e1, e2, e3⟩ := run_loadVar_at hm hg hv hc (fun hg0 => by
    subst hg0
    match cl, hk with
    | [c], _ => simpa using hl.symm)
  exact ⟨x, e1, mk_rel (by omega) hr hk e2 e3⟩

theorem valO_some {o : Option AV} {v : AV} {ws : List W} (h : (valO o).run s = some (v, ws)) : o = some v ∧ ws = [] := by
  cases o with
  | none => cases h
  | some u => simp only [valO, run_ret, Option.some.injEq, Prod.mk.injEq] at h; exact ⟨by rw [h.1], h.2.symm⟩
theorem val_some {u v : AV} {ws : List W} (h : (val u).run s = some (v, ws)) : u = v ∧ ws = [] := by
  simp only [val, run_ret, Option.some.injEq, Prod.mk.injEq] at h; exact ⟨h.1, h.2.symm⟩

theorem cellsAt_row {b off m : Nat} {cs : Array Value} (h : RowAt w b cs) (_hb : off + m ≤ cs.size) : CellsAt w b off ((cs.toList.drop off).take m) := by
  intro j v hj
  rw [h.cell]
  have hj' : j < m := by
    rcases Nat.lt_or_ge j m with h' | h'
    · exact h'
    · rw [List.getElem?_eq_none (by simp only [List.length_take, List.length_drop]; omega)] at hj; cases hj
  rw [List.getElem?_take, if_pos hj', List.getElem?_drop] at hj
  simpa using hj
theorem sub_length {off m : Nat} {cs : Array Value} (_hb : off + m ≤ cs.size) : ((cs.toList.drop off).take m).length = m := by
  simp only [List.length_take, List.length_drop, Array.length_toList]; omega

theorem aload_val {t : TypeId} {a v : AV} {x : Value} {ws : List W} (H : HeapOK w S φ s.h n)
    (e : (aload P t a).run s = some (v, ws)) (r : Rel w S φ a x) : ws = [] ∧ Val P w S φ (Instr.loadAt t x) v := by
  unfold aload at e
  split at e
  case h_2 => cases e
  rename_i m g hm hg
  have fin : ∀ (b off : Nat) (cl : List AV) (vs : List Value), x = .pointer (some ⟨b, off, none⟩) → cl.length = m → vs.length = m → CellsAt w b off vs →
      (∀ j (h : j < cl.length) (h' : j < vs.length), Rel w S φ cl[j] vs[j]) → mkV g cl = some v ∧ ws = [] → ws = [] ∧ Val P w S φ (Instr.loadAt t x) v := by
    rintro b off cl vs rfl h1 h2 h3 h4 ⟨h5, rfl⟩
    exact ⟨rfl, loadVar_good hm hg h1 h2 h3 h4 h5⟩
  split at e
  · rename_i id off
    cases r with
    | ptr hp =>
    rename_i b sz cap
    simp only [RM.run] at e
    have ho := H.obj id
    split at e
    · rename_i cs hcs
      obtain ⟨hb, e⟩ := guardA_some e
      rw [hcs] at ho
      obtain ⟨b', vs, h1, h2, h3, h4⟩ := ho
      rw [hp] at h1; cases h1
      refine fin _ _ _ _ rfl (cut_length hb) (sub_length (cs := vs) (by omega)) (cellsAt_row h2 (by omega)) (fun j h h' => ?_) (valO_some e)
      rw [cut_get]
      simpa using h4 (off + j) (by rw [cut_length hb] at h; omega) (by rw [cut_length hb] at h; omega)
    · rename_i cs hcs
      obtain ⟨hb, e⟩ := guardA_some e
      rw [hcs] at ho
      obtain ⟨b', vs, h1, h2, ⟨h3, h4⟩, _⟩ := ho
      rw [hp] at h1; cases h1
      refine fin _ _ _ _ rfl (cut_length hb) (sub_length (cs := vs) (by omega)) (cellsAt_row h2 (by omega)) (fun j h h' => ?_) (valO_some e)
      rw [cut_get]
      have := (h4 (off + j) (by rw [cut_length hb] at h; omega) (by rw [cut_length hb] at h; omega)).mono (fun _ _ => rfl) (fun _ h => h) (pm0_le φ)
      simpa using this
    · cases e
  · rename_i id gen i j
    cases r with
    | rptr hp =>
    rename_i b sz cap
    simp only [RM.run] at e
    have ho := H.obj id
    have rowcase : ∀ sz' gen' xs, (gen = gen' ∧ i < xs.length ∧ j + m ≤ sz') → (valO (mkV g (cut (xs.getD i []) j m))).run s = some (v, ws) →
        ((φ id gen' = some .nil ∧ xs = []) ∨ ∃ b cap cs, φ id gen' = some (.at b sz' cap) ∧ RowAt w b cs ∧ cs.size = cap * sz' ∧ xs.length ≤ cap ∧ RowRel w S sz' xs cs) →
        ws = [] ∧ Val P w S φ (Instr.loadAt t (.pointer (some ⟨b, i * sz + j, none⟩))) v := by
      rintro sz' gen' xs ⟨rfl, hi, hj⟩ e ho
      rcases ho with ⟨_, rfl⟩ | ⟨b', cap', cs, h1, h2, h3, h4, h5, h6⟩
      · simp at hi
      · rw [hp] at h1; cases h1
        have hx : xs.getD i [] = xs[i] := by simp [List.getD, hi]
        rw [hx] at e
        have hl : (xs[i]).length = sz := h5 _ (List.getElem_mem hi)
        have hbnd : i * sz + j + m ≤ cs.size := by
          rw [h3]
          calc i * sz + j + m ≤ i * sz + sz := by omega
            _ = (i + 1) * sz := by rw [Nat.add_mul, Nat.one_mul]
            _ ≤ cap * sz := Nat.mul_le_mul_right _ (by omega)
        refine fin _ _ _ _ rfl (cut_length (by omega)) (sub_length hbnd) (cellsAt_row h2 hbnd) (fun k h h' => ?_) (valO_some e)
        rw [cut_get]
        rw [cut_length (by omega)] at h
        obtain ⟨u, h7, _, h8⟩ := h6 i (j + k) hi (by omega)
        have e2 : ((cs.toList.drop (i * sz + j)).take m)[k] = u := by
          have e3 : cs[i * sz + (j + k)]? = some u := h7
          rw [List.getElem_take, List.getElem_drop]
          have h9 : i * sz + j + k < cs.size := by omega
          rw [show i * sz + (j + k) = i * sz + j + k by omega, Array.getElem?_eq_getElem h9] at e3
          simpa using e3
        rw [e2]
        exact h8.mono (fun _ _ => rfl) (fun _ h => h) (pm0_le φ)
    split at e
    · rename_i sz' gen' xs hcs
      obtain ⟨hb, e⟩ := guardA_some e
      rw [hcs] at ho
      exact rowcase _ _ _ hb e ho.2
    · rename_i sz' gen' xs hcs
      obtain ⟨hb, e⟩ := guardA_some e
      rw [hcs] at ho
      refine rowcase _ _ _ hb e ?_
      rcases ho with ho | ⟨b, cap, cs, h1, h2, h3, h4, h5, _⟩
      · exact .inl ho
      · exact .inr ⟨b, cap, cs, h1, h2, h3, h4, h5⟩
    · cases e
  · rename_i cs
    cases r with
    | cp V hs hc _ hr =>
    rename_i b off
    obtain ⟨hb, e⟩ := guardA_some e
    refine fin _ _ _ ((List.range m).map V) rfl (cut_length (by omega)) (by simp) (fun j u hj => ?_) (fun j h h' => ?_) (valO_some e)
    · rw [List.getElem?_map] at hj
      have hj' : j < m := by
        rcases Nat.lt_or_ge j m with h' | h'
        · exact h'
        · rw [List.getElem?_eq_none (by simpa using h')] at hj; cases hj
      rw [List.getElem?_range hj'] at hj
      simp only [Option.map_some, Option.some.injEq] at hj
      rw [hc j (by omega), hj]
    · rw [cut_get]
      simp only [List.getElem_map, List.getElem_range]
      have h9 := h
      rw [cut_length (by omega)] at h9
      have := (hr j (by omega)).mono (fun _ _ => rfl) (fun _ h => h) (pm0_le φ)
      simpa using this
  · rename_i g0 off
    cases r
    split at e
    · rename_i cs hcs
      obtain ⟨hb, e⟩ := guardA_some e
      have hl := Glob.look H.glob hcs
      refine fin g0 off _ ((List.range m).map fun j => (w.cell? ⟨g0, off + j, none⟩).getD undef) rfl (cut_length (by omega)) (by simp) (fun j u hj => ?_) (fun j h h' => ?_) (valO_some e)
      · rw [List.getElem?_map] at hj
        have hj' : j < m := by
          rcases Nat.lt_or_ge j m with h' | h'
          · exact h'
          · rw [List.getElem?_eq_none (by simpa using h')] at hj; cases hj
        rw [List.getElem?_range hj'] at hj
        simp only [Option.map_some, Option.some.injEq] at hj
        obtain ⟨v', h1, _⟩ := hl (off + j) (by omega)
        rw [h1] at hj ⊢
        simpa using hj
      · rw [cut_get]
        simp only [List.getElem_map, List.getElem_range]
        have h9 := h
        rw [cut_length (by omega)] at h9
        obtain ⟨v', h1, _, h3⟩ := hl (off + j) (by omega)
        rw [h1]
        exact h3.mono (fun _ _ => rfl) (fun _ h => h) (pm0_le φ)
    · cases e
  · cases e

theorem aload_good {t : TypeId} {a v : AV} {x : Value} {ws : List W} (H : HeapOK w S φ s.h n) (hn : n ≤ n')
    (e : (aload P t a).run s = some (v, ws)) (r : Rel w S φ a x) : Good P w S φ s n' (Instr.loadAt t x) v ws := by
  obtain ⟨rfl, y, e1, e2⟩ := aload_val H e r
  exact .pure H hn e1 e2

end Go.Ab
namespace Go.Ab
open Go
variable [Glob]

variable {P : Program} {w : World} {S : Nat → Prop} {φ : Pm} {s : AS} {n n' : Nat}

theorem flat_rel {x : AV} {v : Value} (hf : x.flat = true) (r : Rel w S φ x v) : Rel w S pm0 x v := by
  induction r with
  | bot => simp [AV.flat] at hf
  | bool => exact .bool
  | int => exact .int
  | str => exact .str
  | nilp => exact .nilp
  | ptr h => simp [AV.flat] at hf
  | rptr h => simp [AV.flat] at hf
  | cp V hs hc ho hr _ => exact .cp V hs hc ho hr
  | gp => exact .gp
  | nils => exact .nils
  | slnil => exact .slnil
  | sl V hs hcap hsz hc ho hr _ => exact .sl V hs hcap hsz hc ho hr
  | rownil h => simp [AV.flat] at hf
  | row h hl ho => simp [AV.flat] at hf
  | bsl h => simp [AV.flat] at hf
  | fn h1 _ h3 _ ih1 ih2 =>
    rw [AV.flat, Bool.and_eq_true] at hf
    exact .fn h1 (fun i h h' => ih1 i h h' (flatL_get hf.1 i h)) h3 (fun i h h' => ih2 i h h' (flatL_get hf.2 i h))
  | nilf => exact .nilf
  | iface _ ih => rw [AV.flat] at hf; exact .iface (ih hf)
  | nili => exact .nili
  | agg h1 _ _ => simp [AV.flat] at hf
  | tup h1 _ _ => simp [AV.flat] at hf
  | nilm => exact .nilm
  | mp h => simp [AV.flat] at hf

theorem flat_one {x : AV} {v : Value} (hf : x.flat = true) (r : Rel w S φ x v) : v.oneCell' = true := by
  cases r <;> first | rfl | (simp [AV.flat] at hf)

theorem sl_of_frow {h : Nat → AObj} {S' : Nat → Prop} {id sz g off len : Nat} {xs : List (List AV)} {v : Value} (H : HeapOK w S' φ h n) (hi : h id = .frow sz g xs)
    (hl : off + len ≤ xs.length) (r : Rel w S φ (.row id g off len) v) : Rel w S' pm0 (.sl sz ((xs.drop off).take len)) v := by
  have ho := H.obj id
  rw [hi] at ho
  cases r with
  | rownil hp =>
    have e0 : (xs.drop 0).take 0 = [] := by simp
    rw [e0]
    exact .slnil
  | row hp h1 h2 =>
    rename_i b sz' cap o
    rcases ho with ⟨hq, _⟩ | ⟨b', cap', cs, hq, hr, hs, hc, hrel, hS⟩
    · rw [hp] at hq; cases hq
    · rw [hp] at hq; cases hq
      have hlen : ((xs.drop off).take len).length = len := by simp only [List.length_take, List.length_drop]; omega
      have hmem : ∀ l, l ∈ (xs.drop off).take len → l.length = sz := fun l hl => hrel.1 l (List.mem_of_mem_drop (List.mem_of_mem_take hl))
      have hsl : Rel w S' pm0 (.sl sz ((xs.drop off).take len)) (.slice (some ⟨b, o, none⟩) ((xs.drop off).take len).length (cap - off)) := by
        refine .sl (fun i j => (cs[o + i * sz + j]?).getD undef) hS (by omega) hmem (fun i j hi hj => ?_) (fun i j hi hj => ?_) (fun i j hi hj => ?_)
        · rcases h2 with rfl | ⟨rfl, _⟩
          · rw [hr.cell]
            have hbnd : off * sz + i * sz + j < cs.size := by
              rw [hs]
              calc off * sz + i * sz + j < off * sz + i * sz + sz := by omega
                _ = (off + i + 1) * sz := by simp only [Nat.add_mul, Nat.one_mul]
                _ ≤ cap * sz := Nat.mul_le_mul_right _ (by omega)
            simp [hbnd]
          · omega
        · rcases h2 with rfl | ⟨rfl, _⟩
          · obtain ⟨u, h7, h8, _⟩ := hrel.2 (off + i) j (by omega) (by rw [hrel.1 _ (List.getElem_mem _)]; exact hj)
            have e2 : off * sz + i * sz + j = (off + i) * sz + j := by simp only [Nat.add_mul]
            rw [e2, h7]
            exact h8
          · omega
        · rcases h2 with rfl | ⟨rfl, _⟩
          · have e1 : ((xs.drop off).take len)[i] = xs[off + i]'(by omega) := by simp
            have hj' : j < (xs[off + i]'(by omega)).length := by rw [← e1]; exact hj
            obtain ⟨u, h7, _, h8⟩ := hrel.2 (off + i) j (by omega) hj'
            have e2 : off * sz + i * sz + j = (off + i) * sz + j := by simp only [Nat.add_mul]
            rw [e2, h7]
            simpa [e1] using h8
          · omega
      rw [hlen] at hsl
      exact hsl

/-- writes that freeze -/
def VF (h : Nat → AObj) (u : W) : Prop := ∃ i sz g xs, u = .h i (.frow sz g xs) ∧ (h i = .row sz g xs ∨ h i = .frow sz g xs)

theorem VF.after {h : Nat → AObj} {i sz g : Nat} {xs : List (List AV)} (hi : h i = .row sz g xs ∨ h i = .frow sz g xs) {u : W} (hu : VF h u) : VF (upd h i (.frow sz g xs)) u := by
  obtain ⟨j, sz', g', ys, rfl, hj⟩ := hu
  refine ⟨j, sz', g', ys, rfl, ?_⟩
  by_cases e : j = i
  · subst e
    rw [upd_same]
    right
    rcases hi with hi | hi <;> rcases hj with hj | hj <;> rw [hi] at hj <;> cases hj <;> rfl
  · rw [upd_ne _ _ e]; exact hj

theorem freezeAll {ws : List W} : ∀ {s : AS} {S : Nat → Prop}, HeapOK w S φ s.h n → (∀ u, u ∈ ws → VF s.h u) →
    ∃ S', HeapOK w S' φ (s.app ws).h n ∧ Step w S φ s.h w S' φ (s.app ws).h := by
  induction ws with
  | nil => intro s S H _; exact ⟨S, H, Step.refl _ _ _ _⟩
  | cons u ws ih =>
    intro s S H hv
    obtain ⟨i, sz, g, xs, rfl, hi⟩ := hv u (by simp)
    have hs : ∃ S1, HeapOK w S1 φ (upd s.h i (.frow sz g xs)) n ∧ Step w S φ s.h w S1 φ (upd s.h i (.frow sz g xs)) := by
      rcases hi with hi | hi
      · exact H.freezeRow i hi
      · have : upd s.h i (.frow sz g xs) = s.h := by
          funext j; by_cases e : j = i
          · subst e; rw [upd_same, hi]
          · rw [upd_ne _ _ e]
        rw [this]; exact ⟨S, H, Step.refl _ _ _ _⟩
    obtain ⟨S1, H1, T1⟩ := hs
    obtain ⟨S2, H2, T2⟩ := ih (s := s.app1 (.h i (.frow sz g xs))) H1 (fun u hu => VF.after hi (hv u (by simp [hu])))
    exact ⟨S2, H2, T1.trans T2⟩

/-- rows that a value leads to are frozen in h -/
def FrzAt (h h' : Nat → AObj) : Prop := ∀ i sz g xs, h i = .frow sz g xs → h' i = .frow sz g xs

theorem app_frz {ws : List W} : ∀ {s : AS}, (∀ u, u ∈ ws → VF s.h u) → FrzAt s.h (s.app ws).h ∧ ∀ i o, W.h i o ∈ ws → (s.app ws).h i = o := by
  induction ws with
  | nil => intro s _; exact ⟨fun _ _ _ _ h => h, fun _ _ h => by cases h⟩
  | cons u ws ih =>
    intro s hv
    obtain ⟨i, sz, g, xs, rfl, hi⟩ := hv u (by simp)
    obtain ⟨h1, h2⟩ := ih (s := s.app1 (.h i (.frow sz g xs))) (fun u hu => VF.after hi (hv u (by simp [hu])))
    refine ⟨fun j sz' g' ys hj => h1 j sz' g' ys ?_, fun j o hm => ?_⟩
    · show upd s.h i (.frow sz g xs) j = _
      by_cases e : j = i
      · subst e; rw [upd_same]; rcases hi with hi | hi <;> rw [hi] at hj <;> cases hj; rfl
      · rw [upd_ne _ _ e]; exact hj
    · cases hm with
      | head => exact h1 _ _ _ _ (by show upd s.h i _ i = _; rw [upd_same])
      | tail _ hm => exact h2 j o hm

theorem frz_vf {x y : AV} {ws : List W} (e : (frz x).run s = some (y, ws)) : (∀ u, u ∈ ws → VF s.h u) ∧
    ∀ {w : World} {S S' : Nat → Prop} {φ : Pm} {h' : Nat → AObj} {n : Nat} {v : Value}, HeapOK w S' φ h' n → (∀ b, S b → S' b) → FrzAt s.h h' → (∀ i o, W.h i o ∈ ws → h' i = o) → Rel w S φ x v →
      Rel w S' pm0 y v ∧ v.oneCell' = true := by
  unfold frz at e
  split at e
  · rename_i id g off len
    simp only [RM.run] at e
    split at e
    · rename_i sz g' xs hi
      obtain ⟨⟨hg, hl⟩, e'⟩ := guardA_some e
      clear e
      subst hg
      simp only [run_ret, Option.some.injEq, Prod.mk.injEq] at e'
      obtain ⟨rfl, rfl⟩ := e'
      refine ⟨fun u hu => ?_, fun H _ _ hw r => ⟨sl_of_frow H (hw id _ (by simp)) hl r, by cases r <;> rfl⟩⟩
      simp only [List.mem_singleton] at hu
      exact ⟨id, sz, g, xs, hu, .inl hi⟩
    · rename_i sz g' xs hi
      obtain ⟨⟨hg, hl⟩, e'⟩ := guardA_some e
      clear e
      subst hg
      simp only [run_ret, Option.some.injEq, Prod.mk.injEq] at e'
      obtain ⟨rfl, rfl⟩ := e'
      exact ⟨(fun u hu => by cases hu), fun H _ hf _ r => ⟨sl_of_frow H (hf _ _ _ _ hi) hl r, by cases r <;> rfl⟩⟩
    · cases e
  · obtain ⟨hf, e⟩ := guardA_some e
    simp only [run_ret, Option.some.injEq, Prod.mk.injEq] at e
    obtain ⟨rfl, rfl⟩ := e
    exact ⟨(fun u hu => by cases hu), fun _ hS _ _ r => ⟨(flat_rel hf r).mono (fun _ _ => rfl) hS (Pm.le_refl _), flat_one hf r⟩⟩

theorem frzL_vf : ∀ {xs ys : List AV} {ws : List W}, (frzL xs).run s = some (ys, ws) → (∀ u, u ∈ ws → VF s.h u) ∧ ys.length = xs.length ∧
    ∀ {w : World} {S S' : Nat → Prop} {φ : Pm} {h' : Nat → AObj} {n : Nat} {vs : List Value}, HeapOK w S' φ h' n → (∀ b, S b → S' b) → FrzAt s.h h' → (∀ i o, W.h i o ∈ ws → h' i = o) → xs.length = vs.length →
      (∀ j (h : j < xs.length) (h' : j < vs.length), Rel w S φ xs[j] vs[j]) →
      (∀ j (h : j < ys.length) (h' : j < vs.length), Rel w S' pm0 ys[j] vs[j]) ∧ ∀ v, v ∈ vs → v.oneCell' = true
  | [], ys, ws, e => by
    simp only [frzL, run_ret, Option.some.injEq, Prod.mk.injEq] at e
    obtain ⟨rfl, rfl⟩ := e
    refine ⟨(fun u hu => by cases hu), rfl, fun {_ _ _ _ _ _ vs} _ _ _ _ hl _ => ⟨fun j h => by simp at h, fun v hv => ?_⟩⟩
    match vs, hl with
    | [], _ => cases hv
  | x :: xs, ys, ws, e => by
    rw [frzL] at e
    obtain ⟨⟨y, us⟩, e1, e⟩ := bind_some e
    obtain ⟨⟨zs, vs'⟩, e2, e⟩ := bind_some e
    simp only [run_ret, Option.some.injEq, Prod.mk.injEq] at e
    obtain ⟨rfl, rfl⟩ := e
    obtain ⟨a1, a2⟩ := frz_vf e1
    obtain ⟨b1, b2, b3⟩ := frzL_vf e2
    refine ⟨fun u hu => ?_, by simp [b2], fun {_ _ _ _ _ _ vs} H hS hf hw hl hr => ?_⟩
    · rcases List.mem_append.1 hu with h | h
      · exact a1 u h
      · exact b1 u h
    · match vs, hl with
      | v :: vs, hl =>
        have r0 := hr 0 (by simp) (by simp)
        obtain ⟨c1, c2⟩ := a2 H hS hf (fun i o hm => hw i o (List.mem_append.2 (.inl hm))) r0
        obtain ⟨d1, d2⟩ := b3 H hS hf (fun i o hm => hw i o (List.mem_append.2 (.inr hm))) (by simpa using hl)
          (fun j h h' => hr (j + 1) (by simpa using h) (by simpa using h'))
        refine ⟨fun j h h' => ?_, fun u hu => ?_⟩
        · cases j with
          | zero => exact c1
          | succ j => exact d1 j (by simpa using h) (by simpa using h')
        · cases hu with
          | head => exact c2
          | tail _ hu => exact d2 u hu

theorem VF_HW {h : Nat → AObj} {ws : List W} (hv : ∀ u, u ∈ ws → VF h u) : HW ws := fun u hu => by
  obtain ⟨i, sz, g, xs, rfl, _⟩ := hv u hu
  exact ⟨i, _, rfl⟩

end Go.Ab
namespace Go.Ab
open Go
variable [Glob]

variable {P : Program} {w : World} {S : Nat → Prop} {φ : Pm} {s : AS} {n n' : Nat}

theorem setL_length (cs : List AV) (off : Nat) (vs : List AV) : (setL cs off vs).length = cs.length := by
  induction vs generalizing cs off with
  | nil => rfl
  | cons v vs ih => rw [setL, ih]; simp
theorem setL_get (vs : List AV) : ∀ (cs : List AV) (off j : Nat), off + vs.length ≤ cs.length →
    (setL cs off vs)[j]? = if off ≤ j ∧ j < off + vs.length then vs[j - off]? else cs[j]? := by
  induction vs with
  | nil => intro cs off j _; rw [if_neg (by simp)]; rfl
  | cons v vs ih =>
    intro cs off j h
    simp only [List.length_cons] at h ⊢
    rw [setL, ih _ _ _ (by simp; omega)]
    by_cases h1 : off + 1 ≤ j ∧ j < off + 1 + vs.length
    · rw [if_pos h1, if_pos (by omega)]
      have : j - off = (j - (off + 1)) + 1 := by omega
      rw [this, List.getElem?_cons_succ]
    · rw [if_neg h1]
      by_cases h2 : j = off
      · subst h2
        rw [if_pos (by omega)]
        simp [show j < cs.length by omega]
      · rw [if_neg (by omega), List.getElem?_set_ne (by omega)]

theorem one_cell {x : AV} {v : Value} (h : x.one = true) (r : Rel w S φ x v) : v.oneCell' = true := by
  cases r <;> first | rfl | (simp [AV.one] at h)

theorem cells_one {v : Value} (h : v.oneCell' = true) : v.cells = #[v] := by
  cases v <;> first | rfl | (simp [Value.oneCell'] at h)

theorem cells_rel {x : AV} {v : Value} (h : x.cells.all AV.one = true) (r : Rel w S φ x v) : x.cells.length = v.cells.size ∧
    (∀ j (h : j < x.cells.length) (h' : j < v.cells.size), Rel w S φ x.cells[j] v.cells[j]) ∧ ∀ u, u ∈ v.cells.toList → u.oneCell' = true := by
  by_cases hx : x.one = true
  · have e1 : x.cells = [x] := by cases x <;> first | rfl | (simp [AV.one] at hx)
    have h1 := one_cell hx r
    have e2 := cells_one h1
    refine ⟨by rw [e1, e2]; rfl, fun j hj hj' => ?_, fun u hu => ?_⟩
    · have : j = 0 := by rw [e1] at hj; simpa using hj
      subst this
      simpa [e1, e2] using r
    · rw [e2] at hu; simp at hu; rw [hu]; exact h1
  · cases r with
    | @agg _ cells vs h1 h2 =>
      refine ⟨h1, h2, fun u hu => ?_⟩
      obtain ⟨j, hj, rfl⟩ := List.getElem_of_mem hu
      have hj' : j < vs.size := by simpa [Value.cells] using hj
      have := h2 j (by omega) hj'
      refine one_cell ?_ this
      exact List.all_eq_true.1 h _ (List.getElem_mem _)
    | bot => simp [AV.cells, AV.one] at h
    | tup => simp [AV.cells, AV.one] at h
    | _ => simp [AV.one] at hx

theorem astore_good {t : TypeId} {a y v : AV} {x u : Value} {ws : List W} (H : HeapOK w S φ s.h n) (hn : n ≤ n')
    (e : (astore P t a y).run s = some (v, ws)) (r : Rel w S φ a x) (ry : Rel w S φ y u) : v = .bot ∧ GoodU P w S φ s n' (Instr.storeAt t x u) ws := by
  unfold astore at e
  split at e
  case h_2 => cases e
  rename_i m hm
  split at e
  · rename_i id off
    cases r with
    | ptr hp =>
    rename_i b sz cap
    simp only [RM.run] at e
    split at e
    · rename_i cs hcs
      obtain ⟨⟨h1, h2, h3⟩, e'⟩ := guardA_some e
      clear e
      simp only [run_ret, Option.some.injEq, Prod.mk.injEq] at e'
      obtain ⟨rfl, rfl⟩ := e'
      have ho := H.obj id
      rw [hcs] at ho
      obtain ⟨b', vs, g1, g2, g3, g4⟩ := ho
      rw [hp] at g1; cases g1
      obtain ⟨c1, c2, c3⟩ := cells_rel h3 ry
      obtain ⟨w', e1, e2, e3⟩ := run_storeVar_row (P := P) (t := t) (off := off) (v := u) (by rw [hm]; congr 1; omega) g2 (by omega) c3
      have hb : BoxRel w S φ (setL cs off y.cells) (setA vs off u.cells.toList) := by
        refine ⟨by rw [setL_length, setA_size]; exact g3, fun j h h' => ?_⟩
        rw [setL_length] at h
        rw [setA_size] at h'
        have q1 := setL_get y.cells cs off j (by omega)
        have q2 := setA_get u.cells.toList vs off j (by simp; omega)
        rw [List.getElem?_eq_getElem (by rw [setL_length]; exact h)] at q1
        rw [Array.getElem?_eq_getElem (by rw [setA_size]; exact h')] at q2
        by_cases hj : off ≤ j ∧ j < off + y.cells.length
        · rw [if_pos hj, List.getElem?_eq_getElem (by omega)] at q1
          rw [if_pos (by simp; omega), List.getElem?_eq_getElem (by simp; omega)] at q2
          rw [Option.some.inj q1, Option.some.inj q2]
          simpa using c2 (j - off) (by omega) (by omega)
        · rw [if_neg hj, List.getElem?_eq_getElem h] at q1
          rw [if_neg (by simp; omega), Array.getElem?_eq_getElem h'] at q2
          rw [Option.some.inj q1, Option.some.inj q2]
          exact g4 j h h'
      obtain ⟨k1, k2⟩ := H.setBox id hcs hp w' _ (setL_length _ _ _) e2 e3.keep e3.size e3.os e3.tape e3.out hb
      refine ⟨rfl, ⟨fun z hz => ?_, w', S, φ, ?_, ?_, k2⟩⟩
      · simp only [List.mem_singleton] at hz; exact ⟨id, _, hz⟩
      · simp only [Instr.storeAt, Instr.sureAddr, Sem.run_bind, Sem.run_pure, Result.andThen]; exact e1
      · exact (k1.congr rfl rfl rfl rfl hn).1
    · cases e
  · rename_i id gen i j
    cases r with
    | rptr hp =>
    rename_i b sz cap
    simp only [RM.run] at e
    split at e
    · rename_i sz' gen' xs hcs
      obtain ⟨⟨hg, hi, h2, h3, h4⟩, e'⟩ := guardA_some e
      clear e
      subst hg
      simp only [run_ret, Option.some.injEq, Prod.mk.injEq] at e'
      obtain ⟨rfl, rfl⟩ := e'
      have ho := (H.obj id)
      rw [hcs] at ho
      obtain ⟨_, ⟨_, rfl⟩ | ⟨b', cap', cs, g1, g2, g3, g4, g5, g6⟩⟩ := ho
      · simp at hi
      rw [hp] at g1; cases g1
      have hone : y.cells.all AV.one = true := by
        rw [List.all_eq_true] at h4 ⊢
        intro z hz
        have := h4 z hz
        cases z <;> first | rfl | (simp [AV.flat] at this)
      obtain ⟨c1, c2, c3⟩ := cells_rel hone ry
      have hx : xs.getD i [] = xs[i] := by simp [List.getD, hi]
      have hl : (xs[i]).length = sz := g5 _ (List.getElem_mem hi)
      have hbnd : i * sz + sz ≤ cs.size := by
        rw [g3]
        calc i * sz + sz = (i + 1) * sz := by rw [Nat.add_mul, Nat.one_mul]
          _ ≤ cap * sz := Nat.mul_le_mul_right _ (by omega)
      obtain ⟨w', e1, e2, e3⟩ := run_storeVar_row (P := P) (t := t) (off := i * sz + j) (v := u) (by rw [hm]; congr 1; omega) g2 (by omega) c3
      have hb : RowRel w S sz (xs.set i (setL (xs.getD i []) j y.cells)) (setA cs (i * sz + j) u.cells.toList) := by
        refine ⟨fun l hl' => ?_, fun i' j' hi' hj' => ?_⟩
        · rcases List.mem_or_eq_of_mem_set hl' with h | h
          · exact g5 l h
          · rw [h, setL_length, hx, hl]
        · simp only [List.length_set] at hi'
          have q2 := fun k => setA_get u.cells.toList cs (i * sz + j) k (by simp; omega)
          rw [q2]
          by_cases hii : i' = i
          · subst hii
            have e4 : (xs.set i' (setL (xs.getD i' []) j y.cells))[i']'(by simpa using hi') = setL (xs.getD i' []) j y.cells := by simp
            have hj2 : j' < sz := by
              have := hj'
              rw [e4, setL_length, hx, hl] at this; exact this
            have q1 := setL_get y.cells (xs.getD i' []) j j' (by rw [hx]; omega)
            rw [List.getElem?_eq_getElem (by rw [setL_length, hx, hl]; exact hj2)] at q1
            by_cases hjj : j ≤ j' ∧ j' < j + y.cells.length
            · rw [if_pos (by simp; omega)]
              rw [if_pos hjj, List.getElem?_eq_getElem (by omega)] at q1
              have e5 : i' * sz + j' - (i' * sz + j) = j' - j := by omega
              rw [e5]
              refine ⟨u.cells[j' - j]'(by omega), by simp [show j' - j < u.cells.size by omega], c3 _ (by simp), ?_⟩
              have := flat_rel (List.all_eq_true.1 h4 _ (List.getElem_mem (by omega))) (c2 (j' - j) (by omega) (by omega))
              have e6 := Option.some.inj q1
              simp only [e4]
              rw [e6]
              exact this
            · rw [if_neg (by simp; omega)]
              rw [if_neg hjj] at q1
              have q3 : (xs.getD i' [])[j']? = some ((xs[i'])[j']'(by omega)) := by
                rw [hx]; exact List.getElem?_eq_getElem _
              obtain ⟨z, z1, z0, z2⟩ := g6 i' j' hi (by omega)
              refine ⟨z, z1, z0, ?_⟩
              have e6 := Option.some.inj (q1.trans q3)
              simp only [e4]
              rw [e6]
              exact z2
          · have e4 : (xs.set i (setL (xs.getD i []) j y.cells))[i']'(by simpa using hi') = xs[i'] := by
              rw [List.getElem_set_ne (by omega)]
            have hj2 : j' < (xs[i']'hi').length := by rw [← e4]; exact hj'
            have hl2 : (xs[i']'hi').length = sz := g5 _ (List.getElem_mem hi')
            obtain ⟨z, z1, z0, z2⟩ := g6 i' j' hi' hj2
            rw [if_neg]
            · refine ⟨z, z1, z0, ?_⟩
              simp only [e4]
              exact z2
            · simp only [Array.length_toList]
              rintro ⟨p1, p2⟩
              rcases Nat.lt_or_gt_of_ne hii with h | h
              · have : (i' + 1) * sz ≤ i * sz := Nat.mul_le_mul_right _ h
                rw [Nat.add_mul, Nat.one_mul] at this
                omega
              · have : (i + 1) * sz ≤ i' * sz := Nat.mul_le_mul_right _ h
                rw [Nat.add_mul, Nat.one_mul] at this
                omega
      obtain ⟨φ', k1, k2, k3⟩ := H.setRow id hcs gen (xs.set i (setL (xs.getD i []) j y.cells)) b cap w' _ (.inl ⟨rfl, hp⟩) e2 (by rw [setA_size]; exact g3)
        (by simpa using g4) (fun k hk _ => e3.keep k hk) (by rw [e3.size]; exact Nat.le_refl _) e3.os e3.tape e3.out hb
      refine ⟨rfl, ⟨fun z hz => ?_, w', S, φ', ?_, ?_, k2⟩⟩
      · simp only [List.mem_singleton] at hz; exact ⟨id, _, hz⟩
      · simp only [Instr.storeAt, Instr.sureAddr, Sem.run_bind, Sem.run_pure, Result.andThen]; exact e1
      · exact (k1.congr rfl rfl rfl rfl hn).1
    · cases e
  · cases e

end Go.Ab
namespace Go.Ab
open Go
variable [Glob]

variable {P : Program} {w : World} {S : Nat → Prop} {φ : Pm} {s : AS} {n n' : Nat}

theorem run_underlying {d : TypeDesc} {t : TypeId} (h : P.underlying t = some d) : (underlying t).run P w = .ok d w := by
  simp [underlying, h, Result.andThen]

theorem str_toList (l : List UInt8) : (⟨l.toArray⟩ : ByteArray).toList = l := by
  have : (⟨l.toArray⟩ : ByteArray).data.toList = l := by simp
  rw [← this]
  simp

theorem bytes_append (a c : List UInt8) : (⟨a.toArray⟩ : ByteArray) ++ ⟨c.toArray⟩ = ⟨(a ++ c).toArray⟩ := by
  apply ByteArray.ext
  simp

theorem beq_dec_list (a c : List UInt8) : (a == c) = decide (a = c) := by
  rw [Bool.eq_iff_iff]; simp

theorem i64_max : IntKind.i64.max = 9223372036854775807 := by rfl

theorem abin_int {op : BinOp} {k k' : IntKind} {p q : Int} {v : AV} {t : TypeId} (e : abin op (.int k p) (.int k' q) = some v) :
    ∃ x, (binOp op t (.int k p) (.int k' q)).run P w = .ok x w ∧ Rel w S φ v x := by
  cases op <;> simp only [abin] at e <;> simp only [binOp]
  case shl =>
    split at e
    · cases e
      refine ⟨_, ?_, .int⟩
      simp only [Op.shift]
      rw [if_neg (by omega)]
      rfl
    · cases e
  case shr =>
    split at e
    · cases e
      refine ⟨_, ?_, .int⟩
      simp only [Op.shift]
      rw [if_neg (by omega)]
      rfl
    · cases e
  all_goals
    split at e
    case isFalse => cases e
    rename_i hk
    first
      | (cases e; rw [if_neg (by simp [hk])]; first | exact ⟨_, rfl, .int⟩ | (refine ⟨_, rfl, ?_⟩; (try simp only [Bool.beq_eq_decide_eq, bne, GT.gt, GE.ge]); exact .bool))
      | (split at e
         · cases e
         · cases e; rw [if_neg (by simp [hk])]; refine ⟨_, ?_, .int⟩; simp only [Op.intDiv]; rw [if_neg ‹_›]; rfl)
      | cases e

theorem abin_str {op : BinOp} {p q : List UInt8} {v : AV} {t : TypeId} (e : abin op (.str p) (.str q) = some v) :
    ∃ x, (binOp op t (.string ⟨p.toArray⟩) (.string ⟨q.toArray⟩)).run P w = .ok x w ∧ Rel w S φ v x := by
  cases op <;> simp only [abin] at e <;> simp only [binOp, Op.stringOp, str_toList, beq_dec_list]
  case add =>
    split at e
    · cases e
      rename_i h
      rw [if_neg (by rw [i64_max]; simp only [ByteArray.size, List.size_toArray]; omega), bytes_append]
      exact ⟨_, rfl, .str⟩
    · cases e
  all_goals first
    | (cases e; exact ⟨_, rfl, .bool⟩)
    | cases e

theorem equal_bool {p q : Bool} {t : TypeId} (ht : P.underlying t = some .bool) : (Op.equal t (.bool p) (.bool q)).run P w = .ok (p == q) w := by
  have e : Op.equal t (.bool p) (.bool q) = Op.equalIn (9999 + 1) t (.bool p) (.bool q) := rfl
  rw [e, Op.equalIn, Sem.run_bind, run_underlying ht]
  rfl

theorem abin_bool {op : BinOp} {p q : Bool} {v : AV} {t : TypeId} (ht : P.underlying t = some .bool) (e : abin op (.bool p) (.bool q) = some v) :
    ∃ x, (binOp op t (.bool p) (.bool q)).run P w = .ok x w ∧ Rel w S φ v x := by
  cases op <;> simp only [abin] at e <;> first
    | (cases e
       refine ⟨_, ?_, .bool⟩
       simp only [binOp, Sem.run_bind, equal_bool ht, Result.andThen, Sem.run_pure])
    | cases e

end Go.Ab
