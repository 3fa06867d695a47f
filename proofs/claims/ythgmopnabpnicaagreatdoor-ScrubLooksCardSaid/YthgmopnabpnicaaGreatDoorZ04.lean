import Derived.Test.YthgmopnabpnicaaGreatDoorZ03
set_option linter.all false
namespace Go.Ab
open Go
variable [Glob]

variable {P : Program} {w : World} {S : Nat → Prop} {φ : Pm} {s : AS} {n n' : Nat}

/-! ### equality -/
theorem tFields_ok {t : TypeId} {l : List (TypeId × Nat × Nat)} (h : tFields P t = some l) :
    ∃ fs : Array Field, P.underlying t = some (.struct fs) ∧ P.stoodInHeld t = false ∧ (∀ f, f ∈ fs.toList → f.name ≠ "_") ∧ fs.toList.mapM (fun f => (tSize P f.type).map fun n => (f.type, f.offset, n)) = some l := by
  unfold tFields at h
  split at h
  · rename_i fs hu
    split at h
    · cases h
    · rename_i hc
      simp only [Bool.or_eq_true, not_or, Bool.not_eq_true] at hc
      refine ⟨fs, hu, hc.2, fun f hf hn => ?_, h⟩
      have := hc.1
      rw [List.any_eq_false] at this
      exact this f hf (by simp [hn])
  · cases h

/-- a value of a type whose cells are these -/
def ValOf (P : Program) (w : World) (S : Nat → Prop) (φ : Pm) (t : TypeId) (xs : List AV) (x : Value) : Prop :=
  (tAgg P t = some true ∧ ∃ vs, x = .agg vs ∧ BoxRel w S φ xs vs) ∨ (tAgg P t = some false ∧ ∃ c, xs = [c] ∧ Rel w S φ c x)

theorem tAgg_struct {t : TypeId} {l : List (TypeId × Nat × Nat)} (h : tFields P t = some l) : tAgg P t = some true := by
  obtain ⟨fs, hu, _⟩ := tFields_ok h
  unfold tAgg; rw [hu]; rfl
theorem tAgg_bool {t : TypeId} (h : tBool P t = true) : tAgg P t = some false := by unfold tAgg; rw [tBool_ok h]; rfl
theorem tAgg_str {t : TypeId} (h : tStr P t = true) : tAgg P t = some false := by unfold tAgg; rw [tStr_ok h]; rfl
theorem tAgg_int {t : TypeId} (h : (tInt P t).isSome = true) : tAgg P t = some false := by
  obtain ⟨k, hk⟩ := Option.isSome_iff_exists.1 h
  unfold tAgg; rw [tInt_ok hk]; rfl

theorem aeqIn_agg {d : Nat} {t : TypeId} {xs ys : List AV} {b : Bool} (h : aeqIn P d t xs ys = some b) :
    (∃ l, tFields P t = some l) ∨ (tAgg P t = some false ∧ xs.length = 1 ∧ ys.length = 1) := by
  cases d with
  | zero => cases h
  | succ d =>
    unfold aeqIn at h
    split at h
    · split at h
      · exact .inr ⟨tAgg_bool ‹_›, rfl, rfl⟩
      · cases h
    · split at h
      · rename_i hh; exact .inr ⟨tAgg_int hh.2, rfl, rfl⟩
      · cases h
    · split at h
      · exact .inr ⟨tAgg_str ‹_›, rfl, rfl⟩
      · cases h
    · split at h
      · exact .inl ⟨_, ‹_›⟩
      · cases h

theorem part_val {d : Nat} {t : TypeId} {m off : Nat} {xs ys : List AV} {vs us : Array Value} {b : Bool} (hm : tSize P t = some m) (hb : BoxRel w S φ xs vs) (hb' : BoxRel w S φ ys us) (hl : off + m ≤ xs.length) (hl' : off + m ≤ ys.length)
    (h : aeqIn P d t (cut xs off m) (cut ys off m) = some b) :
    ∃ x y, (part t vs off).run P w = .ok x w ∧ (part t us off).run P w = .ok y w ∧ ValOf P w S φ t (cut xs off m) x ∧ ValOf P w S φ t (cut ys off m) y := by
  rcases aeqIn_agg h with ⟨l, hf⟩ | ⟨hg, h1, h2⟩
  · have hg := tAgg_struct hf
    obtain ⟨x, e1, e2⟩ := part_rel hm hg hb.1 hb.2 hl (v := .agg (cut xs off m)) rfl
    obtain ⟨y, e3, e4⟩ := part_rel hm hg hb'.1 hb'.2 hl' (v := .agg (cut ys off m)) rfl
    refine ⟨x, y, e1, e3, .inl ⟨hg, ?_⟩, .inl ⟨hg, ?_⟩⟩
    · cases e2 with | agg q1 q2 => exact ⟨_, rfl, q1, q2⟩
    · cases e4 with | agg q1 q2 => exact ⟨_, rfl, q1, q2⟩
  · match hx : cut xs off m, h1 with
    | [c], _ =>
      match hy : cut ys off m, h2 with
      | [c'], _ =>
        obtain ⟨x, e1, e2⟩ := part_rel hm hg hb.1 hb.2 hl (v := c) (by rw [hx]; rfl)
        obtain ⟨y, e3, e4⟩ := part_rel hm hg hb'.1 hb'.2 hl' (v := c') (by rw [hy]; rfl)
        exact ⟨x, y, e1, e3, .inr ⟨hg, c, rfl, e2⟩, .inr ⟨hg, c', rfl, e4⟩⟩

theorem val_scalar {t : TypeId} {c : AV} {x : Value} (hg : tAgg P t = some false) (h : ValOf P w S φ t [c] x) : Rel w S φ c x := by
  rcases h with ⟨h1, _⟩ | ⟨_, c', h1, h2⟩
  · rw [hg] at h1; cases h1
  · cases h1; exact h2

theorem eqFields_ok {d D : Nat} {xs ys : List AV} {vs us : Array Value} (hb : BoxRel w S φ xs vs) (hb' : BoxRel w S φ ys us)
    (IH : ∀ t xs ys b, aeqIn P d t xs ys = some b → ∀ x y, ValOf P w S φ t xs x → ValOf P w S φ t ys y → (Op.equalIn D t x y).run P w = .ok b w) :
    ∀ (fs : List Field) (l : List (TypeId × Nat × Nat)) (b : Bool), fs.mapM (fun f => (tSize P f.type).map fun n => (f.type, f.offset, n)) = some l → (∀ f, f ∈ fs → f.name ≠ "_") →
      aeqFs (aeqIn P d) xs ys l = some b → (Op.eqFields D vs us fs).run P w = .ok b w
  | [], l, b, hm, _, h => by
    simp at hm
    subst hm
    simp only [aeqFs, Option.some.injEq] at h
    subst h
    rfl
  | f :: fs, l, b, hm, hn, h => by
    rw [List.mapM_cons] at hm
    cases hf : tSize P f.type with
    | none => rw [hf] at hm; simp at hm
    | some m =>
      rw [hf] at hm
      cases hm' : fs.mapM (fun f => (tSize P f.type).map fun n => (f.type, f.offset, n)) with
      | none => rw [hm'] at hm; simp at hm
      | some l' =>
        rw [hm'] at hm
        simp at hm
        subst hm
        rw [aeqFs] at h
        split at h
        · rename_i hh
          split at h
          · rename_i b1 b2 h1 h2
            simp only [Option.some.injEq] at h
            subst h
            obtain ⟨x, y, p1, p2, p3, p4⟩ := part_val hf hb hb' hh.1 hh.2 h1
            have q := IH _ _ _ _ h1 x y p3 p4
            have r := eqFields_ok hb hb' IH fs l' b2 hm' (fun g hg => hn g (by simp [hg])) h2
            simp only [Op.eqFields, hn f (by simp), ne_eq, not_false_eq_true, if_true, Sem.run_bind, p1, p2, q, Result.andThen]
            cases b1
            · rfl
            · simpa using r
          · cases h
        · cases h

theorem eqIn_ok : ∀ (d D : Nat) (t : TypeId) (xs ys : List AV) (b : Bool), d ≤ D → aeqIn P d t xs ys = some b → ∀ x y, ValOf P w S φ t xs x → ValOf P w S φ t ys y →
    (Op.equalIn D t x y).run P w = .ok b w
  | 0, _, _, _, _, _, _, h => by cases h
  | d + 1, D, t, xs, ys, b, hd, h => by
    intro x y hx hy
    obtain ⟨D, rfl⟩ : ∃ k, D = k + 1 := ⟨D - 1, by omega⟩
    unfold aeqIn at h
    split at h
    · split at h
      · rename_i ht
        cases h
        have r1 := val_scalar (tAgg_bool ht) hx
        have r2 := val_scalar (tAgg_bool ht) hy
        cases r1; cases r2
        exact run_equalIn_bool' w D t _ _ (tBool_ok ht)
      · cases h
    · split at h
      · rename_i hh
        obtain ⟨rfl, hk⟩ := hh
        cases h
        have r1 := val_scalar (tAgg_int hk) hx
        have r2 := val_scalar (tAgg_int hk) hy
        cases r1; cases r2
        obtain ⟨k', hk'⟩ := Option.isSome_iff_exists.1 hk
        rw [run_equalIn_int w D t _ k' _ _ (tInt_ok hk'), Bool.beq_eq_decide_eq]
      · cases h
    · split at h
      · rename_i ht
        cases h
        have r1 := val_scalar (tAgg_str ht) hx
        have r2 := val_scalar (tAgg_str ht) hy
        cases r1; cases r2
        rw [run_equalIn_string w D t _ _ (tStr_ok ht), str_toList, str_toList, beq_dec_list]
      · cases h
    · split at h
      · rename_i l hl
        obtain ⟨fs, hu, hst, hn, hm⟩ := tFields_ok hl
        have hg := tAgg_struct hl
        rcases hx with ⟨_, vs, rfl, bx⟩ | ⟨h1, _⟩
        · rcases hy with ⟨_, us, rfl, by_⟩ | ⟨h1, _⟩
          · have hfo : P.fieldsOf t = fs := by unfold Program.fieldsOf; rw [hu]
            rw [run_equalIn_struct w D t vs us (by rw [hfo]; exact hu) hst, hfo]
            exact eqFields_ok bx by_ (fun t xs ys b h => eqIn_ok d D t xs ys b (by omega) h) fs.toList l b hm hn h
          · rw [hg] at h1; cases h1
        · rw [hg] at h1; cases h1
      · cases h

theorem tPtr_ok {t : TypeId} (h : tPtr P t = true) : ∃ e, P.underlying t = some (.pointer e) := by
  unfold tPtr at h; split at h
  · exact ⟨_, ‹_›⟩
  · cases h
theorem tIface_ok {t : TypeId} (h : tIface P t = true) : ∃ e, P.underlying t = some (.interface e) := by
  unfold tIface at h; split at h
  · exact ⟨_, ‹_›⟩
  · cases h

theorem guard_ok {op : BinOp} {t : TypeId} {ox oy : Operand} {a c : Value} (h1 : ∀ p q, a = .agg p → c = .agg q → P.eqGuardType P.depth t = false) (h2 : ¬ (a = .nilIface ∧ c = .nilIface)) :
    (eqGuard op t ox oy a c).run P w = .ok () w := by
  cases a with
  | nilIface =>
    cases c with
    | nilIface => exact absurd ⟨rfl, rfl⟩ h2
    | _ => cases op <;> rfl
  | agg p =>
    cases c with
    | agg q => exact run_eqGuard_agg w op t ox oy p q (h1 p q rfl rfl)
    | _ => cases op <;> rfl
  | _ => cases op <;> rfl

set_option maxHeartbeats 1000000
theorem eqOp_ok {op : BinOp} {b : Bool} {v : AV} (h : eqOp op b = some v) : (op = .eql ∧ v = .bool b) ∨ (op = .neq ∧ v = .bool !b) := by
  unfold eqOp at h; split at h <;> first | (cases h; simp) | cases h

theorem abinT_good {op : BinOp} {x y v : AV} {t : TypeId} {ox oy : Operand} {a c : Value} {ws : List W} (H : HeapOK w S φ s.h n) (hn : n ≤ n')
    (e : (valO (abinT P op t x y)).run s = some (v, ws)) (rx : Rel w S φ x a) (ry : Rel w S φ y c) :
    Good P w S φ s n' (do eqGuard op t ox oy a c; binOp op t a c) v ws := by
  obtain ⟨e1, rfl⟩ := valO_some e
  clear e
  have e := e1
  clear e1
  have fin : ∀ {u : Value}, (eqGuard op t ox oy a c).run P w = .ok () w → (binOp op t a c).run P w = .ok u w → Rel w S φ v u → Good P w S φ s n' (do eqGuard op t ox oy a c; binOp op t a c) v [] := fun h1 h2 h3 =>
    .pure H hn (by rw [Sem.run_bind, h1]; exact h2) h3
  have fin' : (eqGuard op t ox oy a c).run P w = .ok () w → (∃ u, (binOp op t a c).run P w = .ok u w ∧ Rel w S φ v u) → Good P w S φ s n' (do eqGuard op t ox oy a c; binOp op t a c) v [] := fun h1 ⟨u, h2, h3⟩ => fin h1 h2 h3
  have gd : (∀ p q, a = .agg p → c = .agg q → P.eqGuardType P.depth t = false) → ¬ (a = .nilIface ∧ c = .nilIface) → (eqGuard op t ox oy a c).run P w = .ok () w := by
    intro h1 h2
    exact guard_ok h1 h2
  have ptr : ∀ {e : TypeId} {b : Bool}, P.underlying t = some (.pointer e) → (Op.equal t a c).run P w = .ok b w → eqOp op b = some v → (∀ p, a ≠ .agg p) → (∃ p, a = .pointer p) → (∃ p, c = .pointer p) →
      Good P w S φ s n' (do eqGuard op t ox oy a c; binOp op t a c) v [] := by
    rintro e b hu he ho hna ⟨p, rfl⟩ ⟨q, rfl⟩
    have hg := gd (fun p _ h => absurd h (hna p)) (by rintro ⟨h, _⟩; cases h)
    rcases eqOp_ok ho with ⟨rfl, rfl⟩ | ⟨rfl, rfl⟩
    · exact fin hg (by simp only [binOp, Sem.run_bind, he, Result.andThen, Sem.run_pure]) .bool
    · exact fin hg (by simp only [binOp, Sem.run_bind, he, Result.andThen, Sem.run_pure]) .bool
  have eqp : ∀ {e : TypeId} {p : Option Addr}, P.underlying t = some (.pointer e) → (Op.equal t (.pointer none) (.pointer p)).run P w = .ok p.isNone w ∧ (∀ q, p = some q → (Op.equal t (.pointer p) (.pointer none)).run P w = .ok false w) := by
    intro e p hu
    have e1 : ∀ x y, Op.equal t x y = Op.equalIn (9999 + 1) t x y := fun _ _ => rfl
    refine ⟨by rw [e1, Op.equalIn, Sem.run_bind, run_underlying hu]; rfl, ?_⟩
    rintro q rfl
    rw [e1, Op.equalIn, Sem.run_bind, run_underlying hu]; rfl
  have addr : ∀ {x : AV} {a : Value}, x.isAddr = true → Rel w S φ x a → ∃ q, a = .pointer (some q) := by
    intro x a hx r
    cases r <;> first | exact ⟨_, rfl⟩ | cases hx
  unfold abinT at e
  split at e
  · split at e
    · rename_i ht
      cases rx; cases ry
      exact fin' (gd (fun p _ h => by cases h) (by rintro ⟨h, _⟩; cases h)) (abin_bool (tBool_ok ht) e)
    · cases e
  · split at e
    · rename_i xs ys ht
      obtain ⟨ht, hagg⟩ := ht
      have hq : P.eqGuardType P.depth t = false := by simpa [tEqOk] using ht
      cases hh : aeqIn P 5 t xs ys with
      | none => rw [hh] at e; cases e
      | some b =>
        rw [hh] at e
        simp only [Option.bind_some] at e
        rcases aeqIn_agg hh with ⟨l, hf⟩ | ⟨hg, h1, h2⟩
        · have hg := tAgg_struct hf
          cases rx with
          | agg a1 a2 =>
            cases ry with
            | agg b1 b2 =>
              rename_i vs us
              have hr : (Op.equal t (.agg vs) (.agg us)).run P w = .ok b w := eqIn_ok 5 Op.maxDepth t xs ys b (by decide) hh _ _ (.inl ⟨hg, _, rfl, a1, a2⟩) (.inl ⟨hg, _, rfl, b1, b2⟩)
              have hgd := gd (fun _ _ _ _ => hq) (by rintro ⟨h, _⟩; cases h)
              rcases eqOp_ok e with ⟨rfl, rfl⟩ | ⟨rfl, rfl⟩
              · exact fin hgd (by simp only [binOp, Sem.run_bind, hr, Result.andThen, Sem.run_pure]) .bool
              · exact fin hgd (by simp only [binOp, Sem.run_bind, hr, Result.andThen, Sem.run_pure]) .bool
        · rw [hg] at hagg; cases hagg
    · cases e
  · split at e
    · rename_i ht
      obtain ⟨el, hu⟩ := tPtr_ok ht
      cases rx; cases ry
      exact ptr hu (eqp hu).1 e (by rintro p h; cases h) ⟨_, rfl⟩ ⟨_, rfl⟩
    · cases e
  · split at e
    · rename_i ht
      simp only [Bool.and_eq_true] at ht
      obtain ⟨el, hu⟩ := tPtr_ok ht.1
      cases rx
      obtain ⟨q, rfl⟩ := addr ht.2 ry
      exact ptr hu (eqp hu).1 e (by rintro p h; cases h) ⟨_, rfl⟩ ⟨_, rfl⟩
    · cases e
  · split at e
    · rename_i ht
      simp only [Bool.and_eq_true] at ht
      obtain ⟨el, hu⟩ := tPtr_ok ht.1
      cases ry
      obtain ⟨q, rfl⟩ := addr ht.2 rx
      exact ptr hu ((eqp hu).2 q rfl) e (by rintro p h; cases h) ⟨_, rfl⟩ ⟨_, rfl⟩
    · cases e
  · split at e
    · rename_i ht
      obtain ⟨el, hu⟩ := tIface_ok ht
      cases ry
      cases rx
      have hr : ∀ u x, (Op.equal t (.iface u x) .nilIface).run P w = .ok false w := fun u x => by
        have e1 : Op.equal t (.iface u x) .nilIface = Op.equalIn (9999 + 1) t (.iface u x) .nilIface := rfl
        rw [e1, Op.equalIn, Sem.run_bind, run_underlying hu]; rfl
      have hgd := gd (fun p _ h => by cases h) (by rintro ⟨h, _⟩; cases h)
      rcases eqOp_ok e with ⟨rfl, rfl⟩ | ⟨rfl, rfl⟩
      · exact fin hgd (by simp only [binOp, Sem.run_bind, hr, Result.andThen, Sem.run_pure]) .bool
      · exact fin hgd (by simp only [binOp, Sem.run_bind, hr, Result.andThen, Sem.run_pure]) .bool
    · cases e
  · split at e
    · rename_i ht
      obtain ⟨el, hu⟩ := tIface_ok ht
      cases rx
      cases ry
      have hr : ∀ u x, (Op.equal t .nilIface (.iface u x)).run P w = .ok false w := fun u x => by
        have e1 : Op.equal t .nilIface (.iface u x) = Op.equalIn (9999 + 1) t .nilIface (.iface u x) := rfl
        rw [e1, Op.equalIn, Sem.run_bind, run_underlying hu]; rfl
      have hgd := gd (fun p _ h => by cases h) (by rintro ⟨_, h⟩; cases h)
      rcases eqOp_ok e with ⟨rfl, rfl⟩ | ⟨rfl, rfl⟩
      · exact fin hgd (by simp only [binOp, Sem.run_bind, hr, Result.andThen, Sem.run_pure]) .bool
      · exact fin hgd (by simp only [binOp, Sem.run_bind, hr, Result.andThen, Sem.run_pure]) .bool
    · cases e
  · cases x <;> cases y <;> first
      | (simp only [abin] at e; cases e; done)
      | (cases rx; cases ry
         first
           | exact fin' (gd (fun p _ h => by cases h) (by rintro ⟨h, _⟩; cases h)) (abin_int e)
           | exact fin' (gd (fun p _ h => by cases h) (by rintro ⟨h, _⟩; cases h)) (abin_str e)
           | (exfalso; simp_all; done))


theorem abinN_good {op : BinOp} {x y v : AV} {t : TypeId} {ox oy : Operand} {a c : Value} {ws : List W} (H : HeapOK w S φ s.h n) (hn : n ≤ n')
    (e : (valO (abinN P op t (isNilC oy) x y)).run s = some (v, ws)) (rx : Rel w S φ x a) (ry : Rel w S φ y c) (hc : ∀ u, oy = .const u → c = u) :
    Good P w S φ s n' (do eqGuard op t ox oy a c; binOp op t a c) v ws := by
  cases hb : isNilC oy with
  | false => rw [hb] at e; exact abinT_good H hn e rx ry
  | true =>
    rw [hb] at e
    have hoy : oy = .const .nilIface := by
      unfold isNilC at hb
      split at hb
      · rename_i u
        unfold isNilV at hb
        split at hb
        · rfl
        · cases hb
      · cases hb
    have hcn := hc _ hoy
    subst hcn
    have e : (valO (abinNil P op t x)).run s = some (v, ws) := e
    unfold abinNil at e
    split at e
    · obtain ⟨e1, rfl⟩ := valO_some e
      split at e1
      · rename_i ht
        cases rx
        obtain ⟨el, hu⟩ := tIface_ok ht
        have hg : (eqGuard op t ox oy .nilIface .nilIface).run P w = .ok () w := by
          subst hoy
          unfold eqGuard
          cases op <;> cases ox <;> rfl
        have hr : (Op.equal t .nilIface .nilIface).run P w = .ok true w := by
          have e1 : Op.equal t .nilIface .nilIface = Op.equalIn (9999 + 1) t .nilIface .nilIface := rfl
          rw [e1, Op.equalIn, Sem.run_bind, run_underlying hu]; rfl
        rcases eqOp_ok e1 with ⟨rfl, rfl⟩ | ⟨rfl, rfl⟩
        · exact .pure H hn (by rw [Sem.run_bind, hg]; simp only [Result.andThen, binOp, Sem.run_bind, hr, Sem.run_pure]) .bool
        · exact .pure H hn (by rw [Sem.run_bind, hg]; simp only [Result.andThen, binOp, Sem.run_bind, hr, Sem.run_pure]) .bool
      · cases e1
    · exact abinT_good H hn e rx .nili

end Go.Ab
namespace Go.Ab
open Go
variable [Glob]

variable {P : Program} {w : World} {S : Nat → Prop} {φ : Pm} {s : AS} {n n' : Nat}

/-- What an operation leaves. -/
structure OpOK (P : Program) (w : World) (S : Nat → Prop) (φ : Pm) (s : AS) (n' : Nat) (m : Sem Next) (v : AV) (ws : List W) : Prop where
  hw : HW ws
  ok : ∃ nx w' S' φ', m.run P w = .ok nx w' ∧ HeapOK w' S' φ' (s.app ws).h n' ∧ Step w S φ s.h w' S' φ' (s.app ws).h ∧
    ((∃ x, nx = .value x ∧ Rel w' S' φ' v x) ∨ (nx = .skip ∧ v = .bot))

theorem Good.op {m : Sem Value} {v : AV} {ws : List W} (h : Good P w S φ s n' m v ws) : OpOK P w S φ s n' (m >>= fun x => Pure.pure (Next.value x)) v ws := by
  obtain ⟨h1, x, w', S', φ', e, k1, k2, r⟩ := h
  exact ⟨h1, .value x, w', S', φ', by simp [e, Result.andThen], k1, k2, .inl ⟨x, rfl, r⟩⟩
theorem GoodU.op {m : Sem Unit} {ws : List W} (h : GoodU P w S φ s n' m ws) : OpOK P w S φ s n' (m >>= fun _ => Pure.pure Next.skip) .bot ws := by
  obtain ⟨h1, w', S', φ', e, k1, k2⟩ := h
  exact ⟨h1, .skip, w', S', φ', by simp [e, Result.andThen], k1, k2, .inr ⟨rfl, rfl⟩⟩
theorem OpOK.value {m : Sem Next} {v : AV} {x : Value} (H : HeapOK w S φ s.h n) (hn : n ≤ n') (e : m.run P w = .ok (.value x) w) (r : Rel w S φ v x) : OpOK P w S φ s n' m v [] :=
  ⟨(fun _ h => by cases h), _, w, S, φ, e, (H.congr rfl rfl rfl rfl hn).1, Step.refl _ _ _ _, .inl ⟨x, rfl, r⟩⟩

theorem isBot_ne {x : AV} (h : x.isBot = false) : x ≠ .bot := by rintro rfl; cases h

theorem aevs_one {ρ : Operand → Value} (hs : Slots w S φ s.t ρ) {args : Array Operand} {x : AV} (h : (aevs args.toList).run s = some [x]) :
    ∃ a, args.map ρ = #[a] ∧ Rel w S φ x a := by
  obtain ⟨h1, h2⟩ := aevs_rel hs h
  obtain ⟨l⟩ := args
  match l, h1 with
  | [a], _ => exact ⟨ρ a, by simp, h2 0 (by simp) (by simp)⟩
theorem aevs_two {ρ : Operand → Value} (hs : Slots w S φ s.t ρ) {args : Array Operand} {x y : AV} (h : (aevs args.toList).run s = some [x, y]) :
    ∃ a b, args.map ρ = #[a, b] ∧ Rel w S φ x a ∧ Rel w S φ y b := by
  obtain ⟨h1, h2⟩ := aevs_rel hs h
  obtain ⟨l⟩ := args
  match l, h1 with
  | [a, b], _ => exact ⟨ρ a, ρ b, by simp, h2 0 (by simp) (by simp), h2 1 (by simp) (by simp)⟩

theorem abuiltin_good {ρ : Operand → Value} (hs : Slots w S φ s.t ρ) {b : Nat} {f : Builtin} {args : Array Operand} {argTypes : Array TypeId} {ty : TypeId} {consts : Array Bool} {v : AV} {vs : List AV} {ws : List W}
    (H : HeapOK w S φ s.h n) (hb : Fr φ s.h b ∧ n ≤ n') (hn : b < n') (e1 : (aevs args.toList).run s = some vs) (e : (abuiltin P b f argTypes.toList vs).run s = some (v, ws)) :
    OpOK P w S φ s n' (builtin f argTypes ty consts (args.map ρ)) v ws := by
  unfold abuiltin at e
  split at e
  · rename_i t ts x ht
    obtain ⟨e2, rfl⟩ := valO_some e
    cases hl : alen P t x with
    | none => rw [hl] at e2; cases e2
    | some m =>
      rw [hl] at e2
      have e3 := Option.some.inj e2
      subst e3
      obtain ⟨a, h1, h2⟩ := aevs_one hs e1
      rw [h1]
      have hat : argTypes = (t :: ts).toArray := by rw [← ht]
      rw [hat]
      exact (alen_good H (by omega) hl h2).op
  · rename_i t t' ts x y ht
    obtain ⟨a, c, h1, h2, h3⟩ := aevs_two hs e1
    rw [h1]
    have hat : argTypes = (t :: t' :: ts).toArray := by rw [← ht]
    rw [hat]
    exact (aappend_good H hb hn e h2 h3).op
  · rename_i t ts x y ht
    obtain ⟨a, c, h1, h2, h3⟩ := aevs_two hs e1
    rw [h1]
    have hat : argTypes = (t :: ts).toArray := by rw [← ht]
    rw [hat]
    exact (acopy_good H (by omega) e h2 h3).op
  · obtain ⟨e2, rfl⟩ := valO_some e
    obtain ⟨h1, h2⟩ := aevs_rel hs e1
    obtain ⟨x, q1, q2⟩ := aminmax_good (P := P) (w := w) (S := S) (φ := φ) (fun x y => decide (x < y)) Builtin.min2 (fun k a b w => by simp [Builtin.min2]) _ ((args.map ρ).toList) v e2 (by simpa using h1)
      (fun j h h' => by simpa only [Array.toList_map, List.getElem_map] using h2 j h (by simpa using h'))
    have : Good P w S φ s n' (Builtin.min_ argTypes ty (args.map ρ)) v [] := .pure H (by omega) (by
      unfold Builtin.min_
      revert q1
      cases hh : (args.map ρ).toList with
      | nil => intro q1; exact absurd q1 (by simp)
      | cons y ys => intro q1; exact q1) q2
    exact this.op
  · obtain ⟨e2, rfl⟩ := valO_some e
    obtain ⟨h1, h2⟩ := aevs_rel hs e1
    obtain ⟨x, q1, q2⟩ := aminmax_good (P := P) (w := w) (S := S) (φ := φ) (fun x y => decide (y < x)) Builtin.max2 (fun k a b w => by simp [Builtin.max2]) _ ((args.map ρ).toList) v e2 (by simpa using h1)
      (fun j h h' => by simpa only [Array.toList_map, List.getElem_map] using h2 j h (by simpa using h'))
    have : Good P w S φ s n' (Builtin.max_ argTypes ty (args.map ρ)) v [] := .pure H (by omega) (by
      unfold Builtin.max_
      revert q1
      cases hh : (args.map ρ).toList with
      | nil => intro q1; exact absurd q1 (by simp)
      | cons y ys => intro q1; exact q1) q2
    exact this.op
  · cases e

theorem optRel {ρ : Operand → Value} (hs : Slots w S φ s.t ρ) {x : Operand} {v : AV} (e : (aev x).run s = some v) : OptRel w S φ (some v) ((some x).map ρ) :=
  ⟨(fun h => by cases h), fun a ha => by cases ha; exact ⟨_, rfl, aev_rel hs e⟩⟩
theorem optNone {ρ : Operand → Value} : OptRel w S φ none ((none : Option Operand).map ρ) := ⟨fun _ => rfl, (fun a ha => by cases ha)⟩

theorem aopV_good {ρ : Operand → Value} (hs : Slots w S φ s.t ρ) {b : Nat} {o : Oper} {v : AV} {ws : List W} (H : HeapOK w S φ s.h n) (hb : Fr φ s.h b ∧ n ≤ n') (hn : b < n')
    (e : (aopV P b o.op).run s = some (v, ws)) : OpOK P w S φ s n' (execOp ρ o) v ws := by
  have hle : n ≤ n' := by omega
  cases hop : o.op <;> rw [hop] at e <;> simp only [aopV] at e <;> (try (cases e; done)) <;> unfold execOp <;> simp only [hop]
  case move x =>
    obtain ⟨v1, e1, e2⟩ := bind_some e
    obtain ⟨rfl, rfl⟩ := val_some e2
    exact .value H hle rfl (aev_rel hs e1)
  case assign x =>
    obtain ⟨v1, e1, e2⟩ := bind_some e
    obtain ⟨rfl, rfl⟩ := val_some e2
    exact .value H hle rfl (aev_rel hs e1)
  case pick c x y =>
    obtain ⟨vc, e1, e2⟩ := bind_some e
    split at e2
    · rename_i t
      obtain ⟨vx, e3, e4⟩ := bind_some e2
      obtain ⟨vy, e5, e6⟩ := bind_some e4
      obtain ⟨rfl, rfl⟩ := val_some e6
      have r1 := aev_rel hs e1
      generalize hc : ρ c = cc at r1
      cases r1
      refine .value H hle (by simp [asBool]; rfl) ?_
      cases t
      · exact aev_rel hs e5
      · exact aev_rel hs e3
    · cases e2
  case alloc t =>
    split at e
    · simp only [run_ret, Option.some.injEq, Prod.mk.injEq] at e
      obtain ⟨rfl, rfl⟩ := e
      exact (alloc_good H hb hn ‹_›).op
    · cases e
  case box t x =>
    obtain ⟨v1, e1, e2⟩ := bind_some e
    obtain ⟨h1, e3⟩ := guardA_some e2
    simp only [run_ret, Option.some.injEq, Prod.mk.injEq] at e3
    obtain ⟨rfl, rfl⟩ := e3
    exact (box_good H hb hn (isBot_ne h1) (aev_rel hs e1)).op
  case build t ps =>
    obtain ⟨vs, e1, e2⟩ := bind_some e
    obtain ⟨h1, e3⟩ := guardA_some e2
    obtain ⟨e4, rfl⟩ := valO_some e3
    exact (build_good hs H hle e1 h1 e4).op
  case buildSlice t len ps =>
    obtain ⟨vs, e1, e2⟩ := bind_some e
    split at e2
    · split at e2
      · split at e2
        · obtain ⟨⟨h1, h2, h3⟩, e3⟩ := guardA_some e2
          obtain ⟨⟨ys, us⟩, e4, e5⟩ := bind_some e3
          simp only [run_ret, Option.some.injEq, Prod.mk.injEq] at e5
          obtain ⟨rfl, rfl⟩ := e5
          exact (buildSlice_good hs H hb hn e1 h3 ‹_› ‹_› h1 h2 ‹_› e4).op
        · cases e2
      · cases e2
    · cases e2
  case load t x =>
    obtain ⟨v1, e1, e2⟩ := bind_some e
    exact (aload_good H hle e2 (aev_rel hs e1)).op
  case store t x y =>
    obtain ⟨v1, e1, e2⟩ := bind_some e
    obtain ⟨v2, e3, e4⟩ := bind_some e2
    obtain ⟨rfl, h⟩ := astore_good H hle e4 (aev_rel hs e1) (aev_rel hs e3)
    exact h.op
  case nilCheck x =>
    obtain ⟨v1, e1, e2⟩ := bind_some e
    have r := aev_rel hs e1
    generalize ρ x = xx at r
    split at e2 <;> first
      | (cases e2; done)
      | (obtain ⟨rfl, rfl⟩ := val_some e2; cases r; exact .value H hle rfl (by first | exact .ptr ‹_› | exact .rptr ‹_› | exact .cp _ ‹_› ‹_› ‹_› ‹_› | exact .gp | exact .fn ‹_› ‹_› ‹_› ‹_›))
  case binOp op t x y yt =>
    obtain ⟨v1, e1, e2⟩ := bind_some e
    obtain ⟨v2, e3, e4⟩ := bind_some e2
    exact (abinN_good H hle e4 (aev_rel hs e1) (aev_rel hs e3) (fun u hu => by subst hu; exact hs.2.1 u)).op
  case unOp op t x =>
    obtain ⟨v1, e1, e2⟩ := bind_some e
    exact (aun_good H hle e2 (aev_rel hs e1)).op
  case convert t u x =>
    obtain ⟨v1, e1, e2⟩ := bind_some e
    exact (aconvert_good H hb hn e2 (aev_rel hs e1)).op
  case makeFunc f fi ca =>
    obtain ⟨v1, e1, e2⟩ := bind_some e
    obtain ⟨v2, e3, e4⟩ := bind_some e2
    obtain ⟨rfl, rfl⟩ := val_some e4
    exact (makeFunc_good hs H hle e1 e3).op
  case makeSlice t l c =>
    obtain ⟨v1, e1, e2⟩ := bind_some e
    obtain ⟨v2, e3, e4⟩ := bind_some e2
    have r1 := aev_rel hs e1
    have r2 := aev_rel hs e3
    generalize ρ l = ll at r1
    generalize ρ c = cc at r2
    split at e4
    · split at e4
      · obtain ⟨hh, e5⟩ := guardA_some e4
        simp only [run_ret, Option.some.injEq, Prod.mk.injEq] at e5
        obtain ⟨rfl, rfl⟩ := e5
        cases r1; cases r2
        exact (makeSlice_good H hb hn ‹_› ‹_› ‹_› hh).op
      · cases e4
    · cases e4
  case slice t x lo hi mx =>
    cases mx with
    | some _ => cases e
    | none =>
      simp only at e
      obtain ⟨v1, e1, e2⟩ := bind_some e
      have r1 := aev_rel hs e1
      cases lo with
      | none =>
        cases hi with
        | none => exact (aslice_good H hle e2 r1 optNone optNone).op
        | some h =>
          obtain ⟨v3, e5, e6⟩ := bind_some e2
          exact (aslice_good H hle e6 r1 optNone (optRel hs e5)).op
      | some l =>
        cases hi with
        | none =>
          obtain ⟨v3, e5, e6⟩ := bind_some e2
          exact (aslice_good H hle e6 r1 (optRel hs e5) optNone).op
        | some h =>
          obtain ⟨v3, e5, e6⟩ := bind_some e2
          obtain ⟨v4, e7, e8⟩ := bind_some e6
          exact (aslice_good H hle e8 r1 (optRel hs e5) (optRel hs e7)).op
  case fieldAddr t x f =>
    obtain ⟨v1, e1, e2⟩ := bind_some e
    split at e2
    · exact (fieldAddr_good H hle ‹_› e2 (aev_rel hs e1)).op
    · cases e2
  case field t x f =>
    obtain ⟨v1, e1, e2⟩ := bind_some e
    split at e2
    · exact (field_good H hle ‹_› e2 (aev_rel hs e1)).op
    · cases e2
  case indexAddr t x i =>
    obtain ⟨v1, e1, e2⟩ := bind_some e
    obtain ⟨v2, e3, e4⟩ := bind_some e2
    exact (aindexAddr_good H hle e4 (aev_rel hs e1) (aev_rel hs e3)).op
  case index t x i =>
    obtain ⟨v1, e1, e2⟩ := bind_some e
    obtain ⟨v2, e3, e4⟩ := bind_some e2
    exact (aindex_good H hle e4 (aev_rel hs e1) (aev_rel hs e3)).op
  case extract x i =>
    obtain ⟨v1, e1, e2⟩ := bind_some e
    split at e2
    · obtain ⟨e3, rfl⟩ := valO_some e2
      exact (extract_good H hle e3 (aev_rel hs e1)).op
    · cases e2
  case call c =>
    obtain ⟨callee, args, argTypes⟩ := c
    cases callee with
    | builtin f =>
      simp only at e
      obtain ⟨v1, e1, e2⟩ := bind_some e
      have q : ∀ consts, OpOK P w S φ s n' (builtin f argTypes o.type consts (args.map ρ)) v ws := fun consts => abuiltin_good hs H hb hn e1 e2
      exact q _
    | value f => cases e
    | invoke f m => cases e

end Go.Ab
namespace Go.Ab
open Go
variable [Glob]

variable {P : Program} {w : World} {S : Nat → Prop} {φ : Pm} {s : AS} {n n' : Nat}

/-! ### freezing what a value leads to -/
/-- a row, or a box, of one cell -/
def frz1 (x : AV) : RM (AV × List W) :=
  match x with
  | .ptr id off => .h id fun
    | .box cs => guardA (off ≤ cs.length ∧ flatL cs = true) (.ret (.cp (cs.drop off), [.h id (.fbox cs)]))
    | .fbox cs => guardA (off ≤ cs.length ∧ flatL cs = true) (.ret (.cp (cs.drop off), []))
    | _ => .fail
  | x => frz x
def frzM (f : AV → RM (AV × List W)) : List AV → RM (List AV × List W)
  | [] => .ret ([], [])
  | x :: xs => (f x).bind fun (y, ws) => (frzM f xs).bind fun (ys, us) => .ret (y :: ys, ws ++ us)
def frz2 (x : AV) : RM (AV × List W) :=
  match x with
  | .agg cs => (frzM frz1 cs).bind fun (ys, ws) => .ret (.agg ys, ws)
  | .fn f fi ca => (frzM frz1 fi).bind fun (ys, ws) => (frzM frz1 ca).bind fun (zs, us) => .ret (.fn f ys zs, ws ++ us)
  | x => frz1 x
def frzX (x : AV) : RM (AV × List W) :=
  match x with
  | .tup vs => (frzM frz2 vs).bind fun (ys, ws) => .ret (.tup ys, ws)
  | .iface t v => (frz2 v).bind fun (y, ws) => .ret (.iface t y, ws)
  | x => frz2 x

def VF2 (h : Nat → AObj) (u : W) : Prop := VF h u ∨ ∃ i cs, u = .h i (.fbox cs) ∧ flatL cs = true ∧ (h i = .box cs ∨ h i = .fbox cs)
def FrzAt2 (h h' : Nat → AObj) : Prop := FrzAt h h' ∧ ∀ i cs, h i = .fbox cs → h' i = .fbox cs

theorem VF2.keep {h : Nat → AObj} {v : W} (hv : VF2 h v) {i : Nat} {o : AObj} (e : v = .h i o) {u : W} (hu : VF2 h u) : VF2 (upd h i o) u := by
  rcases hu with ⟨j, sz, g, xs, rfl, hj⟩ | ⟨j, cs, rfl, hf, hj⟩
  · refine .inl ⟨j, sz, g, xs, rfl, ?_⟩
    by_cases ej : j = i
    · subst ej
      rw [upd_same]
      rcases hv with ⟨j', sz', g', xs', rfl, hj'⟩ | ⟨j', cs', rfl, hf', hj'⟩
      · cases e
        rcases hj with hj | hj <;> rcases hj' with hj' | hj' <;> rw [hj] at hj' <;> cases hj' <;> exact .inr rfl
      · cases e
        rcases hj with hj | hj <;> rcases hj' with hj' | hj' <;> rw [hj] at hj' <;> cases hj'
    · rw [upd_ne _ _ ej]; exact hj
  · refine .inr ⟨j, cs, rfl, hf, ?_⟩
    by_cases ej : j = i
    · subst ej
      rw [upd_same]
      rcases hv with ⟨j', sz', g', xs', rfl, hj'⟩ | ⟨j', cs', rfl, hf', hj'⟩
      · cases e
        rcases hj with hj | hj <;> rcases hj' with hj' | hj' <;> rw [hj] at hj' <;> cases hj'
      · cases e
        rcases hj with hj | hj <;> rcases hj' with hj' | hj' <;> rw [hj] at hj' <;> cases hj' <;> exact .inr rfl
    · rw [upd_ne _ _ ej]; exact hj

theorem VF2.loc {h : Nat → AObj} {u : W} (hu : VF2 h u) : ∃ i o, u = .h i o ∧ h i ≠ .dead ∧ o ≠ .dead := by
  rcases hu with ⟨j, sz, g, xs, rfl, hj⟩ | ⟨j, cs, rfl, hf, hj⟩
  · exact ⟨j, _, rfl, by rcases hj with hj | hj <;> rw [hj] <;> (intro h; cases h), by intro h; cases h⟩
  · exact ⟨j, _, rfl, by rcases hj with hj | hj <;> rw [hj] <;> (intro h; cases h), by intro h; cases h⟩

theorem freezeAll2 {ws : List W} : ∀ {s : AS} {S : Nat → Prop}, HeapOK w S φ s.h n → (∀ u, u ∈ ws → VF2 s.h u) →
    ∃ S', HeapOK w S' φ (s.app ws).h n ∧ Step w S φ s.h w S' φ (s.app ws).h := by
  induction ws with
  | nil => intro s S H _; exact ⟨S, H, Step.refl _ _ _ _⟩
  | cons u ws ih =>
    intro s S H hv
    have hu := hv u (by simp)
    have same : ∀ {i o}, s.h i = o → upd s.h i o = s.h := fun {i o} e => by
      funext j; by_cases e' : j = i
      · subst e'; rw [upd_same, e]
      · rw [upd_ne _ _ e']
    have hs : ∃ i o, u = .h i o ∧ ∃ S1, HeapOK w S1 φ (upd s.h i o) n ∧ Step w S φ s.h w S1 φ (upd s.h i o) := by
      rcases hu with ⟨i, sz, g, xs, rfl, hi⟩ | ⟨i, cs, rfl, hf, hi⟩
      · refine ⟨i, _, rfl, ?_⟩
        rcases hi with hi | hi
        · exact H.freezeRow i hi
        · rw [same hi]; exact ⟨S, H, Step.refl _ _ _ _⟩
      · refine ⟨i, _, rfl, ?_⟩
        rcases hi with hi | hi
        · exact H.freezeBox i hi fun b vs _ _ hb => ⟨hb.1, fun j h1 h2 => flat_rel (flatL_get hf j h1) (hb.2 j h1 h2)⟩
        · rw [same hi]; exact ⟨S, H, Step.refl _ _ _ _⟩
    obtain ⟨i, o, rfl, S1, H1, T1⟩ := hs
    obtain ⟨S2, H2, T2⟩ := ih (s := s.app1 (.h i o)) H1 (fun u' hu' => hu.keep rfl (hv u' (by simp [hu'])))
    exact ⟨S2, H2, T1.trans T2⟩

theorem app_frz2 {ws : List W} : ∀ {s : AS}, (∀ u, u ∈ ws → VF2 s.h u) → FrzAt2 s.h (s.app ws).h ∧ ∀ i o, W.h i o ∈ ws → (s.app ws).h i = o := by
  induction ws with
  | nil => intro s _; exact ⟨⟨fun _ _ _ _ h => h, fun _ _ h => h⟩, fun _ _ h => by cases h⟩
  | cons u ws ih =>
    intro s hv
    have hu := hv u (by simp)
    have key : ∃ i o, u = .h i o ∧ FrzAt2 s.h (upd s.h i o) ∧ ((∃ sz g xs, o = .frow sz g xs) ∨ ∃ cs, o = .fbox cs) := by
      rcases hu with ⟨i, sz, g, xs, rfl, hi⟩ | ⟨i, cs, rfl, hf, hi⟩
      · refine ⟨i, _, rfl, ⟨fun j sz' g' ys hj => ?_, fun j cs hj => ?_⟩, .inl ⟨_, _, _, rfl⟩⟩
        · by_cases e : j = i
          · subst e; rw [upd_same]; rcases hi with hi | hi <;> rw [hi] at hj <;> cases hj; rfl
          · rw [upd_ne _ _ e]; exact hj
        · by_cases e : j = i
          · subst e; rcases hi with hi | hi <;> rw [hi] at hj <;> cases hj
          · rw [upd_ne _ _ e]; exact hj
      · refine ⟨i, _, rfl, ⟨fun j sz' g' ys hj => ?_, fun j cs hj => ?_⟩, .inr ⟨_, rfl⟩⟩
        · by_cases e : j = i
          · subst e; rcases hi with hi | hi <;> rw [hi] at hj <;> cases hj
          · rw [upd_ne _ _ e]; exact hj
        · by_cases e : j = i
          · subst e; rw [upd_same]; rcases hi with hi | hi <;> rw [hi] at hj <;> cases hj; rfl
          · rw [upd_ne _ _ e]; exact hj
    obtain ⟨i, o, rfl, ⟨f1, f2⟩, ho⟩ := key
    obtain ⟨⟨h1, h1'⟩, h2⟩ := ih (s := s.app1 (.h i o)) (fun u' hu' => hu.keep rfl (hv u' (by simp [hu'])))
    refine ⟨⟨fun j sz' g' ys hj => h1 j sz' g' ys (f1 j _ _ _ hj), fun j cs hj => h1' j cs (f2 j _ hj)⟩, fun j o' hm => ?_⟩
    cases hm with
    | head =>
      rcases ho with ⟨sz, g, xs, rfl⟩ | ⟨cs, rfl⟩
      · exact h1 _ _ _ _ (by show upd s.h i _ i = _; rw [upd_same])
      · exact h1' _ _ (by show upd s.h i _ i = _; rw [upd_same])
    | tail _ hm => exact h2 j o' hm

theorem app_vf2_dead {ws : List W} : ∀ {s : AS} {b : Nat}, (∀ u, u ∈ ws → VF2 s.h u) → s.h b = .dead → (s.app ws).h b = .dead := by
  induction ws with
  | nil => intro s b _ h; exact h
  | cons u ws ih =>
    intro s b hv hb
    have hu := hv u (by simp)
    obtain ⟨i, o, rfl, hi, _⟩ := hu.loc
    refine ih (s := s.app1 (.h i o)) (fun u' hu' => hu.keep rfl (hv u' (by simp [hu']))) ?_
    show upd s.h i _ b = _
    by_cases e : b = i
    · subst e; exact absurd hb hi
    · rw [upd_ne _ _ e]; exact hb

/-- what a freezing owes -/
def FzOK (s : AS) (x y : AV) (ws : List W) : Prop :=
  (∀ u, u ∈ ws → VF2 s.h u) ∧ ∀ {w : World} {S S' : Nat → Prop} {φ : Pm} {h' : Nat → AObj} {n : Nat} {v : Value}, HeapOK w S' φ h' n → (∀ b, S b → S' b) → FrzAt2 s.h h' →
    (∀ i o, W.h i o ∈ ws → h' i = o) → Rel w S φ x v → Rel w S' φ y v

theorem cp_of_fbox {h : Nat → AObj} {id off : Nat} {cs : List AV} {v : Value} (H : HeapOK w S φ h n) (hi : h id = .fbox cs) (hf : flatL cs = true) (ho : off ≤ cs.length)
    (r : Rel w S φ (.ptr id off) v) : Rel w S φ (.cp (cs.drop off)) v := by
  have hob := H.obj id
  rw [hi] at hob
  obtain ⟨b, vs, h1, h2, h3, h4⟩ := hob
  cases r with
  | ptr hp =>
    rw [h1] at hp; cases hp
    have hl : cs.length = vs.size := h3.1
    have hd : (cs.drop off).length = cs.length - off := by simp
    refine .cp (fun j => (vs[off + j]?).getD undef) h4 (fun j hj => ?_) (fun j hj => ?_) (fun j hj => ?_)
    · rw [h2.cell]; simp [show off + j < vs.size by omega]
    · have := flat_one (flatL_get hf (off + j) (by omega)) (h3.2 (off + j) (by omega) (by omega))
      simpa [show off + j < vs.size by omega] using this
    · have := h3.2 (off + j) (by omega) (by omega)
      simpa [show off + j < vs.size by omega] using this

theorem frz1_ok {x y : AV} {ws : List W} (e : (frz1 x).run s = some (y, ws)) : FzOK s x y ws := by
  unfold frz1 at e
  split at e
  · rename_i id off
    simp only [RM.run] at e
    split at e
    · rename_i cs hi
      obtain ⟨⟨h1, h2⟩, e'⟩ := guardA_some e
      clear e
      simp only [run_ret, Option.some.injEq, Prod.mk.injEq] at e'
      obtain ⟨rfl, rfl⟩ := e'
      refine ⟨fun u hu => ?_, fun H hS _ hw r => cp_of_fbox H (hw id _ (by simp)) h2 h1 (r.mono (fun _ _ => rfl) hS (Pm.le_refl _))⟩
      simp only [List.mem_singleton] at hu
      exact .inr ⟨id, cs, hu, h2, .inl hi⟩
    · rename_i cs hi
      obtain ⟨⟨h1, h2⟩, e'⟩ := guardA_some e
      clear e
      simp only [run_ret, Option.some.injEq, Prod.mk.injEq] at e'
      obtain ⟨rfl, rfl⟩ := e'
      exact ⟨(fun u hu => by cases hu), fun H hS hf hw r => cp_of_fbox H (hf.2 id _ hi) h2 h1 (r.mono (fun _ _ => rfl) hS (Pm.le_refl _))⟩
    · cases e
  · obtain ⟨a1, a2⟩ := frz_vf e
    exact ⟨fun u hu => .inl (a1 u hu), fun H hS hf hw r => (a2 H hS hf.1 hw r).1.mono (fun _ _ => rfl) (fun _ h => h) (pm0_le _)⟩

theorem frzM_ok {f : AV → RM (AV × List W)} (hf : ∀ {x y ws}, (f x).run s = some (y, ws) → FzOK s x y ws) : ∀ {xs ys : List AV} {ws : List W}, (frzM f xs).run s = some (ys, ws) →
    (∀ u, u ∈ ws → VF2 s.h u) ∧ ys.length = xs.length ∧ ∀ {w : World} {S S' : Nat → Prop} {φ : Pm} {h' : Nat → AObj} {n : Nat} {vs : Array Value}, HeapOK w S' φ h' n → (∀ b, S b → S' b) → FrzAt2 s.h h' →
      (∀ i o, W.h i o ∈ ws → h' i = o) → ∀ k, (∀ j (h : j < xs.length) (h' : k + j < vs.size), Rel w S φ xs[j] vs[k + j]) → ∀ j (h : j < ys.length) (h' : k + j < vs.size), Rel w S' φ ys[j] vs[k + j]
  | [], ys, ws, e => by
    simp only [frzM, run_ret, Option.some.injEq, Prod.mk.injEq] at e
    obtain ⟨rfl, rfl⟩ := e
    exact ⟨(fun u hu => by cases hu), rfl, fun _ _ _ _ _ _ j h => by simp at h⟩
  | x :: xs, ys, ws, e => by
    rw [frzM] at e
    obtain ⟨⟨y, us⟩, e1, e⟩ := bind_some e
    obtain ⟨⟨zs, vs'⟩, e2, e⟩ := bind_some e
    simp only [run_ret, Option.some.injEq, Prod.mk.injEq] at e
    obtain ⟨rfl, rfl⟩ := e
    obtain ⟨a1, a2⟩ := hf e1
    obtain ⟨b1, b2, b3⟩ := frzM_ok hf e2
    refine ⟨fun u hu => ?_, by simp [b2], fun {_ _ _ _ _ _ vs} H hS hfz hw k hr j h h' => ?_⟩
    · rcases List.mem_append.1 hu with h | h
      · exact a1 u h
      · exact b1 u h
    · cases j with
      | zero => exact a2 H hS hfz (fun i o hm => hw i o (List.mem_append.2 (.inl hm))) (hr 0 (by simp) h')
      | succ j =>
        have := b3 (vs := vs) H hS hfz (fun i o hm => hw i o (List.mem_append.2 (.inr hm))) (k + 1) (fun j h h' => by
          have := hr (j + 1) (by simpa using h) (by omega)
          simpa [Nat.add_assoc, Nat.add_comm 1 j] using this) j (by simpa using h) (by omega)
        simpa [Nat.add_assoc, Nat.add_comm 1 j] using this

theorem frz2_ok {x y : AV} {ws : List W} (e : (frz2 x).run s = some (y, ws)) : FzOK s x y ws := by
  unfold frz2 at e
  split at e
  · rename_i cs
    obtain ⟨⟨ys, us⟩, e1, e⟩ := bind_some e
    simp only [run_ret, Option.some.injEq, Prod.mk.injEq] at e
    obtain ⟨rfl, rfl⟩ := e
    obtain ⟨a1, a2, a3⟩ := frzM_ok frz1_ok e1
    refine ⟨a1, fun H hS hf hw r => ?_⟩
    cases r with
    | agg h1 h2 =>
      rename_i vs
      exact .agg (by omega) fun i h h' => by simpa using a3 (vs := vs) H hS hf hw 0 (fun j h h' => by simpa using h2 j h (by omega)) i h (by omega)
  · rename_i f fi ca
    obtain ⟨⟨ys, us⟩, e1, e⟩ := bind_some e
    obtain ⟨⟨zs, vs⟩, e2, e⟩ := bind_some e
    simp only [run_ret, Option.some.injEq, Prod.mk.injEq] at e
    obtain ⟨rfl, rfl⟩ := e
    obtain ⟨a1, a2, a3⟩ := frzM_ok frz1_ok e1
    obtain ⟨b1, b2, b3⟩ := frzM_ok frz1_ok e2
    refine ⟨fun u hu => ?_, fun H hS hf hw r => ?_⟩
    · rcases List.mem_append.1 hu with h | h
      · exact a1 u h
      · exact b1 u h
    · cases r with
      | fn h1 h2 h3 h4 =>
        rename_i vs us
        exact .fn (by omega) (fun i h h' => by simpa using a3 (vs := vs) H hS hf (fun i o hm => hw i o (List.mem_append.2 (.inl hm))) 0 (fun j h h' => by simpa using h2 j h (by omega)) i h (by omega))
          (by omega) (fun i h h' => by simpa using b3 (vs := us) H hS hf (fun i o hm => hw i o (List.mem_append.2 (.inr hm))) 0 (fun j h h' => by simpa using h4 j h (by omega)) i h (by omega))
  · exact frz1_ok e

theorem frzX_ok {x y : AV} {ws : List W} (e : (frzX x).run s = some (y, ws)) : FzOK s x y ws := by
  unfold frzX at e
  split at e
  · rename_i vs
    obtain ⟨⟨ys, us⟩, e1, e⟩ := bind_some e
    simp only [run_ret, Option.some.injEq, Prod.mk.injEq] at e
    obtain ⟨rfl, rfl⟩ := e
    obtain ⟨a1, a2, a3⟩ := frzM_ok frz2_ok e1
    refine ⟨a1, fun H hS hf hw r => ?_⟩
    cases r with
    | tup h1 h2 =>
      rename_i us
      exact .tup (by omega) fun i h h' => by simpa using a3 (vs := us) H hS hf hw 0 (fun j h h' => by simpa using h2 j h (by omega)) i h (by omega)
  · rename_i t v
    obtain ⟨⟨y', us⟩, e1, e⟩ := bind_some e
    simp only [run_ret, Option.some.injEq, Prod.mk.injEq] at e
    obtain ⟨rfl, rfl⟩ := e
    obtain ⟨a1, a2⟩ := frz2_ok e1
    refine ⟨a1, fun H hS hf hw r => ?_⟩
    cases r with
    | iface h => exact .iface (a2 H hS hf hw h)
  · exact frz2_ok e

theorem VF2_HW {h : Nat → AObj} {ws : List W} (hv : ∀ u, u ∈ ws → VF2 h u) : HW ws := fun u hu => by
  obtain ⟨i, o, rfl, _⟩ := (hv u hu).loc
  exact ⟨i, _, rfl⟩

/-! ### an operation, with what it tells frozen where that is asked -/
def fzO (P : Program) (b : Nat) (z : Bool) (op : Op) (s : AS) : Option (AV × List W) :=
  match (aopV P b op).run s with
  | some (v, ws) => if z = true then ((frzX v).run (s.app ws)).map fun p => (p.1, ws ++ p.2) else some (v, ws)
  | none => none

theorem OpOK.fz {m : Sem Next} {v : AV} {ws : List W} (h : OpOK P w S φ s n' m v ws) {y : AV} {us : List W} (e : (frzX v).run (s.app ws) = some (y, us)) (hb : v ≠ .bot) :
    OpOK P w S φ s n' m y (ws ++ us) := by
  obtain ⟨hw, nx, w', S', φ', e1, e2, e3, e4⟩ := h
  obtain ⟨a1, a2⟩ := frzX_ok e
  obtain ⟨S1, H1, T1⟩ := freezeAll2 e2 a1
  obtain ⟨b1, b2⟩ := app_frz2 a1
  refine ⟨fun u hu => ?_, nx, w', S1, φ', e1, by rw [app_append]; exact H1, by rw [app_append]; exact e3.trans T1, ?_⟩
  · rcases List.mem_append.1 hu with h | h
    · exact hw u h
    · exact VF2_HW a1 u h
  · rcases e4 with ⟨x, rfl, r⟩ | ⟨rfl, rfl⟩
    · exact .inl ⟨x, rfl, a2 H1 T1.sub b1 b2 r⟩
    · exact absurd rfl hb

theorem frzX_bot {s : AS} : (frzX .bot).run s = none := rfl

theorem fzO_good {ρ : Operand → Value} (hs : Slots w S φ s.t ρ) {b : Nat} {z : Bool} {o : Oper} {v : AV} {ws : List W} (H : HeapOK w S φ s.h n) (hb : Fr φ s.h b ∧ n ≤ n') (hn : b < n')
    (e : fzO P b z o.op s = some (v, ws)) : OpOK P w S φ s n' (execOp ρ o) v ws := by
  unfold fzO at e
  split at e
  · rename_i v0 ws0 e0
    have ok := aopV_good hs H hb hn e0
    split at e
    · cases hf : (frzX v0).run (s.app ws0) with
      | none => rw [hf] at e; cases e
      | some p =>
        obtain ⟨y, us⟩ := p
        rw [hf] at e
        cases e
        refine ok.fz hf ?_
        rintro rfl
        rw [frzX_bot] at hf; cases hf
    · cases e; exact ok
  · cases e

end Go.Ab
