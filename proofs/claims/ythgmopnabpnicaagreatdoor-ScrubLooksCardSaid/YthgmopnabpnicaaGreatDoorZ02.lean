import Derived.Laws.StructEq
import Derived.Test.YthgmopnabpnicaaGreatDoorZ01
set_option linter.all false
namespace Go.Ab
open Go
variable [Glob]

variable {P : Program} {w : World} {S : Nat → Prop} {φ : Pm} {s : AS} {n n' : Nat}

theorem aun_good {op : UnOp} {x v : AV} {a : Value} {ws : List W} (H : HeapOK w S φ s.h n) (hn : n ≤ n')
    (e : (valO (aun op x)).run s = some (v, ws)) (rx : Rel w S φ x a) : Good P w S φ s n' (Op.unary op a) v ws := by
  obtain ⟨e, rfl⟩ := valO_some e
  unfold aun at e
  split at e
  · cases rx; cases e; exact .pure H hn rfl .int
  · cases rx; cases e; exact .pure H hn rfl .int
  · cases rx; cases e; exact .pure H hn rfl .bool
  · cases e

theorem tFld_ok {t : TypeId} {f off m : Nat} {g : Bool} (h : tFld P t f = some (off, m, g)) :
    ∃ fs fd, P.underlying t = some (.struct fs) ∧ fs[f]? = some fd ∧ fd.offset = off ∧ tSize P fd.type = some m ∧ tAgg P fd.type = some g := by
  unfold tFld at h
  split at h
  · rename_i fs hu
    split at h
    · rename_i fd hf
      split at h
      · rename_i m' g' h1 h2
        simp only [Option.some.injEq, Prod.mk.injEq] at h
        obtain ⟨rfl, rfl, rfl⟩ := h
        exact ⟨fs, fd, hu, hf, rfl, h1, h2⟩
      · cases h
    · cases h
  · cases h
theorem tArr_ok {t : TypeId} {l m : Nat} {g : Bool} (h : tArr P t = some (l, m, g)) :
    ∃ e, P.underlying t = some (.array l e) ∧ tSize P e = some m ∧ tAgg P e = some g := by
  unfold tArr at h
  split at h
  · rename_i l' e hu
    split at h
    · rename_i m' g' h1 h2
      simp only [Option.some.injEq, Prod.mk.injEq] at h
      obtain ⟨rfl, rfl, rfl⟩ := h
      exact ⟨e, hu, h1, h2⟩
    · cases h
  · cases h
theorem tSl_ok {t e : TypeId} {m : Nat} {g : Bool} (h : tSl P t = some (e, m, g)) : P.underlying t = some (.slice e) ∧ tSize P e = some m ∧ tAgg P e = some g := by
  unfold tSl at h
  split at h
  · rename_i e' hu
    split at h
    · rename_i m' g' h1 h2
      simp only [Option.some.injEq, Prod.mk.injEq] at h
      obtain ⟨rfl, rfl, rfl⟩ := h
      exact ⟨hu, h1, h2⟩
    · cases h
  · cases h
theorem tInt_ok {t : TypeId} {k : IntKind} (h : tInt P t = some k) : P.underlying t = some (.int k) := by
  unfold tInt at h
  split at h
  · cases h; assumption
  · cases h
theorem tStr_ok {t : TypeId} (h : tStr P t = true) : P.underlying t = some .string := by
  unfold tStr at h; split at h
  · assumption
  · cases h
theorem tBool_ok {t : TypeId} (h : tBool P t = true) : P.underlying t = some .bool := by
  unfold tBool at h; split at h
  · assumption
  · cases h

/-- a part of an aggregate -/
theorem part_rel {t : TypeId} {m off : Nat} {g : Bool} {cs : List AV} {vs : Array Value} (hm : tSize P t = some m) (hg : tAgg P t = some g)
    (hl : cs.length = vs.size) (hr : ∀ j (h : j < cs.length) (h' : j < vs.size), Rel w S φ cs[j] vs[j]) (hb : off + m ≤ cs.length) {v : AV} (hk : mkV g (cut cs off m) = some v) :
    ∃ x, (part t vs off).run P w = .ok x w ∧ Rel w S φ v x := by
  have hcl := cut_length hb
  have hsl := sub_length (cs := vs) (off := off) (m := m) (by omega)
  have hrel : ∀ j (h : j < (cut cs off m).length) (h' : j < ((vs.toList.drop off).take m).length), Rel w S φ (cut cs off m)[j] ((vs.toList.drop off).take m)[j] := fun j h h' => by
    rw [cut_get]; simpa using hr (off + j) (by omega) (by omega)
  cases g with
  | true =>
    refine ⟨.agg (vs.extract off (off + m)), ?_, ?_⟩
    · simp [part, run_isAgg hg, run_sizeOf hm, Result.andThen]
    · refine mk_rel (by omega) hrel hk (fun _ => ?_) (fun h => by cases h)
      congr 1
      apply Array.ext'
      simp [List.take_drop, Nat.add_comm]
  | false =>
    match hc : cut cs off m, hk with
    | [c], hk =>
      have e1 : m = 1 := by rw [hc] at hcl; simpa using hcl.symm
      subst e1
      refine ⟨vs[off]'(by omega), ?_, ?_⟩
      · simp [part, run_isAgg hg, Result.andThen, show off < vs.size by omega]
      · rw [hc] at hk
        simp only [mkV, Option.some.injEq] at hk
        subst hk
        have := hrel 0 (by omega) (by omega)
        simpa [hc] using this

theorem field_good {t : TypeId} {f off m : Nat} {g : Bool} {cs : List AV} {v : AV} {a : Value} {ws : List W} (H : HeapOK w S φ s.h n) (hn : n ≤ n') (hf : tFld P t f = some (off, m, g))
    (e : (guardA (off + m ≤ cs.length) (valO (mkV g (cut cs off m)))).run s = some (v, ws)) (rx : Rel w S φ (.agg cs) a) : Good P w S φ s n' (Instr.field t a f) v ws := by
  obtain ⟨hb, e'⟩ := guardA_some e
  obtain ⟨hk, rfl⟩ := valO_some e'
  obtain ⟨fs, fd, h1, h2, rfl, h4, h5⟩ := tFld_ok hf
  cases rx with
  | agg g1 g2 =>
    obtain ⟨x, e1, e2⟩ := part_rel h4 h5 g1 g2 hb hk
    refine .pure H hn ?_ e2
    simp only [Instr.field, Sem.run_bind, run_underlying h1, Result.andThen, h2, asAgg, Sem.run_pure]
    exact e1

theorem aindex_good {t : TypeId} {x i v : AV} {a b : Value} {ws : List W} (H : HeapOK w S φ s.h n) (hn : n ≤ n')
    (e : (aindex P t x i).run s = some (v, ws)) (rx : Rel w S φ x a) (ri : Rel w S φ i b) : Good P w S φ s n' (Instr.index t a b) v ws := by
  unfold aindex at e
  split at e
  case h_2 => cases e
  rename_i k i
  cases ri
  split at e
  · rename_i l
    obtain ⟨hb, e'⟩ := guardA_some e
    obtain ⟨rfl, rfl⟩ := val_some e'
    cases rx
    refine .pure H hn ?_ .int
    have hu := tStr_ok hb.1
    have hi : i.toNat < l.length := by omega
    simp only [Instr.index, asIntOf, Sem.run_bind, Sem.run_pure, Result.andThen, run_underlying hu]
    rw [if_pos hb.2.1]
    have : (⟨l.toArray⟩ : ByteArray)[i.toNat]? = some (l.getD i.toNat 0) := by
      rw [getElem?_pos _ _ (by simpa [ByteArray.size] using hi)]
      congr 1
      show (l.toArray)[i.toNat] = _
      simp [List.getD, hi]
    rw [this]
    rfl
  · rename_i cs
    split at e
    · rename_i l m g ha
      obtain ⟨⟨h0, h1, hb⟩, e'⟩ := guardA_some e
      obtain ⟨hk, rfl⟩ := valO_some e'
      obtain ⟨el, q1, q2, q3⟩ := tArr_ok ha
      cases rx with
      | agg g1 g2 =>
        obtain ⟨z, e1, e2⟩ := part_rel q2 q3 g1 g2 hb hk
        refine .pure H hn ?_ e2
        simp only [Instr.index, asIntOf, Sem.run_bind, Sem.run_pure, Result.andThen, run_underlying q1, Sem.run_ite]
        rw [if_pos ⟨h0, h1⟩]
        simp only [run_sizeOf q2]
        exact e1
    · cases e
  · cases e

theorem fieldAt_run {t : TypeId} {f off m : Nat} {g : Bool} (hf : tFld P t f = some (off, m, g)) (hm : 0 < m) (b o : Nat) :
    (Instr.fieldAt t (.pointer (some ⟨b, o, none⟩)) f).run P w = .ok (.pointer (some ⟨b, o + off, none⟩)) w := by
  obtain ⟨fs, fd, h1, h2, rfl, h4, h5⟩ := tFld_ok hf
  have hz : (m == 0) = false := by simp; omega
  simp only [Instr.fieldAt, Sem.run_bind, run_underlying h1, Result.andThen, h2, Instr.sureAddr, Sem.run_pure, fieldPlace, run_sizeOf h4, Sem.run_ite]
  rw [if_neg (by omega)]
  simp [add_off]

theorem cp_drop {cs : List AV} {a : Value} (k : Nat) (r : Rel w S φ (.cp cs) a) : ∃ b o, a = .pointer (some ⟨b, o, none⟩) ∧ Rel w S φ (.cp (cs.drop k)) (.pointer (some ⟨b, o + k, none⟩)) := by
  cases r with
  | cp V hs hc ho hr =>
    rename_i b o
    refine ⟨b, o, rfl, .cp (fun j => V (k + j)) hs (fun j hj => ?_) (fun j hj => ho _ (by simp only [List.length_drop] at hj; omega)) (fun j hj => ?_)⟩
    · simp only [List.length_drop] at hj
      rw [Nat.add_assoc]; exact hc _ (by omega)
    · simp only [List.length_drop] at hj
      simp only [List.getElem_drop]
      exact hr _ (by omega)

theorem fieldAddr_good {t : TypeId} {f off m : Nat} {g : Bool} {x v : AV} {a : Value} {ws : List W} (H : HeapOK w S φ s.h n) (hn : n ≤ n') (hf : tFld P t f = some (off, m, g))
    (e : (guardA (0 < m) (match x with
      | .ptr id o => val (.ptr id (o + off))
      | .rptr id g i j => val (.rptr id g i (j + off))
      | .cp cs => val (.cp (cs.drop off))
      | .gp a o => val (.gp a (o + off))
      | _ => .fail)).run s = some (v, ws)) (rx : Rel w S φ x a) : Good P w S φ s n' (Instr.fieldAt t a f) v ws := by
  obtain ⟨hm, e'⟩ := guardA_some e
  split at e'
  · obtain ⟨rfl, rfl⟩ := val_some e'
    cases rx with
    | ptr hp => exact .pure H hn (fieldAt_run hf hm _ _) (.ptr hp)
  · obtain ⟨rfl, rfl⟩ := val_some e'
    cases rx with
    | rptr hp =>
      refine .pure H hn (fieldAt_run hf hm _ _) ?_
      rw [Nat.add_assoc]; exact .rptr hp
  · obtain ⟨rfl, rfl⟩ := val_some e'
    obtain ⟨b, o, rfl, r⟩ := cp_drop off rx
    exact .pure H hn (fieldAt_run hf hm _ _) r
  · obtain ⟨rfl, rfl⟩ := val_some e'
    cases rx
    exact .pure H hn (fieldAt_run hf hm _ _) .gp
  · cases e'

theorem indexAt_arr {t : TypeId} {l m : Nat} {g : Bool} (ha : tArr P t = some (l, m, g)) {k : IntKind} {i : Int} (h0 : 0 ≤ i) (h1 : i < l) (b o : Nat) :
    (Instr.indexAt t (.pointer (some ⟨b, o, none⟩)) (.int k i)).run P w = .ok (.pointer (some ⟨b, o + i.toNat * m, none⟩)) w := by
  obtain ⟨el, q1, q2, q3⟩ := tArr_ok ha
  simp only [Instr.indexAt, asIntOf, Sem.run_bind, Sem.run_pure, Result.andThen, run_underlying q1, Instr.sureAddr, Sem.run_ite]
  rw [if_pos ⟨h0, h1⟩]
  simp [run_sizeOf q2, add_off]
theorem indexAt_sl {t e : TypeId} {m : Nat} {g : Bool} (ha : tSl P t = some (e, m, g)) {k : IntKind} {i : Int} {l c : Nat} (h0 : 0 ≤ i) (h1 : i < l) (b o : Nat) :
    (Instr.indexAt t (.slice (some ⟨b, o, none⟩) l c) (.int k i)).run P w = .ok (.pointer (some ⟨b, o + i.toNat * m, none⟩)) w := by
  obtain ⟨q1, q2, q3⟩ := tSl_ok ha
  simp only [Instr.indexAt, asIntOf, Sem.run_bind, Sem.run_pure, Result.andThen, run_underlying q1, Instr.sureAddr, Sem.run_ite]
  rw [if_pos ⟨h0, h1⟩]
  simp [run_sizeOf q2, add_off]

theorem sl_cp {sz i : Nat} {xs : List (List AV)} {a : Value} (r : Rel w S φ (.sl sz xs) a) (hi : i < xs.length) :
    ∃ b o c, a = .slice (some ⟨b, o, none⟩) xs.length c ∧ Rel w S φ (.cp (xs.getD i [])) (.pointer (some ⟨b, o + i * sz, none⟩)) := by
  cases r with
  | slnil => simp at hi
  | sl V hs hcap hsz hc ho hr =>
    rename_i b o c
    refine ⟨b, o, c, rfl, ?_⟩
    have e1 : xs.getD i [] = xs[i] := by simp [List.getD, hi]
    have e2 : (xs[i]).length = sz := hsz _ (List.getElem_mem hi)
    rw [e1]
    exact .cp (V i) hs (fun j hj => hc i j hi (by omega)) (fun j hj => ho i j hi (by omega)) (fun j hj => hr i j hi hj)

theorem aindexAddr_good {t : TypeId} {x i v : AV} {a b : Value} {ws : List W} (H : HeapOK w S φ s.h n) (hn : n ≤ n')
    (e : (aindexAddr P t x i).run s = some (v, ws)) (rx : Rel w S φ x a) (ri : Rel w S φ i b) : Good P w S φ s n' (Instr.indexAt t a b) v ws := by
  unfold aindexAddr at e
  split at e
  case h_2 => cases e
  rename_i k i
  cases ri
  split at e
  · split at e
    · rename_i ha
      obtain ⟨hb, e'⟩ := guardA_some e
      obtain ⟨rfl, rfl⟩ := val_some e'
      cases rx with
      | ptr hp => exact .pure H hn (indexAt_arr ha hb.1 hb.2 _ _) (.ptr hp)
    · cases e
  · split at e
    · rename_i ha
      obtain ⟨hb, e'⟩ := guardA_some e
      obtain ⟨rfl, rfl⟩ := val_some e'
      cases rx with
      | rptr hp =>
        refine .pure H hn (indexAt_arr ha hb.1 hb.2 _ _) ?_
        rw [Nat.add_assoc]; exact .rptr hp
    · cases e
  · split at e
    · rename_i ha
      obtain ⟨hb, e'⟩ := guardA_some e
      obtain ⟨rfl, rfl⟩ := val_some e'
      obtain ⟨b, o, rfl, r⟩ := cp_drop _ rx
      exact .pure H hn (indexAt_arr ha hb.1 hb.2 _ _) r
    · cases e
  · split at e
    · rename_i ha
      obtain ⟨hb, e'⟩ := guardA_some e
      obtain ⟨rfl, rfl⟩ := val_some e'
      cases rx
      exact .pure H hn (indexAt_arr ha hb.1 hb.2 _ _) .gp
    · cases e
  · split at e
    · rename_i ha
      obtain ⟨⟨rfl, hb⟩, e'⟩ := guardA_some e
      obtain ⟨rfl, rfl⟩ := val_some e'
      obtain ⟨b, o, c, rfl, r⟩ := sl_cp rx (i := i.toNat) (by omega)
      exact .pure H hn (indexAt_sl ha hb.1 hb.2 _ _) r
    · cases e
  · rename_i id g off len
    split at e
    · rename_i el m gg ha
      have fin : ∀ {id g off len : Nat} {sz : Nat} {xs : List (List AV)} {m : Nat} {el : TypeId} {gg : Bool} {v : AV}, tSl P t = some (el, m, gg) → Rel w S φ (.row id g off len) a →
          (∀ b sz' cap, φ id g = some (.at b sz' cap) → sz' = sz) → (φ id g = some .nil → xs = []) →
          (sz = m ∧ 0 ≤ i ∧ i < (len : Int) ∧ off + len ≤ xs.length) →
          (val (.rptr id g (off + i.toNat) 0)).run s = some (v, ws) → Good P w S φ s n' (Instr.indexAt t a (.int k i)) v ws := by
        rintro id g off len sz xs m el gg v ha rx hsz hnil ⟨rfl, h0, h1, h2⟩ e'
        obtain ⟨rfl, rfl⟩ := val_some e'
        cases rx with
        | rownil hp => simp at h1; omega
        | row hp hl ho =>
          have e1 := hsz _ _ _ hp
          subst e1
          refine .pure H hn (indexAt_sl ha h0 h1 _ _) ?_
          rcases ho with rfl | ⟨rfl, _⟩
          · rw [← Nat.add_mul]; exact .rptr hp
          · omega
      simp only [RM.run] at e
      split at e
      · rename_i sz g' xs hi
        obtain ⟨⟨h1, h2, h3⟩, e'⟩ := guardA_some e
        subst h2
        have ho := H.obj id
        rw [hi] at ho
        refine fin (xs := xs) ha rx (fun b sz' cap hp => ?_) (fun hp => ?_) ⟨h1, h3⟩ e'
        · rcases ho.2 with ⟨hq, _⟩ | ⟨b', cap', cs, hq, _⟩
          · rw [hp] at hq; cases hq
          · rw [hp] at hq; cases hq; rfl
        · rcases ho.2 with ⟨hq, hx⟩ | ⟨b', cap', cs, hq, _⟩
          · exact hx
          · rw [hp] at hq; cases hq
      · rename_i sz g' xs hi
        obtain ⟨⟨h1, h2, h3⟩, e'⟩ := guardA_some e
        subst h2
        have ho := H.obj id
        rw [hi] at ho
        refine fin (xs := xs) ha rx (fun b sz' cap hp => ?_) (fun hp => ?_) ⟨h1, h3⟩ e'
        · rcases ho with ⟨hq, _⟩ | ⟨b', cap', cs, hq, _⟩
          · rw [hp] at hq; cases hq
          · rw [hp] at hq; cases hq; rfl
        · rcases ho with ⟨hq, hx⟩ | ⟨b', cap', cs, hq, _⟩
          · exact hx
          · rw [hp] at hq; cases hq
      · cases e
    · cases e
  · split at e
    · rename_i ha
      obtain ⟨⟨rfl, hb⟩, e'⟩ := guardA_some e
      obtain ⟨rfl, rfl⟩ := val_some e'
      cases rx with
      | bsl hp =>
        refine .pure H hn (indexAt_sl ha hb.1 hb.2 _ _) ?_
        rw [Nat.mul_one]; exact .ptr hp
    · cases e
  · cases e

end Go.Ab
namespace Go.Ab
open Go
variable [Glob]

variable {P : Program} {w : World} {S : Nat → Prop} {φ : Pm} {s : AS} {n n' : Nat}

theorem bsize (l : List UInt8) : (⟨l.toArray⟩ : ByteArray).size = l.length := rfl

theorem HW_one (i : Nat) (o : AObj) : HW [.h i o] := fun z hz => by simp only [List.mem_singleton] at hz; exact ⟨i, o, hz⟩

theorem newVar_good {b : Nat} {cells : List AV} {cs : Array Value} (H : HeapOK w S φ s.h n) (hb : Fr φ s.h b ∧ n ≤ n') (hn : b < n') (ty : TypeId) (hr : BoxRel w S φ cells cs) {m : Sem Value}
    (hm : m.run P w = .ok (.pointer (some ⟨w.heap.size, 0, none⟩)) (w.alloc (.cells cs ty))) : Good P w S φ s n' m (.ptr b 0) [.h b (.box cells)] := by
  obtain ⟨φ', h1, h2, h3⟩ := H.newBox b hb hn cells cs ty hr
  exact ⟨HW_one _ _, _, _, S, φ', hm, h1, h2, .ptr h3⟩

theorem alloc_good {b : Nat} {e : TypeId} {z : List AV} (H : HeapOK w S φ s.h n) (hb : Fr φ s.h b ∧ n ≤ n') (hn : b < n') (hz : tZero P e = some z) :
    Good P w S φ s n' (Instr.alloc e true (.tuple #[])) (.ptr b 0) [.h b (.box z)] := by
  unfold tZero at hz
  cases hi : P.info? e with
  | none => rw [hi] at hz; cases hz
  | some i =>
    rw [hi] at hz
    simp only [Option.bind_some] at hz
    cases hv : i.zero with
    | none => rw [hv] at hz; cases hz
    | some v =>
      rw [hv] at hz
      simp only [Option.map_some, Option.some.injEq] at hz
      subst hz
      refine newVar_good (cs := v.cells) H hb hn e ⟨by simp, fun j h h' => ?_⟩ ?_
      · simp only [List.getElem_map, Array.getElem_toList]
        exact ofV1_rel _ _ _ _
      · simp [Instr.alloc, zeroValue, typeInfo, hi, hv, Result.andThen, newVar, newRow]

theorem cells_rel' {x : AV} {v : Value} (hx : x ≠ .bot) (r : Rel w S φ x v) : BoxRel w S φ x.cells v.cells := by
  cases r <;> first
    | exact absurd rfl hx
    | (rename_i g1 g2; exact ⟨g1, g2⟩)
    | exact ⟨rfl, fun j h h' => by
        have e : j = 0 := by simp [AV.cells] at h; omega
        subst e
        simp only [AV.cells, Value.cells, List.getElem_cons_zero]
        first
          | exact .bool | exact .int | exact .str | exact .nilp | exact .gp | exact .nils | exact .slnil | exact .nilf | exact .nili | exact .nilm
          | exact .ptr ‹_› | exact .rptr ‹_› | exact .cp _ ‹_› ‹_› ‹_› ‹_› | exact .sl _ ‹_› ‹_› ‹_› ‹_› ‹_› ‹_› | exact .rownil ‹_› | exact .row ‹_› ‹_› ‹_› | exact .bsl ‹_›
          | exact .fn ‹_› ‹_› ‹_› ‹_› | exact .iface ‹_› | exact .tup ‹_› ‹_› | exact .mp ‹_›⟩

theorem box_good {b : Nat} {e : TypeId} {x : AV} {v : Value} (H : HeapOK w S φ s.h n) (hb : Fr φ s.h b ∧ n ≤ n') (hn : b < n') (hx : x ≠ .bot) (r : Rel w S φ x v) :
    Good P w S φ s n' (Instr.box e v) (.ptr b 0) [.h b (.box x.cells)] := by
  refine newVar_good (cs := v.cells) H hb hn e (cells_rel' hx r) ?_
  simp [Instr.box, newVar, newRow, Result.andThen]

theorem aevs_rel {ρ : Operand → Value} (hs : Slots w S φ s.t ρ) : ∀ {xs : List Operand} {vs : List AV}, (aevs xs).run s = some vs →
    vs.length = xs.length ∧ ∀ j (h : j < vs.length) (h' : j < xs.length), Rel w S φ vs[j] (ρ xs[j])
  | [], vs, e => by
    simp only [aevs, run_ret, Option.some.injEq] at e
    subst e
    exact ⟨rfl, fun j h => by simp at h⟩
  | x :: xs, vs, e => by
    rw [aevs] at e
    obtain ⟨v, e1, e⟩ := bind_some e
    obtain ⟨us, e2, e⟩ := bind_some e
    simp only [run_ret, Option.some.injEq] at e
    subst e
    obtain ⟨h1, h2⟩ := aevs_rel hs e2
    refine ⟨by simp [h1], fun j h h' => ?_⟩
    cases j with
    | zero => exact aev_rel hs e1
    | succ j => exact h2 j (by simpa using h) (by simpa using h')

theorem makeFunc_good {ρ : Operand → Value} (hs : Slots w S φ s.t ρ) {f : Fn} {fi ca : Array Operand} {vs us : List AV} (H : HeapOK w S φ s.h n) (hn : n ≤ n')
    (e1 : (aevs fi.toList).run s = some vs) (e2 : (aevs ca.toList).run s = some us) :
    Good P w S φ s n' (Instr.makeFunc f (fi.map ρ) (ca.map ρ)) (.fn f vs us) [] := by
  obtain ⟨h1, h2⟩ := aevs_rel hs e1
  obtain ⟨h3, h4⟩ := aevs_rel hs e2
  refine .pure H hn rfl (.fn (by simpa using h1) (fun i h h' => ?_) (by simpa using h3) (fun i h h' => ?_))
  · rw [Array.getElem_map]; exact h2 i h (by simpa using h')
  · rw [Array.getElem_map]; exact h4 i h (by simpa using h')

theorem extract_good {vs : List AV} {i : Nat} {v : AV} {a : Value} (H : HeapOK w S φ s.h n) (hn : n ≤ n') (e : vs[i]? = some v) (r : Rel w S φ (.tup vs) a) :
    Good P w S φ s n' (Instr.extract a i) v [] := by
  cases r with
  | @tup _ _ us h1 h2 =>
    have hi : i < vs.length := by
      rcases Nat.lt_or_ge i vs.length with h | h
      · exact h
      · rw [List.getElem?_eq_none h] at e; cases e
    rw [List.getElem?_eq_getElem hi] at e
    cases e
    refine .pure (x := us[i]'(by omega)) H hn ?_ (h2 i hi (by omega))
    simp [Instr.extract, show i < us.size by omega]

/-- operands that may be missing -/
def OptRel (w : World) (S : Nat → Prop) (φ : Pm) (x : Option AV) (v : Option Value) : Prop := (x = none → v = none) ∧ (∀ a, x = some a → ∃ u, v = some u ∧ Rel w S φ a u)

theorem sliceBounds_run {lo hi : Option AV} {vlo vhi : Option Value} {isS : Bool} {len cap l h : Nat} (hlo : OptRel w S φ lo vlo) (hhi : OptRel w S φ hi vhi)
    (e1 : sliceLo lo = some l) (e2 : sliceHi len hi = some h) (h1 : l ≤ h) (h2 : h ≤ cap) : (Instr.sliceBounds isS len cap vlo vhi none).run P w = .ok (l, h, cap) w := by
  have L : (vlo = none ∧ l = 0) ∨ ∃ k i, vlo = some (.int k i) ∧ 0 ≤ i ∧ l = i.toNat := by
    cases lo with
    | none => simp only [sliceLo, Option.some.injEq] at e1; exact .inl ⟨hlo.1 rfl, e1.symm⟩
    | some a =>
      obtain ⟨u, rfl, r⟩ := hlo.2 a rfl
      cases r <;> simp only [sliceLo] at e1 <;> try cases e1
      split at e1
      · cases e1; exact .inr ⟨_, _, rfl, ‹_›, rfl⟩
      · cases e1
  have R : (vhi = none ∧ h = len) ∨ ∃ k i, vhi = some (.int k i) ∧ 0 ≤ i ∧ h = i.toNat := by
    cases hi with
    | none => simp only [sliceHi, Option.some.injEq] at e2; exact .inl ⟨hhi.1 rfl, e2.symm⟩
    | some a =>
      obtain ⟨u, rfl, r⟩ := hhi.2 a rfl
      cases r <;> simp only [sliceHi] at e2 <;> try cases e2
      split at e2
      · cases e2; exact .inr ⟨_, _, rfl, ‹_›, rfl⟩
      · cases e2
  have B : ∀ (k : IntKind) (i : Int) (y : Nat) (c : BoundsCode), 0 ≤ i → i.toNat ≤ y → (Instr.sliceBound (.int k i) y c).run P w = .ok i.toNat w := fun k i y c h0 h1 => by
    simp only [Instr.sliceBound, asIntOf, Sem.run_bind, Sem.run_pure, Result.andThen, Sem.run_ite]
    rw [if_pos ⟨h0, by omega⟩]
  rcases L with ⟨rfl, rfl⟩ | ⟨k, i, rfl, i0, rfl⟩ <;> rcases R with ⟨rfl, rfl⟩ | ⟨k', i', rfl, i0', rfl⟩
  · simp [Instr.sliceBounds]
  · simp [Instr.sliceBounds, Result.andThen, B k' i' cap _ i0' h2]
  · simp [Instr.sliceBounds, Result.andThen, B k i _ _ i0 h1]
  · simp [Instr.sliceBounds, Result.andThen, B k' i' cap _ i0' h2, B k i _ _ i0 h1]

theorem aslice_good {t : TypeId} {x v : AV} {lo hi : Option AV} {a : Value} {vlo vhi : Option Value} {ws : List W} (H : HeapOK w S φ s.h n) (hn : n ≤ n')
    (e : (aslice P t x lo hi).run s = some (v, ws)) (rx : Rel w S φ x a) (hlo : OptRel w S φ lo vlo) (hhi : OptRel w S φ hi vhi) :
    Good P w S φ s n' (Instr.sliceAt t a vlo vhi none) v ws := by
  unfold aslice at e
  split at e
  · cases e
  rename_i l hl
  split at e
  · rename_i str
    split at e
    · rename_i h hh
      obtain ⟨⟨ht, h1, h2⟩, e'⟩ := guardA_some e
      obtain ⟨rfl, rfl⟩ := val_some e'
      have hu := tStr_ok ht
      cases rx
      refine .pure (x := .string ((⟨str.toArray⟩ : ByteArray).extract l h)) H hn ?_ ?_
      · have hb := sliceBounds_run (P := P) (isS := false) (cap := str.length) hlo hhi hl (show sliceHi str.length hi = some h from hh) h1 h2
        simp only [Instr.sliceAt, Instr.slice, Sem.run_bind, run_underlying hu, Result.andThen, Option.isSome_none, Bool.false_eq_true, if_false, ByteArray.size, List.size_toArray]
        simp [hb]
      · have e3 : (⟨str.toArray⟩ : ByteArray).extract l h = ⟨((str.take h).drop l).toArray⟩ := by
          apply ByteArray.ext
          rw [ByteArray.data_extract]
          simp [List.drop_take]
        rw [e3]; exact .str
    · cases e
  · rename_i sz xs
    split at e
    · rename_i el m gg ha
      split at e
      · rename_i h hh
        obtain ⟨⟨rfl, h1, h2⟩, e'⟩ := guardA_some e
        obtain ⟨rfl, rfl⟩ := val_some e'
        obtain ⟨hu, hm, _⟩ := tSl_ok ha
        cases rx with
        | slnil =>
          simp only [List.length_nil, Nat.le_zero_eq] at h2
          subst h2
          have hl0 : l = 0 := by omega
          subst hl0
          have hb := sliceBounds_run (P := P) (isS := true) (cap := 0) (len := 0) hlo hhi hl (show sliceHi 0 hi = some 0 from hh) h1 (Nat.le_refl _)
          refine .pure (x := .slice none 0 0) H hn ?_ (by simpa using .slnil)
          simp only [Instr.sliceAt, Instr.slice, Sem.run_bind, run_underlying hu, Result.andThen]
          simp [hb, run_sizeOf hm]
        | sl V hs hcap hsz hc ho hr =>
          rename_i b off cap
          have hb := sliceBounds_run (P := P) (isS := true) (cap := cap) (len := xs.length) hlo hhi hl (show sliceHi xs.length hi = some h from hh) h1 (by omega)
          have hlen : ((xs.take h).drop l).length = h - l := by simp only [List.length_drop, List.length_take]; omega
          refine .pure (x := .slice (some (if cap = l then ⟨b, off, none⟩ else ⟨b, off + l * sz, none⟩)) (h - l) (cap - l)) H hn ?_ ?_
          · simp only [Instr.sliceAt, Instr.slice, Sem.run_bind, run_underlying hu, Result.andThen]
            simp only [hb, run_sizeOf hm, Sem.run_pure]
            split <;> simp [add_off]
          · rw [← hlen]
            have q : Rel w S φ (.sl sz ((xs.take h).drop l)) (.slice (some ⟨b, if cap = l then off else off + l * sz, none⟩) ((xs.take h).drop l).length (cap - l)) := by
              refine .sl (fun i j => V (l + i) j) hs (by omega) (fun y hy => hsz y (List.mem_of_mem_take (List.mem_of_mem_drop hy))) (fun i j hi hj => ?_) (fun i j hi hj => ho _ j (by omega) hj) (fun i j hi hj => ?_)
              · rw [hlen] at hi
                rw [if_neg (by omega)]
                have := hc (l + i) j (by omega) hj
                rw [← this]
                congr 2
                rw [Nat.add_mul]; omega
              · have e1 : ((xs.take h).drop l)[i] = xs[l + i]'(by omega) := by simp
                have := hr (l + i) j (by omega) (by rw [← e1]; exact hj)
                simpa [e1] using this
            by_cases hq : cap = l
            · rw [if_pos hq] at q ⊢; exact q
            · rw [if_neg hq] at q ⊢; exact q
      · cases e
    · cases e
  · rename_i id g off len
    split at e
    · rename_i el m gg ha
      obtain ⟨hu, hm, _⟩ := tSl_ok ha
      split at e
      · rename_i h hh
        have fin : ∀ {sz : Nat} {xs : List (List AV)}, (∀ b sz' cap, φ id g = some (.at b sz' cap) → sz' = sz) →
            (sz = m ∧ l ≤ h ∧ h ≤ len ∧ off + len ≤ xs.length) → (val (.row id g (off + l) (h - l))).run s = some (v, ws) →
            Good P w S φ s n' (Instr.sliceAt t a vlo vhi none) v ws := by
          rintro sz xs hsz ⟨rfl, h1, h2, h3⟩ e'
          obtain ⟨rfl, rfl⟩ := val_some e'
          cases rx with
          | rownil hp =>
            have h0 : h = 0 := by omega
            subst h0
            have hl0 : l = 0 := by omega
            subst hl0
            have hb := sliceBounds_run (P := P) (isS := true) (cap := 0) (len := 0) hlo hhi hl (show sliceHi 0 hi = some 0 from hh) h1 (Nat.le_refl _)
            refine .pure (x := .slice none 0 0) H hn ?_ (.rownil hp)
            simp only [Instr.sliceAt, Instr.slice, Sem.run_bind, run_underlying hu, Result.andThen]
            simp [hb, run_sizeOf hm]
          | row hp hl' ho =>
            rename_i b sz' cap o
            have e1 := hsz _ _ _ hp
            subst e1
            have hb := sliceBounds_run (P := P) (isS := true) (cap := cap - off) (len := len) hlo hhi hl (show sliceHi len hi = some h from hh) h1 (by omega)
            refine .pure (x := .slice (some (if cap - off = l then ⟨b, o, none⟩ else ⟨b, o + l * sz', none⟩)) (h - l) (cap - off - l)) H hn ?_ ?_
            · simp only [Instr.sliceAt, Instr.slice, Sem.run_bind, run_underlying hu, Result.andThen]
              simp only [hb, run_sizeOf hm, Sem.run_pure]
              split <;> simp [add_off]
            · have e3 : cap - off - l = cap - (off + l) := by omega
              rw [e3]
              split
              · rcases ho with rfl | ⟨h5, h6⟩
                · rename_i hcl
                  by_cases h0 : off + l = 0
                  · have : off = 0 := by omega
                    have : l = 0 := by omega
                    subst off; subst l
                    exact .row hp (by omega) (.inl (by simp))
                  · exact .row hp (by omega) (.inr ⟨by omega, by omega⟩)
                · exact .row hp (by omega) (.inr ⟨by omega, by omega⟩)
              · rcases ho with rfl | ⟨rfl, _⟩
                · refine .row hp (by omega) (.inl ?_)
                  rw [Nat.add_mul]
                · omega
        simp only [RM.run] at e
        have ho := H.obj id
        split at e
        · rename_i sz g' xs hi
          obtain ⟨⟨h1, h2, h3⟩, e'⟩ := guardA_some e
          subst h2
          rw [hi] at ho
          refine fin (xs := xs) (fun b sz' cap hp => ?_) ⟨h1, h3⟩ e'
          rcases ho.2 with ⟨hq, _⟩ | ⟨b', cap', cs, hq, _⟩
          · rw [hp] at hq; cases hq
          · rw [hp] at hq; cases hq; rfl
        · rename_i sz g' xs hi
          obtain ⟨⟨h1, h2, h3⟩, e'⟩ := guardA_some e
          subst h2
          rw [hi] at ho
          refine fin (xs := xs) (fun b sz' cap hp => ?_) ⟨h1, h3⟩ e'
          rcases ho with ⟨hq, _⟩ | ⟨b', cap', cs, hq, _⟩
          · rw [hp] at hq; cases hq
          · rw [hp] at hq; cases hq; rfl
        · cases e
      · cases e
    · cases e
  · rename_i id off
    split at e
    · rename_i len m gg ha
      split at e
      · rename_i h hh
        obtain ⟨⟨rfl, h1, h2, h3⟩, e'⟩ := guardA_some e
        obtain ⟨rfl, rfl⟩ := val_some e'
        obtain ⟨el, hu, hm, _⟩ := tArr_ok ha
        cases rx with
        | ptr hp =>
          have hb := sliceBounds_run (P := P) (isS := false) (cap := len) (len := len) hlo hhi hl (show sliceHi len hi = some h from hh) h1 h2
          refine .pure H hn ?_ (.bsl hp)
          simp only [Instr.sliceAt, Sem.run_bind, run_underlying hu, Result.andThen, Instr.sureAddr, Sem.run_pure]
          simp only [hb, run_sizeOf hm]
          rw [if_neg (by omega), add_off, Nat.mul_one]
      · cases e
    · cases e
  · cases e

theorem alen_good {t : TypeId} {x : AV} {a : Value} {m : Nat} {ts : List TypeId} {ty : TypeId} (H : HeapOK w S φ s.h n) (hn : n ≤ n')
    (e : alen P t x = some m) (rx : Rel w S φ x a) : Good P w S φ s n' (Builtin.len_ (t :: ts).toArray ty #[a]) (.int .i64 (m : Int)) [] := by
  have hsl : (tSl P t).isSome → ∃ e, P.underlying t = some (.slice e) := fun h => by
    obtain ⟨⟨e, m, g⟩, h⟩ := Option.isSome_iff_exists.1 h
    exact ⟨e, (tSl_ok h).1⟩
  have fin : ∀ {d : TypeDesc}, P.underlying t = some d → (∃ e, d = .slice e) → ∀ {p : Option Addr} {c : Nat}, a = .slice p m c → Good P w S φ s n' (Builtin.len_ (t :: ts).toArray ty #[a]) (.int .i64 (m : Int)) [] := by
    rintro d hu ⟨e, rfl⟩ p c rfl
    refine .pure H hn ?_ .int
    simp [Builtin.len_, run_underlying hu, Result.andThen, goInt]
  unfold alen at e
  split at e
  · split at e
    · rename_i ht
      cases e
      cases rx
      refine .pure H hn ?_ .int
      simp [Builtin.len_, run_underlying (tStr_ok ht), Result.andThen, goInt, bsize]
    · cases e
  · split at e
    · rename_i ht
      cases e; cases rx
      obtain ⟨e, hu⟩ := hsl ht
      exact fin hu ⟨_, rfl⟩ rfl
    · cases e
  · split at e
    · rename_i ht
      cases e
      obtain ⟨e, hu⟩ := hsl ht
      cases rx <;> exact fin hu ⟨_, rfl⟩ rfl
    · cases e
  · split at e
    · rename_i ht
      cases e
      obtain ⟨e, hu⟩ := hsl ht
      cases rx <;> exact fin hu ⟨_, rfl⟩ rfl
    · cases e
  · split at e
    · rename_i ht
      cases e
      obtain ⟨e, hu⟩ := hsl ht
      cases rx; exact fin hu ⟨_, rfl⟩ rfl
    · cases e
  · cases ha : tArr P t with
    | none => rw [ha] at e; cases e
    | some q =>
      obtain ⟨l, m', g⟩ := q
      rw [ha] at e
      simp only [Option.map_some, Option.some.injEq] at e
      subst e
      obtain ⟨el, hu, _, _⟩ := tArr_ok ha
      refine .pure H hn ?_ .int
      simp [Builtin.len_, run_underlying hu, Result.andThen, goInt]
  · cases e

end Go.Ab
namespace Go.Ab
open Go
variable [Glob]

variable {P : Program} {w : World} {S : Nat → Prop} {φ : Pm} {s : AS} {n n' : Nat}

/-- a slice's content, as cells in a list -/
structure Cont (w : World) (S : Nat → Prop) (m : Nat) (ys : List (List AV)) (vs : List Value) : Prop where
  sz : ∀ l, l ∈ ys → l.length = m
  len : vs.length = ys.length * m
  one : ∀ v, v ∈ vs → v.oneCell' = true
  rel : ∀ i j (hi : i < ys.length) (hj : j < (ys[i]'hi).length), ∃ v, vs[i * m + j]? = some v ∧ Rel w S pm0 ((ys[i]'hi)[j]'hj) v

theorem Cont.row {m : Nat} {ys : List (List AV)} {vs : List Value} (h : Cont w S m ys vs) (rest : List Value) : RowRel w S m ys (vs ++ rest).toArray := by
  refine ⟨h.sz, fun i j hi hj => ?_⟩
  obtain ⟨v, h1, h2⟩ := h.rel i j hi hj
  have hlt : i * m + j < vs.length := by
    rcases Nat.lt_or_ge (i * m + j) vs.length with h' | h'
    · exact h'
    · rw [List.getElem?_eq_none h'] at h1; cases h1
  exact ⟨v, by simpa [List.getElem?_append_left hlt] using h1, h.one v (List.mem_of_getElem? h1), h2⟩

theorem Cont.mono {w' : World} {S' : Nat → Prop} {m : Nat} {ys : List (List AV)} {vs : List Value} (h : Cont w S m ys vs)
    (hw : ∀ b, S b → w'.heap[b]? = w.heap[b]?) (hS : ∀ b, S b → S' b) : Cont w' S' m ys vs :=
  ⟨h.sz, h.len, h.one, fun i j hi hj => let ⟨v, h1, h2⟩ := h.rel i j hi hj; ⟨v, h1, h2.mono hw hS (Pm.le_refl _)⟩⟩

theorem idx_lt {i j m k : Nat} (hi : i < k) (hj : j < m) : i * m + j < k * m := by
  calc i * m + j < i * m + m := by omega
    _ = (i + 1) * m := by rw [Nat.add_mul, Nat.one_mul]
    _ ≤ k * m := Nat.mul_le_mul_right _ hi

theorem content_good {m : Nat} {x : AV} {a : Value} {ys : List (List AV)} (H : HeapOK w S φ s.h n) (e : (content m x).run s = some ys) (rx : Rel w S φ x a) :
    ∃ p c vs, a = .slice p ys.length c ∧ Cont w S m ys vs ∧ (∀ pa, p = some pa → ∃ b off, pa = ⟨b, off, none⟩ ∧ CellsAt w b off vs) ∧ (p = none → ys = []) := by
  unfold content at e
  have nilc : Cont w S m [] [] := ⟨by simp, by simp, by simp, fun i j hi => by simp at hi⟩
  split at e
  · simp only [run_ret, Option.some.injEq] at e
    subst e
    cases rx
    exact ⟨none, 0, [], rfl, nilc, (fun _ h => by cases h), fun _ => rfl⟩
  · rename_i sz xs
    obtain ⟨rfl, e'⟩ := guardA_some e
    simp only [run_ret, Option.some.injEq] at e'
    subst e'
    cases rx with
    | slnil => exact ⟨none, 0, [], rfl, nilc, (fun _ h => by cases h), fun _ => rfl⟩
    | sl V hs hcap hsz hc ho hr =>
      rename_i b off cap
      have key : ∀ k, k < xs.length * sz → k / sz < xs.length ∧ k % sz < sz := fun k hk => by
        have hz : 0 < sz := by
          rcases Nat.eq_zero_or_pos sz with h | h
          · subst h; simp at hk
          · exact h
        exact ⟨(Nat.div_lt_iff_lt_mul hz).2 hk, Nat.mod_lt _ hz⟩
      refine ⟨some ⟨b, off, none⟩, cap, (List.range (xs.length * sz)).map (fun k => V (k / sz) (k % sz)), rfl, ⟨hsz, by simp, fun v hv => ?_, fun i j hi hj => ?_⟩, fun pa hpa => ?_, (fun h => by cases h)⟩
      · simp only [List.mem_map, List.mem_range] at hv
        obtain ⟨k, hk, rfl⟩ := hv
        exact ho _ _ (key k hk).1 (key k hk).2
      · have hj' : j < sz := by rw [← hsz _ (List.getElem_mem hi)]; exact hj
        refine ⟨V i j, ?_, hr i j hi hj⟩
        rw [List.getElem?_map, List.getElem?_range (idx_lt hi hj')]
        simp only [Option.map_some]
        rw [Nat.add_comm, Nat.add_mul_div_right _ _ (by omega), Nat.div_eq_of_lt hj', Nat.zero_add, Nat.add_mul_mod_self_right, Nat.mod_eq_of_lt hj']
      · cases hpa
        refine ⟨b, off, rfl, fun k v hk => ?_⟩
        have hk' : k < xs.length * sz := by
          rcases Nat.lt_or_ge k (xs.length * sz) with h | h
          · exact h
          · rw [List.getElem?_eq_none (by simpa using h)] at hk; cases hk
        rw [List.getElem?_map, List.getElem?_range hk'] at hk
        simp only [Option.map_some, Option.some.injEq] at hk
        subst hk
        have := hc _ _ (key k hk').1 (key k hk').2
        rw [← this, Nat.add_assoc]
        congr 3
        rw [Nat.mul_comm]; exact (Nat.div_add_mod k sz).symm
  · rename_i id g off len
    have fin : ∀ {sz : Nat} {xs : List (List AV)}, ((φ id g = some .nil ∧ xs = []) ∨ ∃ b cap cs, φ id g = some (.at b sz cap) ∧ RowAt w b cs ∧ cs.size = cap * sz ∧ xs.length ≤ cap ∧ RowRel w S sz xs cs) →
        sz = m ∧ off + len ≤ xs.length → (RM.ret ((xs.drop off).take len) : RM (List (List AV))).run s = some ys →
        ∃ p c vs, a = .slice p ys.length c ∧ Cont w S m ys vs ∧ (∀ pa, p = some pa → ∃ b off, pa = ⟨b, off, none⟩ ∧ CellsAt w b off vs) ∧ (p = none → ys = []) := by
      rintro sz xs ho ⟨rfl, hl⟩ e'
      simp only [run_ret, Option.some.injEq] at e'
      subst e'
      cases rx with
      | rownil hp =>
        have e0 : (xs.drop 0).take 0 = [] := by simp
        rw [e0]
        exact ⟨none, 0, [], rfl, nilc, (fun _ h => by cases h), fun _ => rfl⟩
      | row hp hl' hoff =>
        rename_i b sz' cap o
        rcases ho with ⟨hq, _⟩ | ⟨b', cap', cs, hq, hr, hs, hc, hrel⟩
        · rw [hp] at hq; cases hq
        · rw [hp] at hq; cases hq
          have hlen : ((xs.drop off).take len).length = len := by simp only [List.length_take, List.length_drop]; omega
          have hbnd : off * sz + len * sz ≤ cs.size := by
            rw [hs, ← Nat.add_mul]; exact Nat.mul_le_mul_right _ (by omega)
          refine ⟨some ⟨b, o, none⟩, cap - off, (cs.toList.drop (off * sz)).take (len * sz), by rw [hlen], ⟨fun l hl => hrel.1 l (List.mem_of_mem_drop (List.mem_of_mem_take hl)), ?_, fun v hv => ?_, fun i j hi hj => ?_⟩, fun pa hpa => ?_, (fun h => by cases h)⟩
          · rw [hlen]; exact sub_length hbnd
          · obtain ⟨k, hk, rfl⟩ := List.getElem_of_mem hv
            rw [sub_length hbnd] at hk
            have hz : 0 < sz := by
              rcases Nat.eq_zero_or_pos sz with h | h
              · subst h; simp at hk
              · exact h
            have h1 : k / sz < len := (Nat.div_lt_iff_lt_mul hz).2 hk
            have h2 : k % sz < sz := Nat.mod_lt _ hz
            obtain ⟨u, h7, h8, _⟩ := hrel.2 (off + k / sz) (k % sz) (by omega) (by rw [hrel.1 _ (List.getElem_mem _)]; exact h2)
            have e2 : (off + k / sz) * sz + k % sz = off * sz + k := by
              rw [Nat.add_mul, Nat.add_assoc]
              congr 1
              rw [Nat.mul_comm]; exact Nat.div_add_mod k sz
            rw [e2] at h7
            have : ((cs.toList.drop (off * sz)).take (len * sz))[k]'(by rw [sub_length hbnd]; exact hk) = u := by
              rw [List.getElem_take, List.getElem_drop]
              rw [Array.getElem?_eq_getElem (by omega)] at h7
              simpa using h7
            rw [this]; exact h8
          · rw [hlen] at hi
            have e1 : ((xs.drop off).take len)[i] = xs[off + i]'(by omega) := by simp
            have hj2 : j < (xs[off + i]'(by omega)).length := by rw [← e1]; exact hj
            have hj3 : j < sz := by rw [← hrel.1 _ (List.getElem_mem (show off + i < xs.length by omega))]; exact hj2
            obtain ⟨u, h7, _, h8⟩ := hrel.2 (off + i) j (by omega) hj2
            refine ⟨u, ?_, by simpa [e1] using h8⟩
            rw [List.getElem?_take, if_pos (idx_lt hi hj3), List.getElem?_drop]
            have e2 : (off + i) * sz + j = off * sz + (i * sz + j) := by rw [Nat.add_mul, Nat.add_assoc]
            rw [e2] at h7
            simpa using h7
          · cases hpa
            rcases hoff with rfl | ⟨rfl, _⟩
            · exact ⟨b, off * sz, rfl, cellsAt_row hr hbnd⟩
            · have : len = 0 := by omega
              subst this
              refine ⟨b, o, rfl, fun k v hk => ?_⟩
              simp at hk
    simp only [RM.run] at e
    have ho := H.obj id
    split at e
    · rename_i sz g' xs hi
      obtain ⟨⟨h1, h2, h3⟩, e'⟩ := guardA_some e
      subst h2
      rw [hi] at ho
      exact fin ho.2 ⟨h1, h3⟩ e'
    · rename_i sz g' xs hi
      obtain ⟨⟨h1, h2, h3⟩, e'⟩ := guardA_some e
      subst h2
      rw [hi] at ho
      refine fin ?_ ⟨h1, h3⟩ e'
      rcases ho with ho | ⟨b, cap, cs, q1, q2, q3, q4, q5, _⟩
      · exact .inl ho
      · exact .inr ⟨b, cap, cs, q1, q2, q3, q4, q5⟩
    · cases e
  · rename_i id off len cap
    have fin : ∀ {cs : List AV}, (∃ b vs, φ id 0 = some (.at b 1 cs.length) ∧ RowAt w b vs ∧ BoxRel w S φ cs vs) → m = 1 ∧ off + len ≤ cs.length ∧ (cut cs off len).all AV.flat = true →
        (RM.ret ((cut cs off len).map fun c => [c]) : RM (List (List AV))).run s = some ys →
        ∃ p c vs, a = .slice p ys.length c ∧ Cont w S m ys vs ∧ (∀ pa, p = some pa → ∃ b off, pa = ⟨b, off, none⟩ ∧ CellsAt w b off vs) ∧ (p = none → ys = []) := by
      rintro cs ⟨b, vs, h1, h2, h3, h4⟩ ⟨rfl, hl, hf⟩ e'
      simp only [run_ret, Option.some.injEq] at e'
      subst e'
      cases rx with
      | bsl hp =>
        rw [hp] at h1; cases h1
        have hbnd : off + len ≤ vs.size := by omega
        refine ⟨some ⟨b, off, none⟩, cap, (vs.toList.drop off).take len, by simp [cut_length hl], ⟨?_, ?_, fun v hv => ?_, fun i j hi hj => ?_⟩, fun pa hpa => ?_, (fun h => by cases h)⟩
        · intro l hl'
          simp only [List.mem_map] at hl'
          obtain ⟨c, _, rfl⟩ := hl'
          rfl
        · rw [sub_length hbnd]; simp [cut_length hl]
        · obtain ⟨k, hk, rfl⟩ := List.getElem_of_mem hv
          rw [sub_length hbnd] at hk
          have hk2 : k < (cut cs off len).length := by rw [cut_length hl]; exact hk
          have hf' := List.all_eq_true.1 hf _ (List.getElem_mem hk2)
          rw [cut_get hk2] at hf'
          have := flat_one hf' (h4 (off + k) (by omega) (by omega))
          simpa using this
        · simp only [List.length_map, cut_length hl] at hi
          have hk2 : i < (cut cs off len).length := by rw [cut_length hl]; exact hi
          have hf' := List.all_eq_true.1 hf _ (List.getElem_mem hk2)
          rw [cut_get hk2] at hf'
          have hj0 : j = 0 := by simpa using hj
          subst hj0
          refine ⟨vs[off + i]'(by omega), ?_, ?_⟩
          · rw [Nat.mul_one, Nat.add_zero, List.getElem?_take, if_pos hi, List.getElem?_drop]
            simp [show off + i < vs.size by omega]
          · have := flat_rel hf' (h4 (off + i) (by omega) (by omega))
            simpa [cut_get hk2] using this
        · cases hpa
          exact ⟨b, off, rfl, cellsAt_row h2 hbnd⟩
    simp only [RM.run] at e
    have ho := H.obj id
    split at e
    · rename_i cs hi
      obtain ⟨h1, e'⟩ := guardA_some e
      rw [hi] at ho
      exact fin ho h1 e'
    · rename_i cs hi
      obtain ⟨h1, e'⟩ := guardA_some e
      rw [hi] at ho
      obtain ⟨b, vs, q1, q2, q3, _⟩ := ho
      exact fin ⟨b, vs, q1, q2, q3.mono (fun _ _ => rfl) (fun _ h => h) (pm0_le _)⟩ h1 e'
    · cases e
  · cases e

end Go.Ab
namespace Go.Ab
open Go
variable [Glob]

variable {P : Program} {w : World} {S : Nat → Prop} {φ : Pm} {s : AS} {n n' : Nat}

/-- what is appended or copied: a slice's cells, or a string's bytes -/
structure Adds (w : World) (P : Program) (m : Nat) (ys : List (List AV)) (a : Value) (vs : List Value) : Prop where
  len : (Builtin.lenOf a).run P w = .ok ys.length w
  first : ∀ k, k ≤ ys.length → (Builtin.firstCells m k a).run P w = .ok (vs.take (k * m)).toArray w

theorem addend_good {m : Nat} {x : AV} {a : Value} {ys : List (List AV)} (H : HeapOK w S φ s.h n) (e : (addend m x).run s = some ys) (rx : Rel w S φ x a) :
    ∃ vs, Cont w S m ys vs ∧ Adds w P m ys a vs := by
  unfold addend at e
  split at e
  · rename_i l
    obtain ⟨rfl, e'⟩ := guardA_some e
    simp only [run_ret, Option.some.injEq] at e'
    subst e'
    cases rx
    refine ⟨l.map fun b => .int .u8 (b.toNat : Nat), ⟨?_, by simp [encB], fun v hv => ?_, fun i j hi hj => ?_⟩, ⟨?_, fun k hk => ?_⟩⟩
    · intro y hy
      simp only [encB, List.mem_map] at hy
      obtain ⟨b, _, rfl⟩ := hy
      rfl
    · simp only [List.mem_map] at hv
      obtain ⟨b, _, rfl⟩ := hv
      rfl
    · simp only [encB, List.length_map] at hi
      simp only [encB, List.getElem_map, List.length_singleton] at hj
      have hj0 : j = 0 := by omega
      subst hj0
      exact ⟨.int .u8 (l[i].toNat : Nat), by simp [hi], by simp only [encB, List.getElem_map, List.getElem_singleton]; exact .int⟩
    · simp [Builtin.lenOf, encB, bsize]
    · simp only [encB, List.length_map] at hk
      simp only [Builtin.firstCells, Sem.run_pure, Nat.mul_one, ByteArray.data_extract]
      congr 1
      apply Array.ext'
      simp [List.map_take]
  · obtain ⟨p, c, vs, rfl, h1, h2, h3⟩ := content_good H e rx
    refine ⟨vs, h1, ⟨by simp [Builtin.lenOf], fun k hk => ?_⟩⟩
    cases p with
    | none =>
      have := h3 rfl
      subst this
      simp only [List.length_nil, Nat.le_zero_eq] at hk
      subst hk
      have hv : vs = [] := by
        have := h1.len
        simpa using this
      subst hv
      simp [Builtin.firstCells]
    | some pa =>
      obtain ⟨b, off, rfl, hc⟩ := h2 _ rfl
      simp only [Builtin.firstCells]
      have hl : (vs.take (k * m)).length = k * m := by
        rw [List.length_take, h1.len]
        exact Nat.min_eq_left (Nat.mul_le_mul_right _ hk)
      have := run_loadCells_at (P := P) (vs := vs.take (k * m)) (w := w) (b := b) (off := off) (fun j v hj => hc j v (by
        rw [List.getElem?_take] at hj
        split at hj
        · exact hj
        · cases hj))
      rw [hl] at this
      exact this

theorem tBytes_ok {t : TypeId} {b : Nat} (h : tBytes P t = some b) : ∃ i, P.info? t = some i ∧ i.bytes = b := by
  unfold tBytes at h
  cases hi : P.info? t with
  | none => rw [hi] at h; cases h
  | some i => rw [hi] at h; simp at h; exact ⟨i, rfl, h⟩

theorem nextcap_le (need cap : Nat) (h : cap < need) : Builtin.nextslicecap need cap ≤ 2 * need + 512 := by
  unfold Builtin.nextslicecap
  split
  · omega
  · split
    · omega
    · simp only [Builtin.growBy]
      (repeat' split) <;> omega

theorem zeroOf {t : TypeId} {m : Nat} (h : tSize P t = some m) : ∀ i, P.info? t = some i → i.size = m := fun i hi => by
  unfold tSize at h; rw [hi] at h; simpa using h

theorem tInt_none {tx : TypeId} {dx : TypeDesc} (hx : tInt P tx = none) (hux : P.underlying tx = some dx) : (match dx with | .int _ => true | _ => false) = false := by
  unfold tInt at hx; rw [hux] at hx
  cases dx <;> first | rfl | (cases hx)

theorem tZero_ok {e : TypeId} {i : TypeInfo} {z : List AV} (hi : P.info? e = some i) (hz : tZero P e = some z) : ∃ zv, i.zero = some zv ∧ z.length = zv.cells.size ∧
    ∀ j (h : j < z.length) (h' : j < zv.cells.size), z[j] = ofV1 (zv.cells[j]) := by
  unfold tZero at hz
  rw [hi] at hz
  simp only [Option.bind_some] at hz
  cases hzv : i.zero with
  | none => rw [hzv] at hz; cases hz
  | some zv =>
    rw [hzv] at hz
    simp only [Option.map_some, Option.some.injEq] at hz
    subst hz
    exact ⟨zv, rfl, by simp, fun j h h' => by simp⟩

/-- append, where there is no room: a new row -/
theorem append_grows {t e : TypeId} {m by_ : Nat} {gg : Bool} {ys : List (List AV)} {a : Value} {vs olds : List Value} {base : Option Addr} {sLen sCap : Nat} {ts : List TypeId} {ty : TypeId} {tx : TypeId} {dx : TypeDesc} {z : List AV}
    (hsl : tSl P t = some (e, m, gg)) (hby : tBytes P e = some by_) (hz : tZero P e = some z) (hzm : z.length = m) (hx : tInt P tx = none) (hux : P.underlying tx = some dx)
    (hroom : (2 * (sLen + ys.length) + 512) * by_ ≤ 2 ^ 47) (hb0 : 0 < by_) (hcap : sCap < sLen + ys.length)
    (hold : (Builtin.firstCells m sLen (.slice base sLen sCap)).run P { w with drawn := w.drawn + 1 } = .ok olds.toArray { w with drawn := w.drawn + 1 })
    (hlen : (Builtin.lenOf a).run P w = .ok ys.length w) (hnew' : Adds { w with drawn := w.drawn + 1 } P m ys a vs) (hvl : vs.length = ys.length * m) :
    ∃ cap rest, (Builtin.append_ (t :: tx :: ts).toArray ty #[.slice base sLen sCap, a]).run P w = .ok (.slice (some ⟨w.heap.size, 0, none⟩) (sLen + ys.length) cap)
      { w with heap := w.heap.push (.cells (olds ++ vs ++ rest).toArray e), drawn := w.drawn + 1 } ∧ sLen + ys.length ≤ cap ∧ rest.length = (cap - (sLen + ys.length)) * m := by
  obtain ⟨hu, hm, _⟩ := tSl_ok hsl
  obtain ⟨i, hi, hib⟩ := tBytes_ok hby
  obtain ⟨zv, hzv, hzl, _⟩ := tZero_ok hi hz
  have hbig : ¬ (2 ^ 48 < Builtin.nextslicecap (sLen + ys.length) sCap * by_) := by
    have h1 := nextcap_le _ _ hcap
    have h2 : Builtin.nextslicecap (sLen + ys.length) sCap * by_ ≤ (2 * (sLen + ys.length) + 512) * by_ := Nat.mul_le_mul_right _ h1
    omega
  have hall := hnew'.first ys.length (Nat.le_refl _)
  rw [← hvl, List.take_length] at hall
  have hsmall : ¬ (IntKind.i64.max < ((sLen + ys.length : Nat) : Int) ∧ (False ∨ by_ = 0)) := by
    rintro ⟨_, h | h⟩
    · exact h
    · omega
  refine ⟨(Question.appendCap (sLen + ys.length) sCap e).cut (w.tape w.drawn (.appendCap (sLen + ys.length) sCap e)),
    (Builtin.zeroCells zv.cells ((Question.appendCap (sLen + ys.length) sCap e).cut (w.tape w.drawn (.appendCap (sLen + ys.length) sCap e)) - (sLen + ys.length))).toList, ?_, Nat.le_add_right _ _, ?_⟩
  · have hnc : ¬ (sLen + ys.length ≤ sCap) := by omega
    have hf : (Question.appendCap (sLen + ys.length) sCap e).forced = false := rfl
    have e3 : ∀ Z : Array Value, (olds ++ vs ++ Z.toList).toArray = olds.toArray ++ vs.toArray ++ Z := fun Z => by apply Array.ext'; simp
    rw [e3]
    unfold tInt at hx
    rw [hux] at hx
    cases dx <;> first
      | (cases hx; done)
      | (simp only [Builtin.append_, List.getElem?_toArray, List.getElem?_cons_zero, List.getElem?_cons_succ, Sem.run_bind, Result.andThen, run_underlying hu, run_underlying hux, run_sizeOf hm,
          Sem.run_pure, hlen, if_false, Bool.false_eq_true, typeInfo, run_program, hi, hib, hnc, zeroValue, hzv, run_choose, hf, run_askRoom, hold, Bool.not_false, if_true, hall,
          GT.gt, hbig, hsmall, newRow, run_newObj])
  · simp only [Builtin.zeroCells, Array.toList_map, List.length_map, Array.toList_range, List.length_range]
    rw [← hzl, hzm]

theorem run_noint {tx : TypeId} {dx : TypeDesc} (hx : tInt P tx = none) (hux : P.underlying tx = some dx) : ∀ k, dx ≠ .int k := by
  rintro k rfl
  unfold tInt at hx; rw [hux] at hx; cases hx

/-- append, where there is room -/
theorem append_room {t e : TypeId} {m : Nat} {gg : Bool} {ys : List (List AV)} {a : Value} {vs : List Value} {b o : Nat} {sLen sCap : Nat} {ts : List TypeId} {ty : TypeId} {tx : TypeId} {dx : TypeDesc} {cs : Array Value}
    (hsl : tSl P t = some (e, m, gg)) (hx : tInt P tx = none) (hux : P.underlying tx = some dx)
    (hcap : sLen + ys.length ≤ sCap) (hnew : Adds w P m ys a vs) (hvl : vs.length = ys.length * m) (hr : RowAt w b cs) (hb : o + sLen * m + vs.length ≤ cs.size) (h1 : ∀ v, v ∈ vs → v.oneCell' = true) :
    ∃ w', (Builtin.append_ (t :: tx :: ts).toArray ty #[.slice (some ⟨b, o, none⟩) sLen sCap, a]).run P w = .ok (.slice (some ⟨b, o, none⟩) (sLen + ys.length) sCap) w' ∧
      RowAt w' b (setA cs (o + sLen * m) vs) ∧ Stored w w' b := by
  obtain ⟨hu, hm, _⟩ := tSl_ok hsl
  have hall := hnew.first ys.length (Nat.le_refl _)
  rw [← hvl, List.take_length] at hall
  obtain ⟨w', e1, e2, e3⟩ := run_storeCells_row (P := P) vs w (o + sLen * m) 0 cs hr (by simpa using hb) h1
  refine ⟨w', ?_, by simpa using e2, e3⟩
  have hni := run_noint hx hux
  cases dx <;> first
    | (exact absurd rfl (hni _); done)
    | (simp only [Builtin.append_, List.getElem?_toArray, List.getElem?_cons_zero, List.getElem?_cons_succ, Sem.run_bind, Result.andThen, run_underlying hu, run_underlying hux, run_sizeOf hm,
          Sem.run_pure, hnew.len, if_false, Bool.false_eq_true, hcap, Bool.not_false, if_true, hall, add_off]
       rw [e1])

theorem rowRel_append {m : Nat} {xs ys : List (List AV)} {cs : Array Value} {vs : List Value} (h : RowRel w S m xs cs) (hc : Cont w S m ys vs)
    (hb : xs.length * m + vs.length ≤ cs.size) : RowRel w S m (xs ++ ys) (setA cs (xs.length * m) vs) := by
  refine ⟨fun l hl => ?_, fun i j hi hj => ?_⟩
  · rcases List.mem_append.1 hl with h' | h'
    · exact h.1 l h'
    · exact hc.sz l h'
  · rw [setA_get _ _ _ _ hb]
    by_cases hlt : i < xs.length
    · have e1 : (xs ++ ys)[i] = xs[i] := by simp [hlt]
      have hj' : j < (xs[i]).length := by rw [← e1]; exact hj
      have hjm : j < m := by rw [← h.1 _ (List.getElem_mem hlt)]; exact hj'
      obtain ⟨v, h1, h2, h3⟩ := h.2 i j hlt hj'
      rw [if_neg (by have := idx_lt hlt hjm; omega)]
      exact ⟨v, h1, h2, by simpa [e1] using h3⟩
    · have hi' : i - xs.length < ys.length := by simp only [List.length_append] at hi; omega
      have e1 : (xs ++ ys)[i] = ys[i - xs.length] := by rw [List.getElem_append_right (by omega)]
      have hj' : j < (ys[i - xs.length]).length := by rw [← e1]; exact hj
      have hjm : j < m := by rw [← hc.sz _ (List.getElem_mem hi')]; exact hj'
      obtain ⟨v, h1, h2⟩ := hc.rel (i - xs.length) j hi' hj'
      have e2 : i * m = xs.length * m + (i - xs.length) * m := by rw [← Nat.add_mul]; congr 1; omega
      have e3 := idx_lt hi' hjm
      rw [hc.len, if_pos (by omega)]
      have e4 : i * m + j - xs.length * m = (i - xs.length) * m + j := by omega
      rw [e4]
      exact ⟨v, h1, hc.one v (List.mem_of_getElem? h1), by simpa [e1] using h2⟩

end Go.Ab
