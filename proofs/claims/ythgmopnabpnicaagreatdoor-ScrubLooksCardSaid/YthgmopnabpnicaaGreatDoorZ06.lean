import Derived.Deep.LoopGhost
import Derived.Test.YthgmopnabpnicaaGreatDoorZ05
set_option linter.all false
namespace Go.Ab
open Go
variable [Glob]

variable {P : Program} {z : List Nat} {ops : Array Oper}

/-! ### any order of a region: what hangs together is ordered, what is not ordered does not meddle -/
def preds (o : Oper) : List Nat := (o.after.toList.filter fun e => Region.binds .any e).map (·.on)
def rowOf (rows : List Nat) : List Nat → Nat → Nat
  | [], m => m
  | p :: ps, m => rowOf rows ps (m ||| (1 <<< p) ||| rows.getD p 0)
def rowsGo : List Oper → List Nat → List Nat
  | [], rows => rows
  | o :: l, rows => rowsGo l (rows ++ [rowOf rows (preds o) 0])
def rowsOf (ops : Array Oper) : List Nat := rowsGo ops.toList []

def disjN (a b : List Nat) : Bool := a.all fun x => !(b.any fun y => x == y)
def notNm (b : Option Nat) (l : List Nat) : Bool := match b with | some b => l.all fun x => !(x == b) | none => true
def pairB (ops : Array Oper) (i : Nat) (oi oj : Oper) (ri rj : Rec) (rowj : Nat) : Bool :=
  notNm rj.b ri.wr && (rowj.testBit i || (disjN oi.dst.toList (rdT ops oj) && disjN oj.dst.toList (rdT ops oi) && disjN oi.dst.toList oj.dst.toList &&
    disjN ri.wr rj.rd && disjN rj.wr ri.rd && disjN ri.wr rj.wr && notNm ri.b rj.wr))
def chkGo {α : Type} (f : α → α → Bool) : List α → Bool
  | [] => true
  | x :: l => l.all (f x) && chkGo f l
def itemsGo : Nat → List Oper → List Rec → List Nat → List (Nat × Oper × Rec × Nat)
  | k, o :: os, r :: rs, m :: ms => (k, o, r, m) :: itemsGo (k + 1) os rs ms
  | _, _, _, _ => []
def edgesB : Nat → List Oper → Bool
  | _, [] => true
  | k, o :: os => (preds o).all (fun p => p < k) && edgesB (k + 1) os
def okD (ops : Array Oper) (acc : List Rec) : Bool :=
  edgesB 0 ops.toList && acc.all (·.hw) && chkGo (fun x y => pairB ops x.1 x.2.1 y.2.1 x.2.2.1 y.2.2.1 y.2.2.2) (itemsGo 0 ops.toList acc.reverse (rowsOf ops))

/-! rows of bits -/
theorem rowOf_bit {rows : List Nat} {i : Nat} : ∀ {ps : List Nat} {m : Nat}, (rowOf rows ps m).testBit i = true → m.testBit i = true ∨ ∃ p, p ∈ ps ∧ (i = p ∨ (rows.getD p 0).testBit i = true)
  | [], m, h => .inl h
  | p :: ps, m, h => by
    rw [rowOf] at h
    rcases rowOf_bit h with h1 | ⟨q, h1, h2⟩
    · rw [Nat.testBit_or, Nat.testBit_or, Bool.or_eq_true, Bool.or_eq_true] at h1
      rcases h1 with (h1 | h1) | h1
      · exact .inl h1
      · refine .inr ⟨p, by simp, .inl ?_⟩
        rw [Nat.shiftLeft_eq, Nat.one_mul, Nat.testBit_two_pow] at h1
        exact (of_decide_eq_true h1).symm
      · exact .inr ⟨p, by simp, .inr h1⟩
    · exact .inr ⟨q, by simp [h1], h2⟩

theorem getD_out {l : List Nat} {i : Nat} (h : l.length ≤ i) : l.getD i 0 = 0 := by simp [List.getD, List.getElem?_eq_none h]
theorem getD_app_lt {a b : List Nat} {i : Nat} (h : i < a.length) : (a ++ b).getD i 0 = a.getD i 0 := by simp only [List.getD, List.getElem?_append_left h]
theorem getD_app_at {a : List Nat} {x : Nat} : (a ++ [x]).getD a.length 0 = x := by simp [List.getD]

/-- what is done is done with all that it waits for -/
def Closed (ops : Array Oper) (A : Nat → Prop) : Prop := ∀ k o, ops[k]? = some o → A k → ∀ p, p ∈ preds o → A p

theorem rowsGo_ok {A : Nat → Prop} (hA : Closed ops A) : ∀ {l : List Oper} {rows : List Nat}, (∀ j, l[j]? = ops[rows.length + j]?) →
    (∀ j o, j < rows.length → ops[j]? = some o → (∀ p, p ∈ preds o → A p) → ∀ i, (rows.getD j 0).testBit i = true → A i) →
    ∀ j o, ops[j]? = some o → (∀ p, p ∈ preds o → A p) → ∀ i, ((rowsGo l rows).getD j 0).testBit i = true → A i
  | [], rows, hl, h, j, o, ho, hp, i, hi => by
    by_cases hj : j < rows.length
    · exact h j o hj ho hp i hi
    · rw [rowsGo, getD_out (by omega)] at hi
      simp at hi
  | x :: l, rows, hl, h, j, o, ho, hp, i, hi => by
    rw [rowsGo] at hi
    refine rowsGo_ok hA (l := l) (rows := rows ++ [rowOf rows (preds x) 0]) (fun j => ?_) ?_ j o ho hp i hi
    · have := hl (j + 1)
      simpa [Nat.add_assoc, Nat.add_comm 1 j] using this
    · intro j o hj ho hp i hi
      by_cases hj' : j < rows.length
      · rw [getD_app_lt hj'] at hi
        exact h j o hj' ho hp i hi
      · have hj2 : j = rows.length := by simp at hj; omega
        subst hj2
        have h0 : ops[rows.length]? = some x := by simpa using (hl 0).symm
        rw [h0] at ho; cases ho
        rw [getD_app_at] at hi
        rcases rowOf_bit hi with h1 | ⟨p, h1, h2⟩
        · simp at h1
        · rcases h2 with rfl | h2
          · exact hp _ h1
          · by_cases hpl : p < rows.length
            · cases hop : ops[p]? with
              | none =>
                have h3 : ops.size ≤ p := Array.getElem?_eq_none_iff.1 hop
                have h4 : rows.length < ops.size := by
                  rcases Nat.lt_or_ge rows.length ops.size with h5 | h5
                  · exact h5
                  · rw [Array.getElem?_eq_none h5] at h0; cases h0
                omega
              | some op => exact h p op hpl hop (hA p op hop (hp p h1)) i h2
            · rw [getD_out (by omega)] at h2
              simp at h2

theorem rowsOf_ok {A : Nat → Prop} (hA : Closed ops A) {j : Nat} {o : Oper} (ho : ops[j]? = some o) (hp : ∀ p, p ∈ preds o → A p) {i : Nat} (hi : ((rowsOf ops).getD j 0).testBit i = true) : A i :=
  rowsGo_ok hA (l := ops.toList) (rows := []) (fun j => by simp) (fun j o hj => by simp at hj) j o ho hp i hi

theorem chkGo_ok {α : Type} {f : α → α → Bool} : ∀ {l : List α}, chkGo f l = true → ∀ i j (hi : i < l.length) (hj : j < l.length), i < j → f l[i] l[j] = true
  | x :: l, h, 0, j + 1, hi, hj, hij => by
    rw [chkGo, Bool.and_eq_true] at h
    exact List.all_eq_true.1 h.1 _ (List.getElem_mem _)
  | x :: l, h, i + 1, j + 1, hi, hj, hij => by
    rw [chkGo, Bool.and_eq_true] at h
    exact chkGo_ok h.2 i j (by simpa using hi) (by simpa using hj) (by omega)

theorem items_get : ∀ {k : Nat} {os : List Oper} {rs : List Rec} {ms : List Nat}, os.length = rs.length → os.length = ms.length → (itemsGo k os rs ms).length = os.length ∧
    ∀ j (hj : j < (itemsGo k os rs ms).length) (h1 : j < os.length) (h2 : j < rs.length) (h3 : j < ms.length), (itemsGo k os rs ms)[j] = (k + j, os[j], rs[j], ms[j])
  | k, [], rs, ms, h, h' => ⟨by simp [itemsGo], fun j hj h1 => by simp at h1⟩
  | k, o :: os, [], ms, h, h' => by simp at h
  | k, o :: os, r :: rs, [], h, h' => by simp at h'
  | k, o :: os, r :: rs, m :: ms, h, h' => by
    obtain ⟨a, b⟩ := items_get (k := k + 1) (os := os) (rs := rs) (ms := ms) (by simpa using h) (by simpa using h')
    refine ⟨by simp [itemsGo, a], fun j hj h1 h2 h3 => ?_⟩
    cases j with
    | zero => simp [itemsGo]
    | succ j =>
      have := b j (by simp [itemsGo] at hj; omega) (by simpa using h1) (by simpa using h2) (by simpa using h3)
      simp only [itemsGo, List.getElem_cons_succ, this]
      simp only [Prod.mk.injEq, and_true]; omega

theorem rowsGo_len : ∀ (l : List Oper) (rows : List Nat), (rowsGo l rows).length = rows.length + l.length
  | [], rows => rfl
  | o :: l, rows => by rw [rowsGo, rowsGo_len l]; simp; omega

theorem edges_ok : ∀ {k : Nat} {l : List Oper}, edgesB k l = true → ∀ j (hj : j < l.length), ∀ p, p ∈ preds l[j] → p < k + j
  | k, o :: l, h, 0, hj, p, hp => by
    rw [edgesB, Bool.and_eq_true] at h
    have := List.all_eq_true.1 h.1 p hp
    simpa using this
  | k, o :: l, h, j + 1, hj, p, hp => by
    rw [edgesB, Bool.and_eq_true] at h
    have := edges_ok h.2 j (by simpa using hj) p (by simpa using hp)
    omega

theorem disjN_ok {a b : List Nat} (h : disjN a b = true) {x : Nat} (ha : x ∈ a) (hb : x ∈ b) : False := by
  have := List.all_eq_true.1 h x ha
  simp only [Bool.not_eq_true', List.any_eq_false, beq_iff_eq] at this
  exact this x hb rfl
theorem notNm_ok {b : Nat} {l : List Nat} (h : notNm (some b) l = true) (hb : b ∈ l) : False := by
  have := List.all_eq_true.1 h b hb
  simp at this

/-! ### what a part of the operations leaves -/
def Lr : List Eff → Nat → (Nat → Bool) → List W
  | [], _, _ => []
  | e :: es, k, A => (if A k = true then e.ws else []) ++ Lr es (k + 1) A

def fl (l : Loc) (ws : List W) : List W := ws.filter fun u => decide (u.loc = l)
theorem fl_append (l : Loc) (a b : List W) : fl l (a ++ b) = fl l a ++ fl l b := List.filter_append a b
theorem fl_nil {l : Loc} {ws : List W} (h : ∀ u, u ∈ ws → u.loc ≠ l) : fl l ws = [] := by
  simp only [fl, List.filter_eq_nil_iff, decide_eq_true_eq]; exact h
theorem fl_ne {l : Loc} {ws : List W} (h : fl l ws ≠ []) : ∃ u, u ∈ ws ∧ u.loc = l := by
  apply Classical.byContradiction
  intro hn
  exact h (fl_nil fun u hu e => hn ⟨u, hu, e⟩)

theorem Lr_congr {l : Loc} {A B : Nat → Bool} : ∀ {es : List Eff} {k : Nat}, (∀ i e, es[i]? = some e → fl l e.ws ≠ [] → A (k + i) = B (k + i)) → fl l (Lr es k A) = fl l (Lr es k B)
  | [], _, _ => rfl
  | e :: es, k, h => by
    rw [Lr, Lr, fl_append, fl_append, Lr_congr (es := es) (k := k + 1) fun i e' he hne => ?_]
    · congr 1
      by_cases hne : fl l e.ws = []
      · split <;> split <;> first | rfl | exact hne | exact hne.symm
      · have := h 0 e rfl hne
        rw [Nat.add_zero] at this
        rw [this]
    · have := h (i + 1) e' (by simpa using he) hne
      simpa [Nat.add_assoc, Nat.add_comm 1 i] using this

theorem Lr_take : ∀ (es : List Eff) (k j : Nat), Lr es k (fun i => decide (i < k + j)) = (es.take j).flatMap (·.ws)
  | [], _, _ => by simp [Lr]
  | e :: es, k, 0 => by
    have : ∀ (es : List Eff) (m : Nat), k ≤ m → Lr es m (fun i => decide (i < k + 0)) = [] := by
      intro es
      induction es with
      | nil => intro m _; rfl
      | cons e es ih => intro m hm; rw [Lr, ih (m + 1) (by omega)]; simp; omega
    rw [this _ _ (Nat.le_refl _)]; simp
  | e :: es, k, j + 1 => by
    rw [Lr]
    have h1 : (fun i => decide (i < k + (j + 1))) = fun i => decide (i < (k + 1) + j) := by funext i; congr 1; simp only [eq_iff_iff]; omega
    rw [h1, Lr_take es (k + 1) j]
    simp

theorem Lr_all {A : Nat → Bool} : ∀ {es : List Eff} {k : Nat}, (∀ i, i < es.length → A (k + i) = true) → Lr es k A = es.flatMap (·.ws)
  | [], _, _ => rfl
  | e :: es, k, h => by
    have h0 := h 0 (by simp)
    rw [Nat.add_zero] at h0
    rw [Lr, if_pos h0, Lr_all (es := es) (k := k + 1) fun i hi => ?_]
    · simp
    · have := h (i + 1) (by simpa using hi)
      simpa [Nat.add_assoc, Nat.add_comm 1 i] using this

theorem Lr_none {A : Nat → Bool} : ∀ {es : List Eff} {k : Nat}, (∀ i, i < es.length → A (k + i) = false) → Lr es k A = []
  | [], _, _ => rfl
  | e :: es, k, h => by
    have h0 := h 0 (by simp)
    rw [Nat.add_zero] at h0
    rw [Lr, h0, Lr_none (es := es) (k := k + 1) fun i hi => ?_]
    · simp
    · have := h (i + 1) (by simpa using hi)
      simpa [Nat.add_assoc, Nat.add_comm 1 i] using this

theorem Lr_insert {l : Loc} {A B : Nat → Bool} : ∀ {es : List Eff} {k j : Nat} {e : Eff}, es[j]? = some e → A (k + j) = false → B (k + j) = true → (∀ i, i ≠ k + j → B i = A i) →
    (∀ i e', j < i → es[i]? = some e' → A (k + i) = true → fl l e.ws ≠ [] → fl l e'.ws = []) → fl l (Lr es k B) = fl l (Lr es k A ++ e.ws)
  | [], k, j, e, he, _, _, _, _ => by simp at he
  | x :: es, k, 0, e, he, hA, hB, hAB, hi => by
    simp only [List.getElem?_cons_zero, Option.some.injEq] at he
    subst he
    rw [Nat.add_zero] at hA hB hAB
    rw [Lr, Lr, hA, hB]
    simp only [if_true, Bool.false_eq_true, if_false, List.nil_append]
    have e1 : Lr es (k + 1) B = Lr es (k + 1) A := by
      have : ∀ (es : List Eff) (m : Nat), k < m → Lr es m B = Lr es m A := by
        intro es
        induction es with
        | nil => intro m _; rfl
        | cons y es ih => intro m hm; rw [Lr, Lr, hAB m (by omega), ih (m + 1) (by omega)]
      exact this es (k + 1) (by omega)
    rw [e1, fl_append, fl_append]
    by_cases hne : fl l x.ws = []
    · rw [hne]; simp
    · have : fl l (Lr es (k + 1) A) = [] := by
        have hh : ∀ i e', es[i]? = some e' → A (k + 1 + i) = true → fl l e'.ws = [] := fun i e' he' ha => hi (i + 1) e' (by omega) (by simpa using he') (by rw [← ha]; congr 1; omega) hne
        clear hi e1 hAB
        generalize k + 1 = m at hh
        induction es generalizing m with
        | nil => rfl
        | cons y es ih =>
          rw [Lr, fl_append, ih (m + 1) fun i e' he' ha => hh (i + 1) e' (by simpa using he') (by rw [← ha]; congr 1; omega)]
          by_cases hy : A m = true
          · rw [if_pos hy, hh 0 y rfl (by simpa using hy)]; rfl
          · rw [if_neg hy]; rfl
      rw [this]; simp
  | x :: es, k, j + 1, e, he, hA, hB, hAB, hi => by
    rw [Lr, Lr, hAB k (by omega), fl_append, List.append_assoc, fl_append]
    congr 1
    refine Lr_insert (es := es) (k := k + 1) (j := j) (by simpa using he) ?_ ?_ (fun i hne => hAB i (by omega)) fun i e' hji he' ha hne => hi (i + 1) e' (by omega) (by simpa using he') (by rw [← ha]; congr 1; omega) hne
    · rw [← hA]; congr 1; omega
    · rw [← hB]; congr 1; omega

/-! ### the trace, by number -/
theorem finS_n : ∀ (es : List Eff) (s : AS), s.n ≤ (finS s es).n
  | [], s => Nat.le_refl _
  | e :: es, s => Nat.le_trans (by simp [nextS]) (finS_n es (nextS s e))
theorem app_th {s s' : AS} (ht : s.t = s'.t) (hh : s.h = s'.h) : ∀ ws : List W, (s.app ws).t = (s'.app ws).t ∧ (s.app ws).h = (s'.app ws).h := by
  intro ws
  induction ws generalizing s s' with
  | nil => exact ⟨ht, hh⟩
  | cons u ws ih =>
    refine ih ?_ ?_ <;> cases u <;> simp [AS.app1, ht, hh]
theorem finS_eq : ∀ (es : List Eff) (s : AS), (finS s es).t = (s.app (es.flatMap (·.ws))).t ∧ (finS s es).h = (s.app (es.flatMap (·.ws))).h
  | [], s => ⟨rfl, rfl⟩
  | e :: es, s => by
    obtain ⟨a, b⟩ := finS_eq es (nextS s e)
    obtain ⟨c, d⟩ := app_th (s := nextS s e) (s' := s.app e.ws) rfl rfl (es.flatMap (·.ws))
    rw [List.flatMap_cons, app_append]
    exact ⟨a.trans c, b.trans d⟩

theorem TrOK.at {s0 : AS} : ∀ {l : List Oper} {s : AS} {es : List Eff}, TrOK P z ops l s es → es.length = l.length ∧ ∀ j (hj : j < l.length), ∃ e, es[j]? = some e ∧
    EffOK P z ops l[j] (s.app ((es.take j).flatMap (·.ws))) e ∧ ∀ b, e.b = some b → s.n ≤ b ∧ b < (finS s es).n
  | [], s, [], _ => ⟨rfl, fun j hj => by simp at hj⟩
  | [], s, e :: es, h => h.elim
  | o :: l, s, [], h => h.elim
  | o :: l, s, e :: es, ⟨h1, h2, h3⟩ => by
    obtain ⟨a, b⟩ := TrOK.at (s0 := s0) h3
    refine ⟨by simp [a], fun j hj => ?_⟩
    cases j with
    | zero =>
      refine ⟨e, rfl, h1, fun b hb => ?_⟩
      have := finS_n es (nextS s e)
      have e1 : (nextS s e).n = s.n + 1 := by unfold nextS; simp [hb]
      rw [h2 b hb]
      rw [finS]
      omega
    | succ j =>
      obtain ⟨e', g1, g2, g3⟩ := b j (by simpa using hj)
      refine ⟨e', by simpa using g1, ?_, fun b hb => ?_⟩
      · obtain ⟨c, d⟩ := app_th (s := nextS s e) (s' := s.app e.ws) rfl rfl ((es.take j).flatMap (·.ws))
        simp only [List.take_succ_cons, List.flatMap_cons, app_append, List.getElem_cons_succ]
        exact g2.congr (fun t _ => by rw [c]) fun i _ => by rw [d]
      · have := g3 b hb
        rw [finS]
        refine ⟨Nat.le_trans ?_ this.1, this.2⟩
        simp [nextS]

end Go.Ab
namespace Go.Ab
open Go
variable [Glob]

variable {P : Program} {z : List Nat} {ops : Array Oper}

/-- the state when just these are done -/
def stA (s : AS) (N : Nat) (es : List Eff) (A : Nat → Bool) : AS := { s.app (Lr es 0 A) with n := N }

theorem mem_whs {i : Nat} {ws : List W} : i ∈ whs ws ↔ ∃ u, u ∈ ws ∧ u.loc = .h i := by
  induction ws with
  | nil => simp [whs]
  | cons u ws ih =>
    cases u with
    | t k v => simp [whs, ih, W.loc]
    | h k o => simp [whs, ih, W.loc, eq_comm]

/-- the places that an effect writes -/
theorem hwB_ok {k : Nat} : ∀ {ws : List W}, hwB ws = true → ∀ {u}, u ∈ ws → u.loc ≠ .t k
  | .h i o :: ws, h, u, hu => by
    cases hu with
    | head => intro h; cases h
    | tail _ hu => exact hwB_ok (ws := ws) h hu
  | .t i o :: ws, h, u, hu => by cases h
theorem eff_t {o : Oper} {s : AS} {e : Eff} (h : EffOK P z ops o s e) (hw : e.hw = true) {u : W} (hu : u ∈ e.ws) {k : Nat} (hk : u.loc = .t k) : k ∈ o.dst.toList := by
  have hd : ∀ v, u ∈ dstW o.dst v → k ∈ o.dst.toList := fun v hv => by
    cases hdst : o.dst with
    | none => rw [hdst] at hv; cases hv
    | some d =>
      rw [hdst] at hv
      simp only [dstW, List.mem_singleton] at hv
      subst hv
      simp only [W.loc, Loc.t.injEq] at hk
      simp [hk]
  rcases h with ⟨_, _, h⟩ | ⟨_, _, _, _, _, _, r, _, _, _, _, h⟩ | ⟨_, _, v, ws, b, _, h1, _, h, hh⟩
  · rw [h] at hu; exact hd _ hu
  · rw [h] at hu; exact hd _ hu
  · rw [h] at hu
    rcases List.mem_append.1 hu with h2 | h2
    · exact absurd hk (hwB_ok (hh ▸ hw) h2)
    · exact hd _ h2

structure Sys (P : Program) (z : List Nat) (ops : Array Oper) (s : AS) (es : List Eff) (N : Nat) : Prop where
  len : es.length = ops.size
  at_ : ∀ j (hj : j < ops.size), ∃ e, es[j]? = some e ∧ EffOK P z ops ops[j] (s.app ((es.take j).flatMap (·.ws))) e ∧ ∀ b, e.b = some b → s.n ≤ b ∧ b < N
  tw : ∀ (j : Nat) (e : Eff) (o : Oper), es[j]? = some e → ops[j]? = some o → ∀ u, u ∈ e.ws → ∀ k, u.loc = Loc.t k → k ∈ o.dst.toList
  edge : ∀ (j : Nat) (o : Oper), ops[j]? = some o → ∀ p, p ∈ preds o → p < j
  chk : ∀ (i j : Nat) (oi oj : Oper) (ei ej : Eff), i < j → ops[i]? = some oi → ops[j]? = some oj → es[i]? = some ei → es[j]? = some ej →
    pairB ops i oi oj ei.rec_ ej.rec_ ((rowsOf ops).getD j 0) = true

/-- the two are ordered, or do not meddle -/
theorem Sys.pair {s : AS} {es : List Eff} {N : Nat} (Y : Sys P z ops s es N) {i j : Nat} {oi oj : Oper} {ei ej : Eff} (hij : i < j) (h1 : ops[i]? = some oi) (h2 : ops[j]? = some oj) (h3 : es[i]? = some ei) (h4 : es[j]? = some ej) :
    (∀ b, ej.b = some b → b ∉ whs ei.ws) ∧
    (((rowsOf ops).getD j 0).testBit i = true ∨
      ((∀ l, fl l ei.ws ≠ [] → (∀ t, t ∈ rdT ops oj → l ≠ .t t) ∧ (∀ k, k ∈ ej.rd → l ≠ .h k)) ∧
       (∀ l, fl l ej.ws ≠ [] → (∀ t, t ∈ rdT ops oi → l ≠ .t t) ∧ (∀ k, k ∈ ei.rd → l ≠ .h k)) ∧
       (∀ l, fl l ei.ws ≠ [] → fl l ej.ws = []) ∧ ∀ b, ei.b = some b → b ∉ whs ej.ws)) := by
  have h := Y.chk i j oi oj ei ej hij h1 h2 h3 h4
  unfold pairB at h
  rw [Bool.and_eq_true, Bool.or_eq_true] at h
  obtain ⟨hn, h⟩ := h
  refine ⟨fun b hb hm => ?_, h.imp id fun h => ?_⟩
  · have : ej.rec_.b = some b := hb
    rw [this] at hn
    exact notNm_ok hn hm
  · simp only [Bool.and_eq_true] at h
    obtain ⟨⟨⟨⟨⟨⟨a1, a2⟩, a3⟩, a4⟩, a5⟩, a6⟩, a7⟩ := h
    refine ⟨fun l hl => ⟨fun t ht e => ?_, fun k hk e => ?_⟩, fun l hl => ⟨fun t ht e => ?_, fun k hk e => ?_⟩, fun l hl => ?_, fun b hb hm => ?_⟩
    · obtain ⟨u, hu, hul⟩ := fl_ne hl
      exact disjN_ok a1 (Y.tw i ei oi h3 h1 u hu t (hul.trans e)) ht
    · obtain ⟨u, hu, hul⟩ := fl_ne hl
      exact disjN_ok a4 (mem_whs.2 ⟨u, hu, hul.trans e⟩) hk
    · obtain ⟨u, hu, hul⟩ := fl_ne hl
      exact disjN_ok a2 (Y.tw j ej oj h4 h2 u hu t (hul.trans e)) ht
    · obtain ⟨u, hu, hul⟩ := fl_ne hl
      exact disjN_ok a5 (mem_whs.2 ⟨u, hu, hul.trans e⟩) hk
    · apply Classical.byContradiction
      intro hne
      obtain ⟨u, hu, hul⟩ := fl_ne hl
      obtain ⟨u', hu', hul'⟩ := fl_ne hne
      cases l with
      | t k => exact disjN_ok a3 (Y.tw i ei oi h3 h1 u hu k hul) (Y.tw j ej oj h4 h2 u' hu' k hul')
      | h k => exact disjN_ok a6 (mem_whs.2 ⟨u, hu, hul⟩) (mem_whs.2 ⟨u', hu', hul'⟩)
    · have : ei.rec_.b = some b := hb
      rw [this] at a7
      exact notNm_ok a7 hm

theorem look_stA (s : AS) (N : Nat) (es : List Eff) (A : Nat → Bool) (l : Loc) : (stA s N es A).look l = (s.app (Lr es 0 A)).look l := by cases l <;> rfl

section
variable {s : AS} {es : List Eff} {N : Nat} (Y : Sys P z ops s es N) {A : Nat → Bool} (hA : Closed ops fun k => A k = true)
include Y hA

theorem Sys.get {j : Nat} {o : Oper} (ho : ops[j]? = some o) : ∃ hj : j < ops.size, ops[j] = o := by
  rcases Nat.lt_or_ge j ops.size with h | h
  · exact ⟨h, by rw [Array.getElem?_eq_getElem h] at ho; exact Option.some.inj ho⟩
  · rw [Array.getElem?_eq_none h] at ho; cases ho

/-- what waits for nothing that is not done may be done now -/
theorem Sys.eff {j : Nat} {o : Oper} (ho : ops[j]? = some o) (hj : A j = false) (hp : ∀ p, p ∈ preds o → A p = true) : ∃ e, es[j]? = some e ∧ EffOK P z ops o (stA s N es A) e := by
  obtain ⟨hjs, rfl⟩ := Y.get hA ho
  obtain ⟨e, he, hok, hb⟩ := Y.at_ j hjs
  refine ⟨e, he, ?_⟩
  have key : ∀ l, ((∃ t, t ∈ rdT ops ops[j] ∧ l = .t t) ∨ ∃ k, k ∈ e.rd ∧ l = .h k) → (stA s N es A).look l = (s.app ((es.take j).flatMap (·.ws))).look l := by
    intro l hl
    have e1 := Lr_take es 0 j
    rw [look_stA, ← e1]
    refine look_eq (Lr_congr fun i ei hei hne => ?_)
    simp only [Nat.zero_add]
    have hil : i < ops.size := by
      rw [← Y.len]
      rcases Nat.lt_or_ge i es.length with h | h
      · exact h
      · rw [List.getElem?_eq_none h] at hei; cases hei
    have hoi : ops[i]? = some ops[i] := Array.getElem?_eq_getElem hil
    rcases Nat.lt_trichotomy i j with h | h | h
    · have : A i = true := by
        obtain ⟨_, h1 | h1⟩ := Y.pair h hoi ho hei he
        · exact rowsOf_ok (A := fun k => A k = true) hA ho hp h1
        · rcases hl with ⟨t, ht, rfl⟩ | ⟨k, hk, rfl⟩
          · exact absurd rfl ((h1.1 _ hne).1 t ht)
          · exact absurd rfl ((h1.1 _ hne).2 k hk)
      rw [this]; simp [h]
    · subst h; rw [hj]; simp
    · have : A i = false := by
        apply Classical.byContradiction
        intro hAi
        have hAi : A i = true := by simpa using hAi
        obtain ⟨_, h1 | h1⟩ := Y.pair h ho hoi he hei
        · have := rowsOf_ok (A := fun k => A k = true) hA hoi (hA i _ hoi hAi) h1
          rw [hj] at this; cases this
        · rcases hl with ⟨t, ht, rfl⟩ | ⟨k, hk, rfl⟩
          · exact absurd rfl ((h1.2.1 _ hne).1 t ht)
          · exact absurd rfl ((h1.2.1 _ hne).2 k hk)
      rw [this]; simp; omega
  refine hok.congr (fun t ht => ?_) fun i hi => ?_
  · have := key (.t t) (.inl ⟨t, ht, rfl⟩)
    simpa [AS.look] using this
  · have := key (.h i) (.inr ⟨i, hi, rfl⟩)
    simpa [AS.look] using this

/-- ... and it leaves the state of one more. -/
theorem Sys.step {B : Nat → Bool} {j : Nat} {o : Oper} {e : Eff} (ho : ops[j]? = some o) (he : es[j]? = some e) (hj : A j = false) (hB : B j = true) (hAB : ∀ i, i ≠ j → B i = A i) :
    (stA s N es A).app e.ws = stA s N es B := by
  refine as_ext (fun l => ?_) ?_
  · rw [look_stA]
    have e1 : ((stA s N es A).app e.ws).look l = (s.app (Lr es 0 A ++ e.ws)).look l := by
      rw [app_append]
      obtain ⟨a, b⟩ := app_th (s := stA s N es A) (s' := s.app (Lr es 0 A)) rfl rfl e.ws
      cases l <;> simp [AS.look, a, b]
    rw [e1]
    refine look_eq (Eq.symm (Lr_insert (k := 0) he (by simpa using hj) (by simpa using hB) (by simpa using hAB) fun i ei hji hei hAi hne => ?_))
    rw [Nat.zero_add] at hAi
    have hil : i < ops.size := by
      rw [← Y.len]
      rcases Nat.lt_or_ge i es.length with h | h
      · exact h
      · rw [List.getElem?_eq_none h] at hei; cases hei
    have hoi : ops[i]? = some ops[i] := Array.getElem?_eq_getElem hil
    obtain ⟨_, h1 | h1⟩ := Y.pair hji ho hoi he hei
    · have := rowsOf_ok (A := fun k => A k = true) hA hoi (hA i _ hoi hAi) h1
      rw [hj] at this; cases this
    · exact h1.2.2.1 l hne
  · rw [app_n]; rfl

/-- the names of what is not done stay free -/
theorem Sys.free {B : Nat → Bool} {j : Nat} {o : Oper} {e : Eff} (ho : ops[j]? = some o) (he : es[j]? = some e) (hj : A j = false) (hp : ∀ p, p ∈ preds o → A p = true)
    (hB : B j = true) (hAB : ∀ i, i ≠ j → B i = A i) {φ φ' : Pm} (hf : ∀ i ei b, es[i]? = some ei → A i = false → ei.b = some b → Fr φ (stA s N es A).h b)
    (tm : Tame φ (stA s N es A).h φ' ((stA s N es A).app e.ws).h) : ∀ i ei b, es[i]? = some ei → B i = false → ei.b = some b → Fr φ' (stA s N es B).h b := by
  intro i ei b hei hBi hb
  have hij : i ≠ j := fun h => by subst h; rw [hB] at hBi; cases hBi
  have hAi : A i = false := by rw [← hAB i hij]; exact hBi
  have f := hf i ei b hei hAi hb
  rw [← Y.step hA ho he hj hB hAB]
  refine tm.fr f ?_
  have hil : i < ops.size := by
    rw [← Y.len]
    rcases Nat.lt_or_ge i es.length with h | h
    · exact h
    · rw [List.getElem?_eq_none h] at hei; cases hei
  have hoi : ops[i]? = some ops[i] := Array.getElem?_eq_getElem hil
  have hnot : b ∉ whs e.ws := by
    rcases Nat.lt_or_ge j i with h | h
    · exact (Y.pair h ho hoi he hei).1 b hb
    · obtain ⟨_, h1 | h1⟩ := Y.pair (show i < j by omega) hoi ho hei he
      · have := rowsOf_ok (A := fun k => A k = true) hA ho hp h1
        rw [hAi] at this; cases this
      · exact h1.2.2.2 b hb
  have := look_none (s := stA s N es A) (ws := e.ws) (l := .h b) fun u hu hul => hnot (mem_whs.2 ⟨u, hu, hul⟩)
  have e2 : ((stA s N es A).app e.ws).h b = (stA s N es A).h b := by simpa [AS.look] using this
  rw [e2]; exact f.1
end

def cnt (listed : Array Bool) (n : Nat) : Nat := (List.range n).countP fun k => !listed.getD k false

theorem cnt_set {listed : Array Bool} {i : Nat} (hi : listed.getD i true = false) : ∀ n, i < n → cnt (listed.setIfInBounds i true) n + 1 = cnt listed n := by
  have hlt : i < listed.size := by
    rcases Nat.lt_or_ge i listed.size with h | h
    · exact h
    · simp [Array.getElem?_eq_none h] at hi
  have hif : listed.getD i false = false := by
    simp [hlt] at hi ⊢; exact hi
  have hset : (listed.setIfInBounds i true).getD i false = true := by simp [hlt]
  have same : ∀ n, n ≤ i → cnt (listed.setIfInBounds i true) n = cnt listed n := fun n hn => by
    unfold cnt
    refine List.countP_congr fun k hk => ?_
    have : k < n := List.mem_range.1 hk
    rw [getD_set_ne false (by omega)]
  intro n
  induction n with
  | zero => intro h; omega
  | succ n ih =>
    intro h
    have e : ∀ l : Array Bool, cnt l (n + 1) = cnt l n + (if l.getD n false = true then 0 else 1) := fun l => by
      unfold cnt
      rw [List.range_succ, List.countP_append]
      congr 1
      rw [List.countP_singleton]
      cases hx : l.getD n false <;> rfl
    rw [e, e]
    by_cases hn : n = i
    · subst hn
      rw [same n (Nat.le_refl _), hset, hif]
      simp
    · rw [getD_set_ne false (Ne.symm hn)]
      have := ih (by omega)
      omega

theorem cnt_zero {listed : Array Bool} {n : Nat} (h : cnt listed n = 0) : ∀ k, k < n → listed.getD k false = true := by
  intro k hk
  have := List.countP_eq_zero.1 h k (List.mem_range.2 hk)
  simpa using this

/-- the first that is not done is ready -/
theorem ready_first {listed : Array Bool} (hs : listed.size = ops.size) (hedge : ∀ j o, ops[j]? = some o → ∀ p, p ∈ preds o → p < j) (h : Region.ready .any ops listed = []) :
    ∀ k, k < ops.size → listed.getD k false = true := by
  intro k
  induction k using Nat.strongRecOn with
  | ind k ih =>
    intro hk
    apply Classical.byContradiction
    intro hn
    have ho : ops[k]? = some ops[k] := Array.getElem?_eq_getElem hk
    have : k ∈ Region.ready .any ops listed := by
      rw [mem_ready]
      refine ⟨?_, ops[k], ho, fun e he hb => ?_⟩
      · have hkl : k < listed.size := by omega
        simp [hkl] at hn ⊢; exact hn
      · have hp : e.on ∈ preds ops[k] := by
          unfold preds
          exact List.mem_map.2 ⟨e, List.mem_filter.2 ⟨Array.mem_toList_iff.2 he, hb⟩, rfl⟩
        have := hedge k _ ho _ hp
        exact ih _ this (by omega)
    rw [h] at this; cases this

theorem wpAny_ok {E : Ent} {nt : Nat} {s : AS} {es : List Eff} {N : Nat} (Y : Sys P z ops s es N) {Q : Exit → Act → World → Prop} (hd : ∀ (j : Nat) (o : Oper), ops[j]? = some o → o.dst.all (· < nt) = true)
    (hQ : ∀ φ S a w, R E nt (stA s N es fun _ => true) φ S a w → Q .normal a w) :
    ∀ (fuel : Nat) (listed : Array Bool) (φ : Pm) (S : Nat → Prop) (a : Act) (w : World), listed.size = ops.size → cnt listed ops.size = fuel → Closed ops (fun k => listed.getD k false = true) →
      R E nt (stA s N es fun k => listed.getD k false) φ S a w → (∀ i ei b, es[i]? = some ei → listed.getD i false = false → ei.b = some b → Fr φ (stA s N es fun k => listed.getD k false).h b) →
      wpAny P .any ops Q fuel listed a w := by
  have fin : ∀ (listed : Array Bool) φ S a w, (∀ k, k < ops.size → listed.getD k false = true) → R E nt (stA s N es fun k => listed.getD k false) φ S a w → Q .normal a w := by
    intro listed φ S a w h r
    refine hQ φ S a w ?_
    have e1 : Lr es 0 (fun k => listed.getD k false) = Lr es 0 fun _ => true := by
      rw [Lr_all fun i hi => ?_, Lr_all fun _ _ => rfl]
      rw [Nat.zero_add]; exact h i (by rw [← Y.len]; exact hi)
    unfold stA at r ⊢
    rw [← e1]; exact r
  intro fuel
  induction fuel with
  | zero =>
    intro listed φ S a w hs hc hA r hf
    have hall := cnt_zero hc
    refine ⟨?_, fin listed φ S a w hall r⟩
    apply List.eq_nil_iff_forall_not_mem.2
    intro k hk
    obtain ⟨h0, o, ho, _⟩ := mem_ready.1 hk
    obtain ⟨hkl, _⟩ := Y.get hA ho
    have := hall k hkl
    have hkl' : k < listed.size := by omega
    simp [hkl'] at h0 this
    rw [h0] at this; cases this
  | succ fuel ih =>
    intro listed φ S a w hs hc hA r hf
    refine ⟨fun h => fin listed φ S a w (ready_first hs Y.edge h) r, fun i hi => ?_⟩
    obtain ⟨h0, o, ho, hall⟩ := mem_ready.1 hi
    obtain ⟨hil, _⟩ := Y.get hA ho
    have hil' : i < listed.size := by omega
    have h0' : listed.getD i false = false := by simp [hil'] at h0 ⊢; exact h0
    have hp : ∀ p, p ∈ preds o → listed.getD p false = true := fun p hp => by
      unfold preds at hp
      obtain ⟨e, he, rfl⟩ := List.mem_map.1 hp
      obtain ⟨he1, he2⟩ := List.mem_filter.1 he
      exact hall e (Array.mem_toList_iff.1 he1) he2
    obtain ⟨e, he, hok⟩ := Y.eff hA ho h0' hp
    have hb : ∀ b, e.b = some b → Fr φ (stA s N es fun k => listed.getD k false).h b ∧ b < (stA s N es fun k => listed.getD k false).n := fun b hb => by
      refine ⟨hf i e b he h0' hb, ?_⟩
      obtain ⟨e', he', _, h3⟩ := Y.at_ i hil
      rw [he] at he'; cases he'
      exact (h3 b hb).2
    have hset : (listed.setIfInBounds i true).getD i false = true := by simp [hil']
    have hne : ∀ k, k ≠ i → (listed.setIfInBounds i true).getD k false = listed.getD k false := fun k hk => getD_set_ne false (Ne.symm hk)
    refine eff_step r ho hok (hd i o ho) hb fun a' φ' S' w' r' tm => ?_
    have hstep := Y.step hA (B := fun k => (listed.setIfInBounds i true).getD k false) ho he h0' hset hne
    have hfree := Y.free hA (B := fun k => (listed.setIfInBounds i true).getD k false) ho he h0' hp hset hne hf tm
    rw [hstep] at r'
    refine ih _ φ' S' a' w' (by simp [hs]) (by have := cnt_set h0 ops.size hil; omega) ?_ r' hfree
    intro k ok hok' hk p hp'
    by_cases hki : k = i
    · subst hki
      rw [ho] at hok'; cases hok'
      by_cases hpi : p = k
      · subst hpi; exact hset
      · show (listed.setIfInBounds k true).getD p false = true
        rw [hne p hpi]; exact hp p hp'
    · have hk : (listed.setIfInBounds i true).getD k false = true := hk
      rw [hne k hki] at hk
      have := hA k ok hok' hk p hp'
      by_cases hpi : p = i
      · subst hpi; exact hset
      · show (listed.setIfInBounds i true).getD p false = true
        rw [hne p hpi]; exact this

theorem wpD_sound {E : Ent} {nt : Nat} {K : AS → Prop} {Q : Exit → Act → World → Prop} (hm : P.follows .mixedOrders = true) (hQ : ∀ s φ S a w, K s → R E nt s φ S a w → Q .normal a w)
    {s : AS} {φ : Pm} {S : Nat → Prop} {a : Act} {w : World} {id : Nat} (hd : dstOk nt ops.toList = true) (r : R E nt s φ S a w)
    (h : wpD P z ops (fun acc s' => okD ops acc = true ∧ K s') ops.toList [] s) : (Code.region id ops true).wp P Q a w := by
  obtain ⟨es, h1, h2, h3⟩ := wpD_trace h
  rw [List.append_nil] at h2
  unfold okD at h2
  rw [List.reverse_reverse, Bool.and_eq_true, Bool.and_eq_true] at h2
  obtain ⟨⟨g1, g2⟩, g3⟩ := h2
  obtain ⟨t1, t2⟩ := TrOK.at (s0 := s) h1
  have hlen : es.length = ops.size := by simpa using t1
  have hops : ∀ {j : Nat} {o : Oper}, ops[j]? = some o → ∃ hj : j < ops.size, ops[j] = o := fun {j o} ho => by
    rcases Nat.lt_or_ge j ops.size with h | h
    · exact ⟨h, by rw [Array.getElem?_eq_getElem h] at ho; exact Option.some.inj ho⟩
    · rw [Array.getElem?_eq_none h] at ho; cases ho
  have Y : Sys P z ops s es (finS s es).n := by
    refine ⟨hlen, fun j hj => (by have := t2 j (by simpa using hj); rwa [Array.getElem_toList] at this), fun j e o he ho u hu k hk => ?_, fun j o ho p hp => ?_, fun i j oi oj ei ej hij hi hj hei hej => ?_⟩
    · obtain ⟨hj, rfl⟩ := hops ho
      obtain ⟨e', he', ok, _⟩ := t2 j (by simpa using hj)
      rw [he] at he'; cases he'
      refine eff_t (by simpa using ok) ?_ hu hk
      have : e.rec_ ∈ (es.map Eff.rec_).reverse := List.mem_reverse.2 (List.mem_map.2 ⟨e, List.mem_of_getElem? he, rfl⟩)
      exact List.all_eq_true.1 g2 _ this
    · obtain ⟨hj, rfl⟩ := hops ho
      have := edges_ok g1 j (by simpa using hj) p (by simpa using hp)
      omega
    · obtain ⟨hi', rfl⟩ := hops hi
      obtain ⟨hj', rfl⟩ := hops hj
      have l1 : ops.toList.length = (es.map Eff.rec_).length := by simp [hlen]
      have l2 : ops.toList.length = (rowsOf ops).length := by unfold rowsOf; rw [rowsGo_len]; simp
      obtain ⟨a1, a2⟩ := items_get (k := 0) l1 l2
      have := chkGo_ok g3 i j (by rw [a1]; simpa using hi') (by rw [a1]; simpa using hj') hij
      have l3 : j < (rowsOf ops).length := by rw [← l2]; simpa using hj'
      have ee : ∀ {k : Nat} {e : Eff} (hk : k < es.length), es[k]? = some e → es[k] = e := fun hk h => by rw [List.getElem?_eq_getElem hk] at h; exact Option.some.inj h
      rw [a2 i _ (by simpa using hi') (by simpa [hlen] using hi') (by rw [← l2]; simpa using hi'), a2 j _ (by simpa using hj') (by simpa [hlen] using hj') l3] at this
      simp only [List.getElem_map, Nat.zero_add] at this
      rw [ee (by omega) hei, ee (by omega) hej] at this
      have e3 : (rowsOf ops).getD j 0 = (rowsOf ops)[j] := by simp [List.getD, l3]
      rw [e3]
      simpa using this
  have stz : stA s (finS s es).n es (fun k => (Array.replicate ops.size false).getD k false) = { s with n := (finS s es).n } := by
    unfold stA
    rw [Lr_none fun i hi => ?_]
    · rfl
    · by_cases hb : i < ops.size <;> simp [hb]
  refine wp_region_any hm ?_
  have hn : s.n ≤ (finS s es).n := finS_n es s
  obtain ⟨H1, T1⟩ := r.hp.congr (w' := { w with drawn := w.drawn + 1 }) rfl rfl rfl rfl hn
  have r1 : R E nt { s with n := (finS s es).n } φ S a { w with drawn := w.drawn + 1 } := r.heap (h' := s.h) hn H1 T1.g
  refine wpAny_ok Y (fun j o ho => ?_) (fun φ S a w r' => ?_) ops.size _ φ S a _ (by simp) ?_ ?_ (by rw [stz]; exact r1) ?_
  · obtain ⟨hj, rfl⟩ := hops ho
    exact List.all_eq_true.1 hd _ (by simp)
  · have e1 : stA s (finS s es).n es (fun _ => true) = finS s es := by
      unfold stA
      rw [Lr_all fun _ _ => rfl]
      obtain ⟨b1, b2⟩ := finS_eq es s
      cases hf : finS s es with
      | mk t h n =>
        rw [hf] at b1 b2
        simp only at b1 b2
        rw [b1, b2]
    rw [e1] at r'
    exact hQ _ _ _ _ _ h3 r'
  · unfold cnt
    have : ∀ n, n ≤ ops.size → (List.range n).countP (fun k => !(Array.replicate ops.size false).getD k false) = n := by
      intro n hn
      rw [List.countP_eq_length.2 fun k hk => ?_]
      · simp
      · have := List.mem_range.1 hk
        simp [show k < ops.size by omega]
    exact this _ (Nat.le_refl _)
  · intro k o hk hA
    have : (Array.replicate ops.size false).getD k false = true := hA
    by_cases hb : k < ops.size <;> simp [hb] at this
  · intro i ei b hei _ hb
    rw [stz]
    have hi : i < ops.size := by
      rw [← hlen]
      rcases Nat.lt_or_ge i es.length with h | h
      · exact h
      · rw [List.getElem?_eq_none h] at hei; cases hei
    obtain ⟨e', he', _, hbb⟩ := t2 i (by simpa using hi)
    rw [hei] at he'; cases he'
    exact r.hp.new b (hbb b hb).1

end Go.Ab
namespace Go.Ab
open Go
variable [Glob]

variable {P : Program} {nt b : Nat}

inductive AEx where
  | normal
  | exit (id : Nat)
  | goto (l : Nat)
  | ret
def AEx.to : AEx → Exit
  | .normal => .normal
  | .exit id => .exit id
  | .goto l => .goto l
  | .ret => .ret

def lift (E : Ent) (nt : Nat) (Q : AEx → AS → Prop) : Exit → Act → World → Prop :=
  fun e a w => ∃ x s φ S, e = x.to ∧ Q x s ∧ R E nt s φ S a w

/-- The code, from a state, comes to what Q says. -/
def awp (P : Program) (nt b : Nat) (c : Code) (Q : AEx → AS → Prop) (s : AS) : Prop :=
  ∀ (E : Ent) (φ : Pm) (S : Nat → Prop) (a : Act) (w : World), E.n = b → R E nt s φ S a w → c.wp P (lift E nt Q) a w

theorem awp_mono {c : Code} {Q Q' : AEx → AS → Prop} {s : AS} (h : awp P nt b c Q s) (hq : ∀ x s, Q x s → Q' x s) : awp P nt b c Q' s :=
  fun E φ S a w he r => wp_mono (h E φ S a w he r) fun _ _ _ ⟨x, s, φ, S, e, q, r⟩ => ⟨x, s, φ, S, e, hq x s q, r⟩

theorem awp_skip {Q : AEx → AS → Prop} {s : AS} (h : Q .normal s) : awp P nt b .skip Q s :=
  fun _ φ S _ _ _ r => wp_skip ⟨.normal, s, φ, S, rfl, h, r⟩
theorem awp_label {l : Nat} {Q : AEx → AS → Prop} {s : AS} (h : Q .normal s) : awp P nt b (.label l) Q s :=
  fun _ φ S _ _ _ r => wp_label ⟨.normal, s, φ, S, rfl, h, r⟩
theorem awp_exit {id : Nat} {Q : AEx → AS → Prop} {s : AS} (h : Q (.exit id) s) : awp P nt b (.exit id) Q s :=
  fun _ φ S _ _ _ r => wp_exit ⟨.exit id, s, φ, S, rfl, h, r⟩
theorem awp_goto {l : Nat} {Q : AEx → AS → Prop} {s : AS} (h : Q (.goto l) s) : awp P nt b (.goto l) Q s :=
  fun _ φ S _ _ _ r => wp_goto ⟨.goto l, s, φ, S, rfl, h, r⟩
theorem awp_ret {Q : AEx → AS → Prop} {s : AS} (h : Q .ret s) : awp P nt b .ret Q s :=
  fun _ φ S _ _ _ r => wp_ret ⟨.ret, s, φ, S, rfl, h, r⟩

def seqQ (k : AS → Prop) (Q : AEx → AS → Prop) : AEx → AS → Prop
  | .normal, s => k s
  | x, s => Q x s
def blkQ (id : Nat) (Q : AEx → AS → Prop) : AEx → AS → Prop
  | .exit i, s => if i = id then Q .normal s else Q (.exit i) s
  | x, s => Q x s

theorem awp_seq {x y : Code} {Q : AEx → AS → Prop} {s : AS} (h : awp P nt b x (seqQ (awp P nt b y Q) Q) s) : awp P nt b (.seq x y) Q s := by
  intro E φ S a w he r
  refine wp_seq (wp_mono (h E φ S a w he r) ?_)
  rintro _ a' w' ⟨x, s', φ', S', rfl, q, r'⟩
  cases x with
  | normal => exact q E φ' S' a' w' he r'
  | exit id => exact ⟨.exit id, s', φ', S', rfl, q, r'⟩
  | goto l => exact ⟨.goto l, s', φ', S', rfl, q, r'⟩
  | ret => exact ⟨.ret, s', φ', S', rfl, q, r'⟩

theorem awp_block {id : Nat} {c : Code} {Q : AEx → AS → Prop} {s : AS} (h : awp P nt b c (blkQ id Q) s) : awp P nt b (.block id c) Q s := by
  intro E φ S a w he r
  refine wp_block (wp_mono (h E φ S a w he r) ?_)
  rintro _ a' w' ⟨x, s', φ', S', rfl, q, r'⟩
  cases x with
  | normal => exact ⟨.normal, s', φ', S', rfl, q, r'⟩
  | exit i =>
    simp only [AEx.to, Exit.inBlock]
    simp only [blkQ] at q
    split
    · rename_i h; rw [if_pos h] at q; exact ⟨.normal, s', φ', S', rfl, q, r'⟩
    · rename_i h; rw [if_neg h] at q; exact ⟨.exit i, s', φ', S', rfl, q, r'⟩
  | goto l => exact ⟨.goto l, s', φ', S', rfl, q, r'⟩
  | ret => exact ⟨.ret, s', φ', S', rfl, q, r'⟩

theorem awp_cond {c : Operand} {x y : Code} {Q : AEx → AS → Prop} {s : AS} {t : Bool} (hc : (aev c).run s = some (.bool t))
    (h1 : t = true → awp P nt b x Q s) (h2 : t = false → awp P nt b y Q s) : awp P nt b (.cond c x y) Q s := by
  intro E φ S a w he r
  have rc := aev_rel r.slots hc
  generalize hv : a.eval c = v at rc
  cases rc
  exact wp_cond_split hv (fun ht => h1 ht E φ S a w he r) (fun ht => h2 ht E φ S a w he r)

/-- A loop: what holds at each round's head, with a measure that falls. -/
theorem awp_loop {c : Code} {Q : AEx → AS → Prop} {s : AS} (I : Nat → AS → Prop) (m0 : Nat) (h0 : I m0 s)
    (round : ∀ m s, I m s → awp P nt b c (seqQ (fun s' => ∃ m', m' < m ∧ I m' s') Q) s) : awp P nt b (.loop c) Q s := by
  intro E φ S a w he r
  refine wp_loop_ghost (fun m a w => ∃ s φ S, I m s ∧ R E nt s φ S a w) m0 ⟨s, φ, S, h0, r⟩ ?_
  rintro m a w ⟨s, φ, S, hI, r⟩
  refine wp_mono (round m s hI E φ S a w he r) ?_
  rintro _ a' w' ⟨x, s', φ', S', rfl, q, r'⟩
  cases x with
  | normal =>
    obtain ⟨m', hlt, hI'⟩ := q
    exact ⟨m', hlt, s', φ', S', hI', r'⟩
  | exit id => exact ⟨.exit id, s', φ', S', rfl, q, r'⟩
  | goto l => exact ⟨.goto l, s', φ', S', rfl, q, r'⟩
  | ret => exact ⟨.ret, s', φ', S', rfl, q, r'⟩

theorem awp_region {z : List Nat} {id : Nat} {ops : Array Oper} {K : AS → Prop} {Q : AEx → AS → Prop} {s : AS} (hK : ∀ s, K s → Q .normal s) (hd : dstOk nt ops.toList = true) (h : wpL P z ops K ops.toList s) : awp P nt b (.region id ops false) Q s := by
  intro E φ S a w _ r
  refine wp_region_list (wpL_sound (Q0 := K) ?_ ops.toList s φ S a w hd r h)
  intro s φ S a w q r
  exact ⟨.normal, s, φ, S, rfl, hK s q, r⟩

theorem awp_drawn {z : List Nat} {id : Nat} {ops : Array Oper} {K : AS → Prop} {Q : AEx → AS → Prop} {s : AS} (hK : ∀ s, K s → Q .normal s) (hm : P.follows .mixedOrders = true) (hd : dstOk nt ops.toList = true)
    (h : wpD P z ops (fun acc s => okD ops acc = true ∧ K s) ops.toList [] s) : awp P nt b (.region id ops true) Q s := by
  intro E φ S a w _ r
  refine wpD_sound (K := K) hm ?_ hd r h
  intro s φ S a w q r
  exact ⟨.normal, s, φ, S, rfl, hK s q, r⟩

/-- a state that says less -/
structure Less (b : Nat) (s0 s : AS) : Prop where
  lo : b ≤ s0.n
  hi : s0.n ≤ s.n
  t : ∀ i, s0.t i = .bot ∨ (s0.t i = s.t i ∧ (s0.t i).lt s0.n)
  h : ∀ i, s0.h i = .dead ∨ (s0.h i = s.h i ∧ i < s0.n ∧ (s0.h i).lt s0.n)

theorem ObjRel.cut {w : World} {S : Nat → Prop} {φ : Pm} {id : Nat} {o : AObj} {n : Nat} (r : ObjRel w S φ id o) (hid : id < n) (h : o.lt n) : ObjRel w S (cutPm φ n) id o := by
  have e : ∀ g, cutPm φ n id g = φ id g := fun g => cutPm_lt hid
  cases o with
  | dead => trivial
  | box cells =>
    obtain ⟨b, cs, h1, h2, h3, h4⟩ := r
    exact ⟨b, cs, by rw [e]; exact h1, h2, h3, fun j hj hj' => (h4 j hj hj').cut (ltL_get h j hj)⟩
  | fbox cells =>
    obtain ⟨b, cs, h1, h2⟩ := r
    exact ⟨b, cs, by rw [e]; exact h1, h2⟩
  | row sz g xs =>
    obtain ⟨h0, h1⟩ := r
    refine ⟨fun g' hg => by rw [e]; exact h0 g' hg, ?_⟩
    rcases h1 with h1 | ⟨b, cap, cs, h1, h2⟩
    · exact .inl (by rw [e]; exact h1)
    · exact .inr ⟨b, cap, cs, by rw [e]; exact h1, h2⟩
  | frow sz g xs =>
    rcases r with h1 | ⟨b, cap, cs, h1, h2⟩
    · exact .inl (by rw [e]; exact h1)
    · exact .inr ⟨b, cap, cs, by rw [e]; exact h1, h2⟩
  | map es => exact r

theorem R.less {E : Ent} {s s0 : AS} {φ : Pm} {S : Nat → Prop} {a : Act} {w : World} (r : R E nt s φ S a w) (l : Less E.n s0 s) : R E nt s0 (cutPm φ s0.n) S a w := by
  have hl : ∀ id b, LiveAt (cutPm φ s0.n) s0.h id b → LiveAt φ s.h id b := fun id b ⟨g, sz, cap, h1, h2⟩ => by
    rcases l.h id with h | ⟨h, hid, _⟩
    · rw [h] at h1; cases h1
    · rw [cutPm_lt hid] at h2
      exact ⟨g, sz, cap, by rw [← h]; exact h1, h2⟩
  have hle : (cutPm φ s0.n).le φ := fun id g p hp => by
    unfold cutPm at hp; split at hp
    · exact hp
    · cases hp
  refine ⟨r.sz, r.df, fun t => ?_, ⟨fun id => ?_, fun id id' b h1 h2 => r.hp.inj id id' b (hl _ _ h1) (hl _ _ h2), fun id b h => r.hp.sep id b (hl _ _ h), r.hp.bnd, fun id hid => ?_, r.hp.glob⟩, ?_, l.lo, r.eh⟩
  · rcases l.t t with h | ⟨h, h'⟩
    · rw [h]; exact .bot
    · have := r.ts t
      rw [← h] at this
      exact this.cut h'
  · rcases l.h id with h | ⟨h, hid, h'⟩
    · rw [h]; trivial
    · have := r.hp.obj id
      rw [← h] at this
      exact this.cut hid h'
  · refine ⟨?_, fun g => by simp [cutPm]; omega⟩
    rcases l.h id with h | ⟨h, hid', _⟩
    · exact h
    · omega
  · refine ⟨r.st.os, r.st.tape, r.st.out, r.st.size, r.st.sub, fun id g p hp => ?_, r.st.keep, r.st.from_, fun id k h => r.st.live id k (hl id k h)⟩
    have : id < E.n := by
      rcases Nat.lt_or_ge id E.n with h | h
      · exact h
      · rw [r.eh id h g] at hp; cases hp
    rw [cutPm_lt (Nat.lt_of_lt_of_le this l.lo)]
    exact r.st.le id g p hp

theorem awp_less {c : Code} {Q : AEx → AS → Prop} {s : AS} (s0 : AS) (l : Less b s0 s) (h : awp P nt b c Q s0) : awp P nt b c Q s :=
  fun E φ S a w he r => h E _ S a w he (r.less (he ▸ l))

/-! ### a function's body -/
def argT (l : List AV) : Nat → AV := fun t => l.getD t .bot
def ares1 (P : Program) (s : AS) : ResultVar → Option AV
  | .tmp t => some (s.t t)
  | .cell a t => ((aload P t (s.t a)).run s).map (·.1)
def ares (P : Program) (s : AS) : List ResultVar → Option (List AV)
  | [] => some []
  | x :: xs => match ares1 P s x, ares P s xs with | some v, some vs => some (v :: vs) | _, _ => none
def mkRes : List AV → AV
  | [v] => v
  | vs => .tup vs

theorem ares_run {E : Ent} {s : AS} {φ : Pm} {S : Nat → Prop} {a : Act} {w : World} (r : R E nt s φ S a w) : ∀ {xs : List ResultVar} {vs : List AV}, ares P s xs = some vs →
    ∃ us, (xs.mapM (fun | .tmp t => pure (a.tmps.getD t undef) | .cell c t => do loadVar t (← asAddr (a.tmps.getD c undef)) : ResultVar → Sem Value)).run P w = .ok us w ∧ vs.length = us.length ∧
      ∀ j (h : j < vs.length) (h' : j < us.length), Rel w S φ vs[j] us[j]
  | [], vs, h => by
    simp only [ares, Option.some.injEq] at h
    subst h
    exact ⟨[], rfl, rfl, fun j h => by simp at h⟩
  | x :: xs, vs, h => by
    rw [ares] at h
    split at h
    · rename_i v vs' h1 h2
      cases h
      obtain ⟨us, g1, g2, g3⟩ := ares_run r h2
      have hx : ∃ u, ((fun | .tmp t => pure (a.tmps.getD t undef) | .cell c t => do loadVar t (← asAddr (a.tmps.getD c undef)) : ResultVar → Sem Value) x).run P w = .ok u w ∧ Rel w S φ v u := by
        cases x with
        | tmp t =>
          simp only [ares1, Option.some.injEq] at h1
          subst h1
          exact ⟨_, rfl, r.ts t⟩
        | cell c t =>
          simp only [ares1] at h1
          cases hl : (aload P t (s.t c)).run s with
          | none => rw [hl] at h1; cases h1
          | some p =>
            obtain ⟨v', ws⟩ := p
            rw [hl] at h1
            simp only [Option.map_some, Option.some.injEq] at h1
            subst h1
            obtain ⟨_, u, q1, q2⟩ := aload_val r.hp hl (r.ts c)
            refine ⟨u, ?_, q2⟩
            have q3 := q1
            simp only [Instr.loadAt, Sem.run_bind] at q1 ⊢
            cases hv : a.tmps.getD c undef with
            | pointer p =>
              cases p with
              | none => rw [hv] at q1; cases q1
              | some ad => rw [hv] at q1; exact q1
            | _ => rw [hv] at q1; cases q1
      obtain ⟨u, e1, e2⟩ := hx
      refine ⟨u :: us, ?_, by simp [g2], fun j h h' => ?_⟩
      · rw [List.mapM_cons]
        simp only [Sem.run_bind, e1, Result.andThen, g1, Sem.run_pure]
      · cases j with
        | zero => exact e2
        | succ j => exact g3 j (by simpa using h) (by simpa using h')
    · cases h

theorem results_run {E : Ent} {s : AS} {φ : Pm} {S : Nat → Prop} {a : Act} {w : World} (r : R E nt s φ S a w) {fn : Func} {vs : List AV} (h : ares P s fn.results.toList = some vs) :
    ∃ u, (results fn a.tmps).run P w = .ok u w ∧ Rel w S φ (mkRes vs) u := by
  obtain ⟨us, g1, g2, g3⟩ := ares_run r h
  have e : (results fn a.tmps).run P w = .ok (if h : us.toArray.size = 1 then us.toArray[0] else .tuple us.toArray) w := by
    unfold results
    rw [Array.mapM_eq_mapM_toList]
    simp only [Sem.run_bind, Sem.run_map]
    refine Eq.trans (congrArg (fun r : Result (List Value) => (r.andThen fun a w' => Result.ok a.toArray w').andThen fun a w' => Sem.run P (Pure.pure (if h : a.size = 1 then a[0] else Value.tuple a)) w') g1) ?_
    rfl
  refine ⟨_, e, ?_⟩
  match vs, us, g2, g3 with
  | [], [], _, _ => exact .tup rfl (fun i h => by simp at h)
  | [v], [u], _, g3 => exact g3 0 (by simp) (by simp)
  | v :: v' :: vs, u :: u' :: us, g2, g3 =>
    rw [dif_neg (by simp)]
    exact .tup (by simpa using g2) (fun i h h' => by simpa using g3 i h (by simpa using h'))

def resK (r : Option (List AV)) (Q : AV → (Nat → AObj) → Nat → Prop) (s : AS) : Prop :=
  match r with
  | some vs => Q (mkRes vs) s.h s.n
  | none => False
def bodyQ (P : Program) (rs : Array ResultVar) (Q : AV → (Nat → AObj) → Nat → Prop) : AEx → AS → Prop
  | .normal, s | .ret, s => resK (ares P s rs.toList) Q s
  | _, _ => False

theorem acall_body {f : FuncId} {fn : Func} {c : Code} {args : List AV} {h : Nat → AObj} {n : Nat} {Q : AV → (Nat → AObj) → Nat → Prop}
    (hf : P.funcs[f]? = some fn) (hn : (fn.name == "runtime.NumGoroutine") = false) (hb : fn.body = some c) (hl : args.length ≤ fn.ntmps)
    (hw : awp P fn.ntmps n c (bodyQ P fn.results Q) ⟨argT args, h, n⟩) : ACall P f args h n Q := by
  refine ⟨⟨fn, hf, hn, by rw [hb]; rfl⟩, fun w S φ vs H hlen hrel => ?_⟩
  refine calls_of_wp hf hb ?_
  have r : R ⟨w, S, φ, h, n⟩ fn.ntmps ⟨argT args, h, n⟩ φ S { tmps := vs ++ Array.replicate (fn.ntmps - vs.size) undef, defers := [] } w := by
    refine ⟨by simp; omega, rfl, fun t => ?_, H, GStep.refl _ _ _ _, Nat.le_refl _, fun id hid => (H.new id hid).2⟩
    by_cases ht : t < args.length
    · have e1 : argT args t = args[t] := by simp [argT, List.getD, ht]
      have e2 : (vs ++ Array.replicate (fn.ntmps - vs.size) undef).getD t undef = vs[t]'(by omega) := by
        rw [Array.getD_eq_getD_getElem?, Array.getElem?_append_left (by omega)]
        simp [show t < vs.size by omega]
      show Rel w S φ (argT args t) ((vs ++ Array.replicate (fn.ntmps - vs.size) undef).getD t undef)
      rw [e1, e2]
      exact hrel t ht (by omega)
    · have e1 : argT args t = .bot := by simp [argT, List.getD, ht]
      show Rel w S φ (argT args t) _
      rw [e1]; exact .bot
  refine wp_mono (hw _ φ S _ w rfl r) ?_
  rintro _ a' w' ⟨x, s', φ', S', rfl, q, r'⟩
  have fin : resK (ares P s' fn.results.toList) Q s' → a'.defers = [] ∧ ∃ v, (results fn a'.tmps).run P w' = .ok v w' ∧
      ∃ v0 r h' n' φ' S', Ending.returned v = .returned v0 ∧ Q r h' n' ∧ HeapOK w' S' φ' h' n' ∧ n ≤ n' ∧ GStep w S φ h w' S' φ' h' ∧ Rel w' S' φ' r v0 := by
    intro hk
    have ⟨us, h1, h2⟩ : ∃ us, ares P s' fn.results.toList = some us ∧ Q (mkRes us) s'.h s'.n := by
      unfold resK at hk
      split at hk
      · exact ⟨_, ‹_›, hk⟩
      · exact hk.elim
    obtain ⟨u, g1, g2⟩ := results_run r' h1
    exact ⟨r'.df, u, g1, u, mkRes us, s'.h, s'.n, φ', S', rfl, h2, r'.hp, r'.en, r'.st, g2⟩
  cases x with
  | normal => exact fin q
  | ret => exact fin q
  | exit id => exact q.elim
  | goto l => exact q.elim

/-! ### a walk through code, as a reckoning -/
inductive Kt where
  | seq (c : Code)
  | blk (id : Nat)
  | fin (R : AS → Prop)

/-- what is owed once the piece in hand has ended -/
def KQ (P : Program) (nt b : Nat) (Q : AEx → AS → Prop) : List Kt → AEx → AS → Prop
  | [] => Q
  | .seq c :: ks => seqQ (awp P nt b c (KQ P nt b Q ks)) (KQ P nt b Q ks)
  | .blk id :: ks => blkQ id (KQ P nt b Q ks)
  | .fin R :: ks => seqQ R (KQ P nt b Q ks)

def norm (g : Code → List Kt → AS → Prop) (Q : AEx → AS → Prop) : List Kt → AS → Prop
  | [], s => Q .normal s
  | .seq c :: ks, s => g c ks s
  | .blk _ :: ks, s => norm g Q ks s
  | .fin R :: _, s => R s
def exitK (g : Code → List Kt → AS → Prop) (Q : AEx → AS → Prop) (id : Nat) : List Kt → AS → Prop
  | [], s => Q (.exit id) s
  | .blk i :: ks, s => if id = i then norm g Q ks s else exitK g Q id ks s
  | .seq _ :: ks, s => exitK g Q id ks s
  | .fin _ :: ks, s => exitK g Q id ks s
def condG (v : AV) (g : Code → List Kt → AS → Prop) (x y : Code) (ks : List Kt) (s : AS) : Prop :=
  match v with
  | .bool t => (t = true → g x ks s) ∧ (t = false → g y ks s)
  | _ => False
/-- what is not walked by itself -/
def LoopG (P : Program) (nt b : Nat) (z : List Nat) (Q : AEx → AS → Prop) (c : Code) (ks : List Kt) (s : AS) : Prop := z = z ∧ awp P nt b c (KQ P nt b Q ks) s
def okK (ops : Array Oper) (g : Code → List Kt → AS → Prop) (Q : AEx → AS → Prop) (ks : List Kt) (acc : List Rec) (s : AS) : Prop := okD ops acc = true ∧ norm g Q ks s

/-- every temporary that is written is one of the frame's -/
def codeOk (nt : Nat) : Code → Bool
  | .region _ ops _ => dstOk nt ops.toList
  | .seq x y => codeOk nt x && codeOk nt y
  | .cond _ x y => codeOk nt x && codeOk nt y
  | .block _ x => codeOk nt x
  | .loop x => codeOk nt x
  | _ => true
def ksOk (nt : Nat) : List Kt → Bool
  | [] => true
  | .seq c :: ks => codeOk nt c && ksOk nt ks
  | _ :: ks => ksOk nt ks

def go (P : Program) (nt b : Nat) (z : List Nat) (Q : AEx → AS → Prop) : Nat → Code → List Kt → AS → Prop
  | 0, _, _, _ => False
  | f + 1, .skip, ks, s => norm (go P nt b z Q f) Q ks s
  | f + 1, .label _, ks, s => norm (go P nt b z Q f) Q ks s
  | f + 1, .region _ ops false, ks, s => wpL P z ops (norm (go P nt b z Q f) Q ks) ops.toList s
  | f + 1, .region _ ops true, ks, s => wpD P z ops (okK ops (go P nt b z Q f) Q ks) ops.toList [] s
  | f + 1, .seq x y, ks, s => go P nt b z Q f x (.seq y :: ks) s
  | f + 1, .cond c x y, ks, s => condG (ev s c) (go P nt b z Q f) x y ks s
  | f + 1, .block id x, ks, s => go P nt b z Q f x (.blk id :: ks) s
  | _ + 1, .ret, _, s => Q .ret s
  | f + 1, .exit id, ks, s => exitK (go P nt b z Q f) Q id ks s
  | _ + 1, c, ks, s => LoopG P nt b z Q c ks s

theorem KQ_ret {Q : AEx → AS → Prop} {s : AS} : ∀ {ks : List Kt}, Q .ret s → KQ P nt b Q ks .ret s
  | [], h => h
  | .seq _ :: ks, h => KQ_ret (ks := ks) h
  | .blk _ :: ks, h => KQ_ret (ks := ks) h
  | .fin _ :: ks, h => KQ_ret (ks := ks) h
theorem norm_ok {g : Code → List Kt → AS → Prop} {Q : AEx → AS → Prop} (hg : ∀ c ks s, codeOk nt c = true → ksOk nt ks = true → g c ks s → awp P nt b c (KQ P nt b Q ks) s) {s : AS} : ∀ {ks : List Kt}, ksOk nt ks = true → norm g Q ks s → KQ P nt b Q ks .normal s
  | [], _, h => h
  | .seq _ :: _, hk, h => by rw [ksOk, Bool.and_eq_true] at hk; exact hg _ _ _ hk.1 hk.2 h
  | .blk _ :: ks, hk, h => norm_ok (ks := ks) hg hk h
  | .fin _ :: _, _, h => h
theorem exitK_ok {g : Code → List Kt → AS → Prop} {Q : AEx → AS → Prop} (hg : ∀ c ks s, codeOk nt c = true → ksOk nt ks = true → g c ks s → awp P nt b c (KQ P nt b Q ks) s) {s : AS} {id : Nat} : ∀ {ks : List Kt}, ksOk nt ks = true → exitK g Q id ks s → KQ P nt b Q ks (.exit id) s
  | [], _, h => h
  | .seq _ :: ks, hk, h => by rw [ksOk, Bool.and_eq_true] at hk; exact exitK_ok (ks := ks) hg hk.2 h
  | .fin _ :: ks, hk, h => exitK_ok (ks := ks) hg hk h
  | .blk i :: ks, hk, h => by
    rw [exitK] at h
    show if id = i then KQ P nt b Q ks .normal s else KQ P nt b Q ks (.exit id) s
    split
    · rw [if_pos ‹_›] at h; exact norm_ok hg hk h
    · rw [if_neg ‹_›] at h; exact exitK_ok (ks := ks) hg hk h

theorem go_sound (hm : P.follows .mixedOrders = true) {z : List Nat} {Q : AEx → AS → Prop} : ∀ (f : Nat) (c : Code) (ks : List Kt) (s : AS), codeOk nt c = true → ksOk nt ks = true → go P nt b z Q f c ks s → awp P nt b c (KQ P nt b Q ks) s
  | 0, _, _, _, _, _, h => h.elim
  | f + 1, c, ks, s, hc, hk, h => by
    have IH := go_sound hm (z := z) (Q := Q) f
    cases c with
    | skip => exact awp_skip (norm_ok IH hk h)
    | label l => exact awp_label (norm_ok IH hk h)
    | region id ops d =>
      cases d with
      | false => exact awp_region (fun _ h => norm_ok IH hk h) hc h
      | true => exact awp_drawn (K := fun s => norm (go P nt b z Q f) Q ks s) (fun _ h => norm_ok IH hk h) hm hc h
    | seq x y =>
      rw [codeOk, Bool.and_eq_true] at hc
      exact awp_seq (IH _ _ _ hc.1 (by rw [ksOk, hc.2, hk]; rfl) h)
    | cond c x y =>
      rw [codeOk, Bool.and_eq_true] at hc
      have h : condG (ev s c) (go P nt b z Q f) x y ks s := h
      unfold condG at h
      split at h
      · rename_i t ht
        exact awp_cond (by rw [aev_eq, ht]) (fun e => IH _ _ _ hc.1 hk (h.1 e)) (fun e => IH _ _ _ hc.2 hk (h.2 e))
      · exact h.elim
    | block id x => exact awp_block (IH x (.blk id :: ks) _ hc hk h)
    | ret => exact awp_ret (KQ_ret h)
    | exit id => exact awp_exit (exitK_ok IH hk h)
    | _ => exact h.2

/-! the loop's rule: a state for each p of a family, that says no more than it must -/
theorem loopG (hm : P.follows .mixedOrders = true) {z : List Nat} {Q : AEx → AS → Prop} {x : Code} {ks : List Kt} {s : AS} {α : Type} (st : α → AS) (J : α → Prop) (μ : α → Nat) (p0 : α) (f : Nat) (hx : codeOk nt x = true) (hk : ksOk nt ks = true) (h0 : J p0) (l0 : Less b (st p0) s)
    (round : ∀ p, J p → go P nt b z Q f x (.fin (fun s' => ∃ p', J p' ∧ μ p' < μ p ∧ Less b (st p') s') :: ks) (st p)) : LoopG P nt b z Q (.loop x) ks s := by
  refine ⟨rfl, awp_loop (fun m s => ∃ p, J p ∧ μ p = m ∧ Less b (st p) s) (μ p0) ⟨p0, h0, rfl, l0⟩ ?_⟩
  rintro m s ⟨p, hp, rfl, hl⟩
  refine awp_less _ hl ?_
  refine awp_mono (go_sound hm _ _ (.fin (fun s' => ∃ p', J p' ∧ μ p' < μ p ∧ Less b (st p') s') :: ks) _ hx hk (round p hp)) ?_
  intro y s' h
  cases y with
  | normal => obtain ⟨p', h1, h2, h3⟩ := h; exact ⟨_, h2, p', h1, rfl, h3⟩
  | exit id => exact h
  | goto l => exact h
  | ret => exact h

theorem acall_go (hm : P.follows .mixedOrders = true) {f : FuncId} {fn : Func} {c : Code} {args : List AV} {h : Nat → AObj} {n nt : Nat} {rs : Array ResultVar} {Q : AV → (Nat → AObj) → Nat → Prop} (z : List Nat) (fuel : Nat)
    (hf : P.funcs[f]? = some fn) (ht : fn.ntmps = nt) (hr : fn.results = rs) (hn : (fn.name == "runtime.NumGoroutine") = false) (hb : fn.body = some c) (hl : args.length ≤ nt) (hc : codeOk nt c = true)
    (hw : go P nt n z (bodyQ P rs Q) fuel c [] ⟨argT args, h, n⟩) : ACall P f args h n Q := by
  subst ht; subst hr
  exact acall_body hf hn hb hl (go_sound hm _ _ _ _ hc rfl hw)

theorem apure_go (hm : P.follows .mixedOrders = true) {f : FuncId} {fn : Func} {c : Code} {args : List AV} {r : AV} {nt : Nat} {rs : Array ResultVar} (z : List Nat) (fuel : Nat)
    (hf : P.funcs[f]? = some fn) (ht : fn.ntmps = nt) (hr : fn.results = rs) (hn : (fn.name == "runtime.NumGoroutine") = false) (hb : fn.body = some c) (hl : args.length ≤ nt) (hc : codeOk nt c = true)
    (hw : go P nt 0 z (bodyQ P rs fun r' _ _ => r' = r ∧ r.lt 0) fuel c [] ⟨argT args, dead, 0⟩) : APure P f args r :=
  acall_go hm z fuel hf ht hr hn hb hl hc hw

end Go.Ab
