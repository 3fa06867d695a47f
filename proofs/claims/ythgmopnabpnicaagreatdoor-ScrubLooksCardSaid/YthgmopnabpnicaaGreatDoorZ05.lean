import Derived.Test.YthgmopnabpnicaaGreatDoorZ04
set_option linter.all false
namespace Go.Ab
open Go
variable [Glob]

variable {P : Program}

/-! ### numbers of objects that a value names -/
mutual
def AV.lt (n : Nat) : AV → Prop
  | .ptr id _ => id < n
  | .rptr id _ _ _ => id < n
  | .row id _ _ _ => id < n
  | .bsl id _ _ _ => id < n
  | .mp id => id < n
  | .fn _ fi ca => ltL n fi ∧ ltL n ca
  | .iface _ v => v.lt n
  | .agg cs => ltL n cs
  | .tup cs => ltL n cs
  | _ => True
def ltL (n : Nat) : List AV → Prop
  | [] => True
  | x :: xs => x.lt n ∧ ltL n xs
end
def AObj.lt (n : Nat) : AObj → Prop
  | .box cs => ltL n cs
  | _ => True

theorem ltL_get {n : Nat} : ∀ {xs : List AV}, ltL n xs → ∀ j (h : j < xs.length), (xs[j]).lt n
  | x :: xs, hl, 0, _ => by rw [ltL] at hl; exact hl.1
  | x :: xs, hl, j + 1, h => by rw [ltL] at hl; exact ltL_get hl.2 j (by simpa using h)

def cutPm (φ : Pm) (n : Nat) : Pm := fun id g => if id < n then φ id g else none
theorem cutPm_lt {φ : Pm} {n id g : Nat} (h : id < n) : cutPm φ n id g = φ id g := by simp [cutPm, h]

theorem Rel.cut {w : World} {S : Nat → Prop} {φ : Pm} {x : AV} {v : Value} {n : Nat} (r : Rel w S φ x v) (h : x.lt n) : Rel w S (cutPm φ n) x v := by
  induction r with
  | bot => exact .bot
  | bool => exact .bool
  | int => exact .int
  | str => exact .str
  | nilp => exact .nilp
  | ptr hp => exact .ptr (by rw [cutPm_lt (by simpa [AV.lt] using h)]; exact hp)
  | rptr hp => exact .rptr (by rw [cutPm_lt (by simpa [AV.lt] using h)]; exact hp)
  | cp V hs hc ho hr _ => exact .cp V hs hc ho hr
  | gp => exact .gp
  | nils => exact .nils
  | slnil => exact .slnil
  | sl V hs hcap hsz hc ho hr _ => exact .sl V hs hcap hsz hc ho hr
  | rownil hp => exact .rownil (by rw [cutPm_lt (by simpa [AV.lt] using h)]; exact hp)
  | row hp hl ho => exact .row (by rw [cutPm_lt (by simpa [AV.lt] using h)]; exact hp) hl ho
  | bsl hp => exact .bsl (by rw [cutPm_lt (by simpa [AV.lt] using h)]; exact hp)
  | fn h1 _ h3 _ ih1 ih2 =>
    rw [AV.lt] at h
    exact .fn h1 (fun i hi hi' => ih1 i hi hi' (ltL_get h.1 i hi)) h3 (fun i hi hi' => ih2 i hi hi' (ltL_get h.2 i hi))
  | nilf => exact .nilf
  | iface _ ih => rw [AV.lt] at h; exact .iface (ih h)
  | nili => exact .nili
  | agg h1 _ ih => rw [AV.lt] at h; exact .agg h1 (fun i hi hi' => ih i hi hi' (ltL_get h i hi))
  | tup h1 _ ih => rw [AV.lt] at h; exact .tup h1 (fun i hi hi' => ih i hi hi' (ltL_get h i hi))
  | nilm => exact .nilm
  | mp hp => exact .mp (by rw [cutPm_lt (by simpa [AV.lt] using h)]; exact hp)

/-- how it stood when the function was entered -/
structure Ent where
  w : World
  S : Nat → Prop
  φ : Pm
  h : Nat → AObj
  n : Nat

structure R (E : Ent) (nt : Nat) (s : AS) (φ : Pm) (S : Nat → Prop) (a : Act) (w : World) : Prop where
  sz : a.tmps.size = nt
  df : a.defers = []
  ts : ∀ t, Rel w S φ (s.t t) (a.tmps.getD t undef)
  hp : HeapOK w S φ s.h s.n
  st : GStep E.w E.S E.φ E.h w S φ s.h
  en : E.n ≤ s.n
  eh : ∀ id, E.n ≤ id → ∀ g, E.φ id g = none

theorem R.slots {E : Ent} {nt : Nat} {s : AS} {φ : Pm} {S : Nat → Prop} {a : Act} {w : World} (r : R E nt s φ S a w) : Slots w S φ s.t a.eval :=
  ⟨r.ts, fun _ => rfl, fun _ => rfl, fun _ => rfl⟩

def AS.put (s : AS) (d : Option Tmp) (v : AV) : AS :=
  match d with
  | some d => { s with t := upd s.t d v }
  | none => s

theorem R.put {E : Ent} {nt : Nat} {s : AS} {φ : Pm} {S : Nat → Prop} {a : Act} {w : World} (r : R E nt s φ S a w) {d : Option Tmp} {v : AV} {x : Value}
    (hd : d.all (· < nt) = true) (hv : Rel w S φ v x) : R E nt (s.put d v) φ S (a.put d x) w := by
  cases d with
  | none => exact r
  | some d =>
    have hd' : d < nt := by simpa using hd
    refine ⟨by simp [Act.put, r.sz], r.df, fun t => ?_, r.hp, r.st, r.en, r.eh⟩
    by_cases e : t = d
    · subst e
      have : (a.put (some t) x).tmps.getD t undef = x := by
        simp [Act.put, Array.getD, r.sz, hd']
      rw [this]
      simp only [AS.put, upd_same]
      exact hv
    · have : (a.put (some d) x).tmps.getD t undef = a.tmps.getD t undef := by
        simp only [Act.put, Array.getD_eq_getD_getElem?]
        rw [Array.getElem?_setIfInBounds_ne (fun h => e h.symm)]
      rw [this]
      simp only [AS.put, upd_ne _ _ e]
      exact r.ts t

/-- the heap has gone on -/
theorem R.heap {E : Ent} {nt : Nat} {s : AS} {φ φ' : Pm} {S S' : Nat → Prop} {a : Act} {w w' : World} (r : R E nt s φ S a w) {h' : Nat → AObj} {n' : Nat} (hn : s.n ≤ n')
    (hp : HeapOK w' S' φ' h' n') (st : GStep w S φ s.h w' S' φ' h') : R E nt { s with h := h', n := n' } φ' S' a w' :=
  ⟨r.sz, r.df, fun t => st.rel r.hp (r.ts t), hp, r.st.trans st, Nat.le_trans r.en hn, r.eh⟩

/-- A call, from however the memory stands. -/
def ACall (P : Program) (f : FuncId) (args : List AV) (h : Nat → AObj) (n : Nat) (Q : AV → (Nat → AObj) → Nat → Prop) : Prop :=
  (∃ fn, P.funcs[f]? = some fn ∧ (fn.name == "runtime.NumGoroutine") = false ∧ fn.body.isNone = false) ∧
  ∀ (w : World) (S : Nat → Prop) (φ : Pm) (vs : Array Value), HeapOK w S φ h n → args.length = vs.size →
    (∀ j (h1 : j < args.length) (h2 : j < vs.size), Rel w S φ args[j] vs[j]) →
    Calls P f vs w fun e w' => ∃ v r h' n' φ' S', e = .returned v ∧ Q r h' n' ∧ HeapOK w' S' φ' h' n' ∧ n ≤ n' ∧ GStep w S φ h w' S' φ' h' ∧ Rel w' S' φ' r v

theorem ACall.mono {f : FuncId} {args : List AV} {h : Nat → AObj} {n : Nat} {Q Q' : AV → (Nat → AObj) → Nat → Prop} (hc : ACall P f args h n Q) (hq : ∀ r h n, Q r h n → Q' r h n) : ACall P f args h n Q' :=
  ⟨hc.1, fun w S φ vs H hl hr => (hc.2 w S φ vs H hl hr).mono fun _ _ ⟨v, r, h', n', φ', S', a1, a2, a3⟩ => ⟨v, r, h', n', φ', S', a1, hq _ _ _ a2, a3⟩⟩

/-- which function is called, and with what -/
def acallee (f : Operand) (args : List Operand) : RM (FuncId × List AV) :=
  (aev f).bind fun v => (aevs args).bind fun vs => match v with
    | .fn (.func k) fi ca => .ret (k, fi ++ vs ++ ca)
    | _ => .fail

def aguard (ops : Array Oper) (s : AS) (o : Oper) : Option Bool :=
  match o.guard with
  | none => some true
  | some (j, want) => match (ops[j]?).bind (·.dst) with
    | some d => match s.t d with
      | .bool b => some (b == want)
      | .tup [] => some false
      | _ => none
    | none => none

def AS.after (s : AS) (o : Option Tmp) (v : AV) (ws : List W) : AS :=
  { (s.app ws) with n := s.n + 1 }.put o v

/-- what is known of a guard -/
def gK (b : Option Bool) (x y : Prop) : Prop :=
  match b with
  | some b => (b = true → x) ∧ (b = false → y)
  | none => False
def oK (r : Option (AV × List W)) (k : AV → List W → Prop) : Prop :=
  match r with
  | some (v, ws) => k v ws
  | none => False
def cK (r : Option (FuncId × List AV)) (k : FuncId → List AV → Prop) : Prop :=
  match r with
  | some (f, vs) => k f vs
  | none => False

/-- the callee and the arguments, if the operation is a call of a function -/
def Op.callOf : Op → Option (Operand × List Operand)
  | .call { callee := .value f, args, .. } => some (f, args.toList)
  | _ => none

/-- is what is told there frozen? -/
def zf (z : List Nat) (d : Option Tmp) : Bool := match d with | some d => z.contains d | none => false
def fzR (z : Bool) (r : AV) (s : AS) : Option (AV × List W) := if z = true then (frzX r).run s else some (r, [])

/-- a region in the order of the text -/
def wpL (P : Program) (z : List Nat) (ops : Array Oper) (Q : AS → Prop) : List Oper → AS → Prop
  | [], s => Q s
  | o :: r, s =>
    gK (aguard ops s o)
      (match Op.callOf o.op with
        | some (f, args) => cK ((acallee f args).run s) fun k vs => ACall P k vs s.h s.n fun r' h' n' =>
            oK (fzR (zf z o.dst) r' { s with h := h', n := n' }) fun v ws => wpL P z ops Q r ((({ s with h := h', n := n' } : AS).app ws).put o.dst v)
        | none => oK (fzO P s.n (zf z o.dst) o.op s) fun v ws => wpL P z ops Q r (s.after o.dst v ws))
      (wpL P z ops Q r (s.put o.dst (.tup [])))

def dstOk (nt : Nat) (l : List Oper) : Bool := l.all fun o => o.dst.all (· < nt)

theorem aguard_ok {E : Ent} {nt : Nat} {s : AS} {φ : Pm} {S : Nat → Prop} {a : Act} {w : World} (r : R E nt s φ S a w) {ops : Array Oper} {o : Oper} {b : Bool} (h : aguard ops s o = some b) :
    Region.wanted o (yielded ops a.tmps) = b := by
  unfold aguard at h
  unfold Region.wanted
  cases hg : o.guard with
  | none => rw [hg] at h; cases h; rfl
  | some p =>
    obtain ⟨j, want⟩ := p
    rw [hg] at h
    simp only at h ⊢
    cases hd : (ops[j]?).bind (·.dst) with
    | none => rw [hd] at h; cases h
    | some d =>
      rw [hd] at h
      simp only at h
      have rt := r.ts d
      have hy : yielded ops a.tmps j = match a.tmps[d]? with | some (.bool b) => some b | _ => none := by
        unfold yielded; rw [hd]; rfl
      split at h
      · rename_i b' hb
        cases h
        rw [hb] at rt
        generalize hx : a.tmps.getD d undef = x at rt
        cases rt
        have : a.tmps[d]? = some (.bool b') := by
          rw [Array.getD_eq_getD_getElem?] at hx
          cases hq : a.tmps[d]? with
          | none => rw [hq] at hx; cases hx
          | some y => rw [hq] at hx; simp at hx; rw [hx]
        rw [hy, this]
        cases b' <;> cases want <;> rfl
      · rename_i hb
        cases h
        rw [hb] at rt
        generalize hx : a.tmps.getD d undef = x at rt
        cases rt with
        | tup h1 h2 =>
          rename_i vs
          have : ∀ b, a.tmps[d]? ≠ some (.bool b) := fun b hq => by
            rw [Array.getD_eq_getD_getElem?, hq] at hx; cases hx
          rw [hy]
          cases hq : a.tmps[d]? with
          | none => rfl
          | some y =>
            cases y <;> first | rfl | exact absurd hq (this _)
      · cases h

theorem undef_rel {w : World} {S : Nat → Prop} {φ : Pm} : Rel w S φ (.tup []) undef := .tup rfl (fun i h => by simp at h)

theorem acallee_run {s : AS} {f : Operand} {args : List Operand} {k : FuncId} {vs : List AV} (h : (acallee f args).run s = some (k, vs)) :
    ∃ fi ca us, (aev f).run s = some (.fn (.func k) fi ca) ∧ (aevs args).run s = some us ∧ vs = fi ++ us ++ ca := by
  unfold acallee at h
  obtain ⟨v, e1, h⟩ := bind_some h
  obtain ⟨us, e2, h⟩ := bind_some h
  split at h
  · simp only [run_ret, Option.some.injEq, Prod.mk.injEq] at h
    obtain ⟨rfl, rfl⟩ := h
    exact ⟨_, _, us, e1, e2, rfl⟩
  · cases h

theorem call_wp0 {E : Ent} {nt : Nat} {s : AS} {φ : Pm} {S : Nat → Prop} {a : Act} {w : World} (r : R E nt s φ S a w) {o : Oper} {f : Operand} {args : Array Operand} {ts : Array TypeId} {k : FuncId} {vs : List AV}
    (ho : o.op = .call { callee := .value f, args, argTypes := ts }) (e : (acallee f args.toList).run s = some (k, vs))
    (hc : ∃ fn, P.funcs[k]? = some fn ∧ (fn.name == "runtime.NumGoroutine") = false ∧ fn.body.isNone = false)
    {K : Act → World → Prop} {Q : Exit → Act → World → Prop}
    (hcall : ∀ us : Array Value, vs.length = us.size → (∀ j (h1 : j < vs.length) (h2 : j < us.size), Rel w S φ vs[j] us[j]) → Calls P k us w fun e w' => ∃ x, e = .returned x ∧ K (a.put o.dst x) w') : o.wp P a w K Q := by
  obtain ⟨fi, ca, us, e1, e2, rfl⟩ := acallee_run e
  have rf := aev_rel r.slots e1
  obtain ⟨l1, l2⟩ := aevs_rel r.slots e2
  obtain ⟨fn, q1, q2, q3⟩ := hc
  generalize hf : a.eval f = fv at rf
  cases rf with
  | @fn _ _ _ _ gi gc h1 h2 h3 h4 =>
    have hrun : (execOp a.eval o).run P w = .ok (.enter k (gi ++ args.map a.eval ++ gc)) w := by
      unfold execOp
      simp only [ho, resolve, hf, Deferred.ofValue, Sem.run_bind, Sem.run_pure, Result.andThen, invoke, callFunc, run_program, q1, q2, q3, Bool.false_eq_true, if_false]
    unfold Oper.wp
    rw [hrun]
    simp only [Oper.upon]
    have hlen : (fi ++ us ++ ca).length = (gi ++ args.map a.eval ++ gc).size := by
      simp only [List.length_append, Array.size_append, Array.size_map, h1, h3, l1, Array.length_toList]
    refine (hcall _ hlen fun j hj hj' => ?_).mono ?_
    · have hal : args.toList.length = args.size := Array.length_toList
      have e5 : (gi ++ args.map a.eval ++ gc)[j] = (gi.toList ++ (args.toList.map a.eval) ++ gc.toList)[j]'(by simp at hj' ⊢; omega) := by
        have : (gi ++ args.map a.eval ++ gc).toList = gi.toList ++ (args.toList.map a.eval) ++ gc.toList := by simp
        rw [← Array.getElem_toList]
        simp only [this]
      rw [e5]
      by_cases c1 : j < fi.length
      · rw [List.getElem_append_left (by simp; omega), List.getElem_append_left (by omega), List.getElem_append_left (by simp; omega), List.getElem_append_left (by simp; omega)]
        simpa using h2 j c1 (by omega)
      · by_cases c2 : j < fi.length + us.length
        · rw [List.getElem_append_left (by simp; omega), List.getElem_append_right (by omega), List.getElem_append_left (by simp; omega), List.getElem_append_right (by simp; omega)]
          have := l2 (j - fi.length) (by omega) (by omega)
          simp only [List.getElem_map, Array.length_toList, ← h1]
          exact this
        · rw [List.getElem_append_right (by simp; omega), List.getElem_append_right (by simp; omega)]
          simp only [List.length_append] at hj
          have := h4 (j - (fi ++ us).length) (by simp; omega) (by simp at hj' ⊢; omega)
          simp only [List.length_append, List.length_map, Array.length_toList, ← h1, ← l1] at this ⊢
          simpa using this
    · rintro e w' ⟨x, rfl, hx⟩
      exact hx

theorem call_wp {E : Ent} {nt : Nat} {s : AS} {φ : Pm} {S : Nat → Prop} {a : Act} {w : World} (r : R E nt s φ S a w) {o : Oper} {f : Operand} {args : Array Operand} {ts : Array TypeId} {k : FuncId} {vs : List AV}
    (ho : o.op = .call { callee := .value f, args, argTypes := ts }) (e : (acallee f args.toList).run s = some (k, vs)) {Q0 : AV → (Nat → AObj) → Nat → Prop} (hc : ACall P k vs s.h s.n Q0)
    {K : Act → World → Prop} {Q : Exit → Act → World → Prop}
    (hK : ∀ r' h' n' φ' S' w' x, Q0 r' h' n' → R E nt { s with h := h', n := n' } φ' S' a w' → Rel w' S' φ' r' x → K (a.put o.dst x) w') : o.wp P a w K Q :=
  call_wp0 r ho e hc.1 fun us h1 h2 => (hc.2 w S φ us r.hp h1 h2).mono fun _ _ ⟨v, r', h', n', φ', S', q, a2, a3, a4, a5, a6⟩ =>
    ⟨v, q, hK r' h' n' φ' S' _ v a2 (r.heap a4 a3 a5) a6⟩

theorem R.frz {E : Ent} {nt : Nat} {s : AS} {φ : Pm} {S : Nat → Prop} {a : Act} {w : World} (r : R E nt s φ S a w) {x y : AV} {us : List W} {v : Value}
    (e : (frzX x).run s = some (y, us)) (hx : Rel w S φ x v) : ∃ S', R E nt (s.app us) φ S' a w ∧ Rel w S' φ y v := by
  obtain ⟨a1, a2⟩ := frzX_ok e
  obtain ⟨S1, H1, T1⟩ := freezeAll2 r.hp a1
  obtain ⟨b1, b2⟩ := app_frz2 a1
  refine ⟨S1, ⟨r.sz, r.df, fun t => ?_, ?_, r.st.trans T1.g, ?_, r.eh⟩, a2 H1 T1.sub b1 b2 hx⟩
  · have := app_t (VF2_HW a1) s
    rw [this]; exact T1.rel r.hp (r.ts t)
  · rw [app_n]; exact H1
  · rw [app_n]; exact r.en

theorem R.fzR {E : Ent} {nt : Nat} {s : AS} {φ : Pm} {S : Nat → Prop} {a : Act} {w : World} (r : R E nt s φ S a w) {z : Bool} {x y : AV} {us : List W} {v : Value}
    (e : fzR z x s = some (y, us)) (hx : Rel w S φ x v) : ∃ S', R E nt (s.app us) φ S' a w ∧ Rel w S' φ y v := by
  unfold Go.Ab.fzR at e
  split at e
  · exact r.frz e hx
  · cases e; exact ⟨S, r, hx⟩

/-- an operation that is no call -/
theorem op_wp {E : Ent} {nt : Nat} {s : AS} {φ : Pm} {S : Nat → Prop} {a : Act} {w : World} (r : R E nt s φ S a w) {o : Oper} {b n' : Nat} {z : Bool} {v : AV} {ws : List W}
    (hb : Fr φ s.h b ∧ s.n ≤ n') (hn : b < n') (e : fzO P b z o.op s = some (v, ws)) {K : Act → World → Prop} {Q : Exit → Act → World → Prop} (hd : o.dst.all (· < nt) = true)
    (hK : ∀ a' φ' S' w', R E nt ({ (s.app ws) with n := n' }.put o.dst v) φ' S' a' w' → Tame φ s.h φ' (s.app ws).h → K a' w') : o.wp P a w K Q := by
  obtain ⟨hw, nx, w', S', φ', e1, e2, e3, e4⟩ := fzO_good r.slots r.hp hb hn e
  unfold Oper.wp
  rw [e1]
  have r1 : R E nt { s with h := (s.app ws).h, n := n' } φ' S' a w' := r.heap hb.2 e2 e3.g
  have r2 : R E nt { (s.app ws) with n := n' } φ' S' a w' := by
    have : ({ (s.app ws) with n := n' } : AS) = { s with h := (s.app ws).h, n := n' } := by
      have := app_t hw s
      cases hs : s.app ws
      rw [hs] at this
      simp only at this
      rw [this]
    rw [this]; exact r1
  rcases e4 with ⟨x, rfl, hx⟩ | ⟨rfl, rfl⟩
  · exact hK _ _ _ _ (r2.put hd hx) e3.tame
  · exact hK _ _ _ _ (r2.put hd .bot) e3.tame

theorem wpL_sound {E : Ent} {nt : Nat} {z : List Nat} {ops : Array Oper} {Q0 : AS → Prop} {Q : Exit → Act → World → Prop} (hQ : ∀ s φ S a w, Q0 s → R E nt s φ S a w → Q .normal a w) :
    ∀ (l : List Oper) (s : AS) (φ : Pm) (S : Nat → Prop) (a : Act) (w : World), dstOk nt l = true → R E nt s φ S a w → wpL P z ops Q0 l s → wpList P ops Q l a w
  | [], s, φ, S, a, w, _, r, h => hQ s φ S a w h r
  | o :: l, s, φ, S, a, w, hd, r, h => by
    simp only [dstOk, List.all_cons, Bool.and_eq_true] at hd
    have IH := fun s φ S a w => wpL_sound (z := z) (ops := ops) hQ l s φ S a w hd.2
    rw [wpL] at h
    unfold gK at h
    split at h
    case h_2 => exact h.elim
    rename_i b hb
    have hw := aguard_ok r hb
    unfold wpList
    rw [hw]
    cases b with
    | false =>
      simp only [Bool.false_eq_true, if_false]
      exact IH _ _ _ _ _ (r.put hd.1 undef_rel) (h.2 rfl)
    | true =>
      simp only [if_true]
      have h := h.1 rfl
      left
      split at h
      · rename_i f args ho
        unfold cK at h
        split at h
        · rename_i k vs e
          have ho' : ∃ as ts, o.op = .call { callee := .value f, args := as, argTypes := ts } ∧ as.toList = args := by
            unfold Op.callOf at ho
            split at ho
            · rename_i as ts hop
              simp only [Option.some.injEq, Prod.mk.injEq] at ho
              obtain ⟨rfl, rfl⟩ := ho
              exact ⟨_, _, hop, rfl⟩
            · cases ho
          obtain ⟨as, ts, ho', rfl⟩ := ho'
          refine call_wp r ho' e h fun r' h' n' φ' S' w' x q1 q2 q3 => ?_
          unfold oK at q1
          split at q1
          · rename_i v ws e'
            obtain ⟨S1, r1, r2⟩ := q2.fzR e' q3
            exact IH _ _ _ _ _ (r1.put hd.1 r2) q1
          · exact q1.elim
        · exact h.elim
      · unfold oK at h
        split at h
        · rename_i v ws e
          exact op_wp r ⟨r.hp.new _ (Nat.le_refl _), Nat.le_succ _⟩ (Nat.lt_succ_self _) e hd.1 fun a' φ' S' w' r' _ => IH _ _ _ _ _ r' h
        · exact h.elim

/-! ### calls that lead to no memory of the caller's -/
def dead : Nat → AObj := fun _ => .dead

/-- A call that leads to no memory of its caller's, and tells r. -/
def APure (P : Program) (f : FuncId) (args : List AV) (r : AV) : Prop := ACall P f args dead 0 fun r' _ _ => r' = r ∧ r.lt 0

theorem cut0 (φ : Pm) : cutPm φ 0 = pm0 := by funext id g; simp [cutPm, pm0]

theorem APure.callX {f : FuncId} {args : List AV} {r : AV} (hp : APure P f args r) (ha : ltL 0 args) {w : World} {S : Nat → Prop} {φ : Pm} {h : Nat → AObj} {n : Nat} {vs : Array Value}
    (H : HeapOK w S φ h n) (hl : args.length = vs.size) (hr : ∀ j (h1 : j < args.length) (h2 : j < vs.size), Rel w S φ args[j] vs[j]) :
    Calls P f vs w fun e w' => ∃ v S', e = .returned v ∧ HeapOK w' S' φ h n ∧ GStep w S φ h w' S' φ h ∧ Rel w' S' φ r v := by
  have H0 : HeapOK w S pm0 dead 0 := ⟨fun _ => trivial, (fun id id' b ⟨g, _, _, h1, _⟩ => by cases h1), (fun id b ⟨g, _, _, h1, _⟩ => by cases h1), H.bnd, (fun id _ => ⟨rfl, fun _ => rfl⟩), H.glob⟩
  refine (hp.2 w S pm0 vs H0 hl fun j h1 h2 => ?_).mono ?_
  · have := (hr j h1 h2).cut (ltL_get ha j h1)
    rw [cut0] at this
    exact this
  · rintro e w' ⟨v, r', h', n', φ', S', rfl, ⟨rfl, hlt⟩, a3, a4, a5, a6⟩
    have hk : ∀ k, k < w.heap.size → w'.heap[k]? = w.heap[k]? := fun k hk => a5.keep k hk fun id ⟨g, _, _, h1, _⟩ => by cases h1
    have hS : ∀ k, S' k → S k ∨ w.heap.size ≤ k := fun k hk => by
      rcases a5.from_ k hk with h | ⟨id, g, _, _, h1, _⟩ | h
      · exact .inl h
      · cases h1
      · exact .inr h
    have hsep : ∀ id b, LiveAt φ h id b → ¬ S' b := fun id b hl hs => by
      rcases hS b hs with h1 | h1
      · exact H.sep id b hl h1
      · have := H.live_lt hl; omega
    refine ⟨v, S', rfl, ⟨fun id => ?_, H.inj, hsep, a3.bnd, H.new, a3.glob⟩, ?_, ?_⟩
    · exact (H.obj id).mono (fun b hb => hk b (H.bnd b hb)) a5.sub (Pm.le_refl _) (fun _ => rfl) fun g b sz cap h1 h2 => hk b ((H.obj id).live_lt h1 h2)
    · refine ⟨a5.os, a5.tape, a5.out, a5.size, a5.sub, Pm.le_refl _, fun k h1 _ => hk k h1, fun k h1 => ?_, fun id k h1 => .inl ⟨id, h1⟩⟩
      rcases hS k h1 with h2 | h2
      · exact .inl h2
      · exact .inr (.inr h2)
    · have := a6.cut hlt
      rw [cut0] at this
      exact this.mono (fun _ _ => rfl) (fun _ h => h) (pm0_le _)

theorem APure.call {f : FuncId} {args : List AV} {r : AV} (hp : APure P f args r) (ha : ltL 0 args) {h : Nat → AObj} {n : Nat} {Q : AV → (Nat → AObj) → Nat → Prop} (hq : Q r h n) : ACall P f args h n Q :=
  ⟨hp.1, fun _ S φ _ H hl hr => (hp.callX ha H hl hr).mono fun _ _ ⟨v, S', e, h1, h2, h3⟩ => ⟨v, r, h, n, φ, S', e, hq, h1, Nat.le_refl _, h2, h3⟩⟩

end Go.Ab
namespace Go.Ab
open Go
variable [Glob]

variable {P : Program}

def ev (s : AS) : Operand → AV
  | .tmp t => s.t t
  | .const v => ofV v
  | .global g => .gp g 0
  | .func f => .fn (.func f) [] []
theorem aev_eq {s : AS} (x : Operand) : (aev x).run s = some (ev s x) := by cases x <;> rfl

/-! ### what an operation looks at -/
/-- every look is at a temporary of T, or at an object of H -/
def RM.Sub {α : Type} (T H : List Nat) (s : AS) : RM α → Prop
  | .ret _ => True
  | .fail => True
  | .t n k => n ∈ T ∧ (k (s.t n)).Sub T H s
  | .h n k => n ∈ H ∧ (k (s.h n)).Sub T H s

theorem RM.Sub.run_eq {α : Type} {T H : List Nat} {s s' : AS} (hT : ∀ t, t ∈ T → s'.t t = s.t t) (hH : ∀ i, i ∈ H → s'.h i = s.h i) : ∀ {m : RM α}, m.Sub T H s → m.run s' = m.run s
  | .ret _, _ => rfl
  | .fail, _ => rfl
  | .t n k, e => by
    have h1 := hT n e.1
    show (k (s'.t n)).run s' = (k (s.t n)).run s
    rw [h1]; exact RM.Sub.run_eq hT hH e.2
  | .h n k, e => by
    have h1 := hH n e.1
    show (k (s'.h n)).run s' = (k (s.h n)).run s
    rw [h1]; exact RM.Sub.run_eq hT hH e.2

theorem RM.Sub.bind {α β : Type} {T H : List Nat} {s : AS} {f : α → RM β} : ∀ {m : RM α}, m.Sub T H s → (∀ a, m.run s = some a → (f a).Sub T H s) → (m.bind f).Sub T H s
  | .ret a, _, e => e a rfl
  | .fail, _, _ => trivial
  | .t n k, h1, e => ⟨h1.1, RM.Sub.bind h1.2 fun a q => e a q⟩
  | .h n k, h1, e => ⟨h1.1, RM.Sub.bind h1.2 fun a q => e a q⟩

variable {T H : List Nat} {s : AS}
theorem sub_guard {α : Type} {c : Prop} [Decidable c] {x : RM α} (h : c → x.Sub T H s) : (guardA c x).Sub T H s := by
  unfold guardA; split
  · exact h ‹_›
  · trivial
theorem sub_val (v : AV) : (val v).Sub T H s := trivial
theorem sub_valO (v : Option AV) : (valO v).Sub T H s := by cases v <;> trivial

def tmpOf : Operand → List Nat
  | .tmp t => [t]
  | _ => []
theorem sub_aev {x : Operand} (h : ∀ t, t ∈ tmpOf x → t ∈ T) : (aev x).Sub T H s := by
  cases x <;> first | trivial | exact ⟨h _ (by simp [tmpOf]), trivial⟩
theorem sub_aevs : ∀ {xs : List Operand}, (∀ t, t ∈ xs.flatMap tmpOf → t ∈ T) → (aevs xs).Sub T H s
  | [], _ => trivial
  | x :: xs, h => by
    rw [aevs]
    exact (sub_aev fun t ht => h t (by simp [ht])).bind fun v _ => (sub_aevs fun t ht => h t (by rw [List.flatMap_cons]; exact List.mem_append.2 (.inr ht))).bind fun _ _ => trivial
theorem sub_aevL : ∀ {xs : List (Nat × Operand)}, (∀ t, t ∈ xs.flatMap (fun p => tmpOf p.2) → t ∈ T) → (aevL xs).Sub T H s
  | [], _ => trivial
  | (i, x) :: xs, h => by
    rw [aevL]
    exact (sub_aev fun t ht => h t (by simp [ht])).bind fun v _ => (sub_aevL fun t ht => h t (by rw [List.flatMap_cons]; exact List.mem_append.2 (.inr ht))).bind fun _ _ => trivial

def ids1 : AV → List Nat
  | .ptr id _ | .rptr id _ _ _ | .row id _ _ _ | .bsl id _ _ _ | .mp id => [id]
  | _ => []

theorem sub_frz {x : AV} (h : ∀ i, i ∈ ids1 x → i ∈ H) : (frz x).Sub T H s := by
  unfold frz
  split
  · refine ⟨h _ (by simp [ids1]), ?_⟩
    dsimp only
    split <;> first | exact sub_guard fun _ => trivial | trivial
  · exact sub_guard fun _ => trivial
theorem sub_frz1 {x : AV} (h : ∀ i, i ∈ ids1 x → i ∈ H) : (frz1 x).Sub T H s := by
  unfold frz1
  split
  · refine ⟨h _ (by simp [ids1]), ?_⟩
    dsimp only
    split <;> first | exact sub_guard fun _ => trivial | trivial
  · exact sub_frz h
theorem sub_frzL : ∀ {xs : List AV}, (∀ i, i ∈ xs.flatMap ids1 → i ∈ H) → (frzL xs).Sub T H s
  | [], _ => trivial
  | x :: xs, h => by
    rw [frzL]
    exact (sub_frz fun t ht => h t (by simp [ht])).bind fun v _ => (sub_frzL fun t ht => h t (by rw [List.flatMap_cons]; exact List.mem_append.2 (.inr ht))).bind fun _ _ => trivial
theorem sub_frzM {f : AV → RM (AV × List W)} {ids : AV → List Nat} (hf : ∀ x, (∀ i, i ∈ ids x → i ∈ H) → (f x).Sub T H s) : ∀ {xs : List AV}, (∀ i, i ∈ xs.flatMap ids → i ∈ H) → (frzM f xs).Sub T H s
  | [], _ => trivial
  | x :: xs, h => by
    rw [frzM]
    exact (hf x fun t ht => h t (by simp [ht])).bind fun v _ => (sub_frzM hf fun t ht => h t (by rw [List.flatMap_cons]; exact List.mem_append.2 (.inr ht))).bind fun _ _ => trivial
def ids2 : AV → List Nat
  | .agg cs => cs.flatMap ids1
  | .fn _ fi ca => fi.flatMap ids1 ++ ca.flatMap ids1
  | x => ids1 x
def idsX : AV → List Nat
  | .tup vs => vs.flatMap ids2
  | .iface _ v => ids2 v
  | x => ids2 x
theorem sub_frz2 {x : AV} (h : ∀ i, i ∈ ids2 x → i ∈ H) : (frz2 x).Sub T H s := by
  unfold frz2
  split
  · exact (sub_frzM (fun _ h => sub_frz1 h) h).bind fun _ _ => trivial
  · exact (sub_frzM (fun _ h => sub_frz1 h) fun i hi => h i (by simp only [ids2]; exact List.mem_append.2 (.inl hi))).bind fun _ _ =>
      (sub_frzM (fun _ h => sub_frz1 h) fun i hi => h i (by simp only [ids2]; exact List.mem_append.2 (.inr hi))).bind fun _ _ => trivial
  · rename_i h1 h2
    refine sub_frz1 fun i hi => h i ?_
    unfold ids2
    split
    · exact (h1 _ rfl).elim
    · exact (h2 _ _ _ rfl).elim
    · exact hi
theorem sub_frzX {x : AV} (h : ∀ i, i ∈ idsX x → i ∈ H) : (frzX x).Sub T H s := by
  unfold frzX
  split
  · exact (sub_frzM (fun _ h => sub_frz2 h) h).bind fun _ _ => trivial
  · exact (sub_frz2 h).bind fun _ _ => trivial
  · rename_i h1 h2
    refine sub_frz2 fun i hi => h i ?_
    unfold idsX
    split
    · exact (h1 _ rfl).elim
    · exact (h2 _ _ rfl).elim
    · exact hi

theorem sub_content {m : Nat} {x : AV} (h : ∀ i, i ∈ ids1 x → i ∈ H) : (content m x).Sub T H s := by
  unfold content
  split
  · trivial
  · exact sub_guard fun _ => trivial
  · refine ⟨h _ (by simp [ids1]), ?_⟩
    dsimp only
    split <;> first | exact sub_guard fun _ => trivial | trivial
  · refine ⟨h _ (by simp [ids1]), ?_⟩
    dsimp only
    split <;> first | exact sub_guard fun _ => trivial | trivial
  · trivial
theorem sub_addend {m : Nat} {x : AV} (h : ∀ i, i ∈ ids1 x → i ∈ H) : (addend m x).Sub T H s := by
  unfold addend
  split
  · exact sub_guard fun _ => trivial
  · exact sub_content h
theorem sub_aload {t : TypeId} {x : AV} (h : ∀ i, i ∈ ids1 x → i ∈ H) : (aload P t x).Sub T H s := by
  unfold aload
  split
  · split
    · refine ⟨h _ (by simp [ids1]), ?_⟩
      dsimp only
      split <;> first | exact sub_guard fun _ => sub_valO _ | trivial
    · refine ⟨h _ (by simp [ids1]), ?_⟩
      dsimp only
      split <;> first | exact sub_guard fun _ => sub_valO _ | trivial
    · exact sub_guard fun _ => sub_valO _
    · split
      · exact sub_guard fun _ => sub_valO _
      · trivial
    · trivial
  · trivial
theorem sub_astore {t : TypeId} {x y : AV} (h : ∀ i, i ∈ ids1 x → i ∈ H) : (astore P t x y).Sub T H s := by
  unfold astore
  split
  · split
    · refine ⟨h _ (by simp [ids1]), ?_⟩
      dsimp only
      split <;> first | exact sub_guard fun _ => trivial | trivial
    · refine ⟨h _ (by simp [ids1]), ?_⟩
      dsimp only
      split <;> first | exact sub_guard fun _ => trivial | trivial
    · trivial
  · trivial
theorem sub_aslice {t : TypeId} {x : AV} {lo hi : Option AV} (h : ∀ i, i ∈ ids1 x → i ∈ H) : (aslice P t x lo hi).Sub T H s := by
  unfold aslice
  repeat' (first | trivial | exact sub_guard fun _ => sub_val _ | (refine ⟨h _ (by simp [ids1]), ?_⟩; dsimp only) | split)
theorem sub_aindexAddr {t : TypeId} {x i : AV} (h : ∀ i, i ∈ ids1 x → i ∈ H) : (aindexAddr P t x i).Sub T H s := by
  unfold aindexAddr
  repeat' (first | trivial | exact sub_guard fun _ => sub_val _ | (refine ⟨h _ (by simp [ids1]), ?_⟩; dsimp only) | split)
theorem sub_aindex {t : TypeId} {x i : AV} : (aindex P t x i).Sub T H s := by
  unfold aindex
  repeat' (first | trivial | exact sub_guard fun _ => sub_val _ | exact sub_guard fun _ => sub_valO _ | split)
theorem sub_aconvert {b : Nat} {src dst : TypeId} {x : AV} (h : ∀ i, i ∈ ids1 x → i ∈ H) : (aconvert P b src dst x).Sub T H s := by
  unfold aconvert
  repeat' (first | trivial | exact sub_val _ | exact (sub_content h).bind fun _ _ => (by split <;> trivial) | split)
theorem sub_aappend {b : Nat} {t t' : TypeId} {x y : AV} (h : ∀ i, i ∈ ids1 x → i ∈ H) (h' : ∀ i, i ∈ ids1 y → i ∈ H) : (aappend P b t t' x y).Sub T H s := by
  unfold aappend
  split
  · refine (sub_addend h').bind fun ys _ => ?_
    split
    · exact sub_guard fun _ => trivial
    · refine ⟨h _ (by simp [ids1]), ?_⟩
      unfold apRow
      split
      · exact sub_guard fun _ => trivial
      · trivial
    · trivial
  · trivial
theorem sub_acopy {t : TypeId} {x y : AV} (h : ∀ i, i ∈ ids1 x → i ∈ H) (h' : ∀ i, i ∈ ids1 y → i ∈ H) : (acopy P t x y).Sub T H s := by
  unfold acopy
  split
  · refine (sub_addend h').bind fun ys _ => ?_
    split
    · refine ⟨h _ (by simp [ids1]), ?_⟩
      dsimp only
      split
      · exact sub_guard fun _ => trivial
      · trivial
    · refine ⟨h _ (by simp [ids1]), ?_⟩
      dsimp only
      split
      · exact sub_guard fun _ => trivial
      · trivial
    · trivial
  · trivial

/-! the temporaries, and the objects -/
def opdsOf : Op → List Operand
  | .move x | .assign x => [x]
  | .pick c x y => [c, x, y]
  | .box _ x => [x]
  | .build _ ps => ps.toList.map (·.2)
  | .buildSlice _ _ ps => ps.toList.map (·.2)
  | .load _ a => [a]
  | .store _ a x => [a, x]
  | .nilCheck x => [x]
  | .binOp _ _ x y _ => [x, y]
  | .unOp _ _ x => [x]
  | .convert _ _ x => [x]
  | .makeFunc _ fi ca => fi.toList ++ ca.toList
  | .makeSlice _ l c => [l, c]
  | .slice _ x lo hi _ => x :: (lo.toList ++ hi.toList)
  | .fieldAddr _ x _ => [x]
  | .field _ x _ => [x]
  | .indexAddr _ x i => [x, i]
  | .index _ x i => [x, i]
  | .extract x _ => [x]
  | .call { callee := .builtin _, args, .. } => args.toList
  | .call { callee := .value f, args, .. } => f :: args.toList
  | _ => []
def tmpsOf (op : Op) : List Nat := (opdsOf op).flatMap tmpOf
def rdIds (op : Op) (s : AS) : List Nat :=
  match op with
  | .buildSlice _ _ ps => ps.toList.flatMap fun p => (ev s p.2).cells.flatMap ids1
  | .load _ a => ids1 (ev s a)
  | .store _ a _ => ids1 (ev s a)
  | .convert _ _ x => ids1 (ev s x)
  | .slice _ x _ _ _ => ids1 (ev s x)
  | .indexAddr _ x _ => ids1 (ev s x)
  | .call { callee := .builtin .len, .. } => []
  | .call { callee := .builtin _, args, .. } => args.toList.flatMap fun x => ids1 (ev s x)
  | _ => []

theorem aevs_ids : ∀ {xs : List Operand} {vs : List AV}, (aevs xs).run s = some vs → ∀ v, v ∈ vs → ∀ i, i ∈ ids1 v → i ∈ xs.flatMap fun x => ids1 (ev s x)
  | [], vs, e, v, hv, i, hi => by simp only [aevs, run_ret, Option.some.injEq] at e; subst e; cases hv
  | x :: xs, vs, e, v, hv, i, hi => by
    rw [aevs] at e
    obtain ⟨a, e1, e⟩ := bind_some e
    obtain ⟨as, e2, e⟩ := bind_some e
    simp only [run_ret, Option.some.injEq] at e
    subst e
    rw [aev_eq, Option.some.injEq] at e1
    rw [List.flatMap_cons]
    cases hv with
    | head => exact List.mem_append.2 (.inl (e1 ▸ hi))
    | tail _ hv => exact List.mem_append.2 (.inr (aevs_ids e2 v hv i hi))
theorem aevL_ids : ∀ {xs : List (Nat × Operand)} {vs : List (Nat × AV)}, (aevL xs).run s = some vs → ∀ p, p ∈ vs → ∀ i, i ∈ p.2.cells.flatMap ids1 → i ∈ xs.flatMap fun p => (ev s p.2).cells.flatMap ids1
  | [], vs, e, v, hv, i, hi => by simp only [aevL, run_ret, Option.some.injEq] at e; subst e; cases hv
  | (k, x) :: xs, vs, e, v, hv, i, hi => by
    rw [aevL] at e
    obtain ⟨a, e1, e⟩ := bind_some e
    obtain ⟨as, e2, e⟩ := bind_some e
    simp only [run_ret, Option.some.injEq] at e
    subst e
    rw [aev_eq, Option.some.injEq] at e1
    rw [List.flatMap_cons]
    cases hv with
    | head => exact List.mem_append.2 (.inl (e1 ▸ hi))
    | tail _ hv => exact List.mem_append.2 (.inr (aevL_ids e2 v hv i hi))

theorem setL_mem {x : AV} : ∀ {vs cs : List AV} {off : Nat}, x ∈ setL cs off vs → x ∈ cs ∨ x ∈ vs
  | [], cs, off, h => .inl h
  | v :: vs, cs, off, h => by
    rw [setL] at h
    rcases setL_mem h with h1 | h1
    · rcases List.mem_or_eq_of_mem_set h1 with h2 | h2
      · exact .inl h2
      · exact .inr (by simp [h2])
    · exact .inr (by simp [h1])
theorem afill_mem {places : Nat → Option (Nat × Nat)} {x : AV} : ∀ {vs : List (Nat × AV)} {cs ys : List AV}, afill places cs vs = some ys → x ∈ ys → x ∈ cs ∨ ∃ p, p ∈ vs ∧ x ∈ p.2.cells
  | [], cs, ys, e, h => by simp only [afill, Option.some.injEq] at e; subst e; exact .inl h
  | (i, v) :: vs, cs, ys, e, h => by
    rw [afill] at e
    split at e
    · cases e
    · split at e
      · rcases afill_mem e h with h1 | ⟨p, h1, h2⟩
        · rcases setL_mem h1 with h2 | h2
          · exact .inl h2
          · exact .inr ⟨(i, v), by simp, h2⟩
        · exact .inr ⟨p, by simp [h1], h2⟩
      · cases e
theorem ofV1_ids (v : Value) : ids1 (ofV1 v) = [] := by
  unfold ofV1; split <;> rfl
theorem zero_ids {t : TypeId} {z : List AV} (h : tZero P t = some z) : ∀ x, x ∈ z → ids1 x = [] := by
  unfold tZero at h
  cases hi : P.info? t with
  | none => rw [hi] at h; cases h
  | some i =>
    rw [hi] at h
    simp only [Option.bind_some] at h
    cases hz : i.zero with
    | none => rw [hz] at h; cases h
    | some v =>
      rw [hz] at h
      simp only [Option.map_some, Option.some.injEq] at h
      subst h
      intro x hx
      obtain ⟨y, _, rfl⟩ := List.mem_map.1 hx
      exact ofV1_ids y

theorem sub_abuiltin {b : Nat} {f : Builtin} {ts : List TypeId} {vs : List AV} (h : f ≠ .len → ∀ v, v ∈ vs → ∀ i, i ∈ ids1 v → i ∈ H) : (abuiltin P b f ts vs).Sub T H s := by
  unfold abuiltin
  split
  · exact sub_valO _
  · exact sub_aappend (h (by simp) _ (by simp)) (h (by simp) _ (by simp))
  · exact sub_acopy (h (by simp) _ (by simp)) (h (by simp) _ (by simp))
  · exact sub_valO _
  · exact sub_valO _
  · trivial

theorem sub_op {b : Nat} {op : Op} (hT : ∀ t, t ∈ tmpsOf op → t ∈ T) (hH : ∀ i, i ∈ rdIds op s → i ∈ H) : (aopV P b op).Sub T H s := by
  have ht : ∀ x, x ∈ opdsOf op → (aev x).Sub T H s := fun x hx => sub_aev fun t h => hT t (List.mem_flatMap.2 ⟨x, hx, h⟩)
  unfold aopV
  split
  all_goals try (exact trivial)
  all_goals try (exact (ht _ (by simp [opdsOf])).bind fun _ _ => trivial)
  case h_3 =>
    refine (ht _ (by simp [opdsOf])).bind fun v _ => ?_
    split
    · exact (ht _ (by simp [opdsOf])).bind fun _ _ => (ht _ (by simp [opdsOf])).bind fun _ _ => trivial
    · trivial
  case h_4 => split <;> trivial
  case h_5 => exact (ht _ (by simp [opdsOf])).bind fun _ _ => sub_guard fun _ => trivial
  case h_6 => exact (sub_aevL fun t h => hT t (by simpa [tmpsOf, opdsOf, List.flatMap_map] using h)).bind fun _ _ => sub_guard fun _ => sub_valO _
  case h_7 t n ps =>
    refine (sub_aevL fun t h => hT t (by simpa [tmpsOf, opdsOf, List.flatMap_map] using h)).bind fun vs e1 => ?_
    split
    · split
      · rename_i z hz
        split
        · rename_i cs hf
          refine sub_guard fun _ => (sub_frzL fun i hi => hH i ?_).bind fun _ _ => trivial
          obtain ⟨x, hx, hxi⟩ := List.mem_flatMap.1 hi
          rcases afill_mem hf hx with h1 | ⟨p, h1, h2⟩
          · obtain ⟨l, h3, h4⟩ := List.mem_flatten.1 h1
            rw [List.eq_of_mem_replicate h3] at h4
            rw [zero_ids hz x h4] at hxi; cases hxi
          · exact aevL_ids e1 p h1 i (List.mem_flatMap.2 ⟨x, h2, hxi⟩)
        · trivial
      · trivial
    · trivial
  case h_8 => exact (ht _ (by simp [opdsOf])).bind fun v e => sub_aload fun i hi => hH i (by rw [aev_eq, Option.some.injEq] at e; simpa [rdIds, e] using hi)
  case h_9 => exact (ht _ (by simp [opdsOf])).bind fun v e => (ht _ (by simp [opdsOf])).bind fun _ _ => sub_astore fun i hi => hH i (by rw [aev_eq, Option.some.injEq] at e; simpa [rdIds, e] using hi)
  case h_10 =>
    refine (ht _ (by simp [opdsOf])).bind fun v _ => ?_
    split <;> trivial
  case h_11 => exact (ht _ (by simp [opdsOf])).bind fun v _ => (ht _ (by simp [opdsOf])).bind fun _ _ => sub_valO _
  case h_12 => exact (ht _ (by simp [opdsOf])).bind fun v _ => sub_valO _
  case h_13 => exact (ht _ (by simp [opdsOf])).bind fun v e => sub_aconvert fun i hi => hH i (by rw [aev_eq, Option.some.injEq] at e; simpa [rdIds, e] using hi)
  case h_14 => exact (sub_aevs fun t h => hT t (by simp only [tmpsOf, opdsOf, List.flatMap_append]; exact List.mem_append.2 (.inl h))).bind fun _ _ => (sub_aevs fun t h => hT t (by simp only [tmpsOf, opdsOf, List.flatMap_append]; exact List.mem_append.2 (.inr h))).bind fun _ _ => trivial
  case h_15 =>
    refine (ht _ (by simp [opdsOf])).bind fun v _ => (ht _ (by simp [opdsOf])).bind fun _ _ => ?_
    repeat' (first | trivial | exact sub_guard fun _ => trivial | split)
  case h_16 =>
    refine (ht _ (by simp [opdsOf])).bind fun v e => ?_
    have hi' : ∀ i, i ∈ ids1 v → i ∈ H := fun i hi => hH i (by rw [aev_eq, Option.some.injEq] at e; simpa [rdIds, e] using hi)
    split
    · exact sub_aslice hi'
    · exact (ht _ (by simp [opdsOf])).bind fun _ _ => sub_aslice hi'
    · exact (ht _ (by simp [opdsOf])).bind fun _ _ => sub_aslice hi'
    · exact (ht _ (by simp [opdsOf])).bind fun _ _ => (ht _ (by simp [opdsOf])).bind fun _ _ => sub_aslice hi'
  case h_17 =>
    refine (ht _ (by simp [opdsOf])).bind fun v _ => ?_
    split
    · refine sub_guard fun _ => ?_
      split <;> trivial
    · trivial
  case h_18 =>
    refine (ht _ (by simp [opdsOf])).bind fun v _ => ?_
    split
    · exact sub_guard fun _ => sub_valO _
    · trivial
  case h_19 => exact (ht _ (by simp [opdsOf])).bind fun v e => (ht _ (by simp [opdsOf])).bind fun _ _ => sub_aindexAddr fun i hi => hH i (by rw [aev_eq, Option.some.injEq] at e; simpa [rdIds, e] using hi)
  case h_20 => exact (ht _ (by simp [opdsOf])).bind fun v _ => (ht _ (by simp [opdsOf])).bind fun _ _ => sub_aindex
  case h_21 =>
    refine (ht _ (by simp [opdsOf])).bind fun v _ => ?_
    split
    · exact sub_valO _
    · trivial
  case h_22 f args ts =>
    refine (sub_aevs fun t h => hT t (by simpa [tmpsOf, opdsOf] using h)).bind fun vs e => sub_abuiltin fun hne v hv i hi => hH i ?_
    have := aevs_ids e v hv i hi
    cases f <;> first | exact absurd rfl hne | exact this

end Go.Ab
namespace Go.Ab
open Go
variable [Glob]

variable {P : Program} {z : List Nat} {ops : Array Oper}

/-! ### a region whose order is drawn -/
structure Rec where
  b : Option Nat
  rd : List Nat
  wr : List Nat
  hw : Bool
structure Eff where
  b : Option Nat
  rd : List Nat
  ws : List W
  hw : Bool
  deriving Inhabited

def hwB : List W → Bool
  | [] => true
  | .h _ _ :: r => hwB r
  | .t _ _ :: _ => false

def whs : List W → List Nat
  | [] => []
  | .t _ _ :: r => whs r
  | .h i _ :: r => i :: whs r
def Eff.rec_ (e : Eff) : Rec := ⟨e.b, e.rd, whs e.ws, e.hw⟩
def dstW (d : Option Tmp) (v : AV) : List W := match d with | some d => [.t d v] | none => []
def rdF (P : Program) (b : Nat) (z : Bool) (op : Op) (s : AS) : List Nat :=
  rdIds op s ++ (if z = true then match (aopV P b op).run s with | some (v, _) => idsX v | none => [] else [])

/-- the walk in the text's order, with what each operation looked at and wrote -/
def wpD (P : Program) (z : List Nat) (ops : Array Oper) (K : List Rec → AS → Prop) : List Oper → List Rec → AS → Prop
  | [], acc, s => K acc s
  | o :: r, acc, s =>
    gK (aguard ops s o)
      (match Op.callOf o.op with
        | some (f, args) => cK ((acallee f args).run s) fun k vs => ∃ r', APure P k vs r' ∧ ltL 0 vs ∧ wpD P z ops K r (⟨none, [], [], true⟩ :: acc) (s.put o.dst r')
        | none => oK (fzO P s.n (zf z o.dst) o.op s) fun v ws => wpD P z ops K r (⟨some s.n, rdF P s.n (zf z o.dst) o.op s, whs ws, hwB ws⟩ :: acc) (s.after o.dst v ws))
      (wpD P z ops K r (⟨none, [], [], true⟩ :: acc) (s.put o.dst (.tup [])))

/-- what an operation does, in a state -/
def EffOK (P : Program) (z : List Nat) (ops : Array Oper) (o : Oper) (s : AS) (e : Eff) : Prop :=
  (aguard ops s o = some false ∧ e.b = none ∧ e.ws = dstW o.dst (.tup [])) ∨
  (aguard ops s o = some true ∧ e.b = none ∧ ∃ f args k vs r, Op.callOf o.op = some (f, args) ∧ (acallee f args).run s = some (k, vs) ∧ APure P k vs r ∧ ltL 0 vs ∧ e.ws = dstW o.dst r) ∨
  (aguard ops s o = some true ∧ Op.callOf o.op = none ∧ ∃ v ws b, e.b = some b ∧ fzO P b (zf z o.dst) o.op s = some (v, ws) ∧ e.rd = rdF P b (zf z o.dst) o.op s ∧ e.ws = ws ++ dstW o.dst v ∧ e.hw = hwB ws)

theorem put_dstW (s : AS) (d : Option Tmp) (v : AV) : s.put d v = s.app (dstW d v) := by cases d <;> rfl
theorem whs_append (a b : List W) : whs (a ++ b) = whs a ++ whs b := by
  induction a with
  | nil => rfl
  | cons x a ih => cases x <;> simp [whs, ih]
theorem whs_dst (d : Option Tmp) (v : AV) : whs (dstW d v) = [] := by cases d <;> rfl

def nextS (s : AS) (e : Eff) : AS := { (s.app e.ws) with n := s.n + (if e.b.isSome then 1 else 0) }
def TrOK (P : Program) (z : List Nat) (ops : Array Oper) : List Oper → AS → List Eff → Prop
  | [], _, [] => True
  | o :: l, s, e :: es => EffOK P z ops o s e ∧ (∀ b, e.b = some b → b = s.n) ∧ TrOK P z ops l (nextS s e) es
  | _, _, _ => False
def finS : AS → List Eff → AS
  | s, [] => s
  | s, e :: es => finS (nextS s e) es

theorem wpD_trace {K : List Rec → AS → Prop} : ∀ {l : List Oper} {acc : List Rec} {s : AS}, wpD P z ops K l acc s →
    ∃ es, TrOK P z ops l s es ∧ K ((es.map Eff.rec_).reverse ++ acc) (finS s es)
  | [], acc, s, h => ⟨[], trivial, h⟩
  | o :: l, acc, s, h => by
    rw [wpD] at h
    have fin : ∀ e : Eff, EffOK P z ops o s e → (∀ b, e.b = some b → b = s.n) → ∀ r : Rec, r = e.rec_ → wpD P z ops K l (r :: acc) (nextS s e) →
        ∃ es, TrOK P z ops (o :: l) s es ∧ K ((es.map Eff.rec_).reverse ++ acc) (finS s es) := by
      rintro e h1 h2 r rfl h3
      obtain ⟨es, h4, h5⟩ := wpD_trace h3
      exact ⟨e :: es, ⟨h1, h2, h4⟩, by simpa [finS] using h5⟩
    unfold gK at h
    split at h
    case h_2 => exact h.elim
    rename_i b hb
    cases b with
    | false =>
      have h := h.2 rfl
      refine fin ⟨none, [], dstW o.dst (.tup []), true⟩ (.inl ⟨hb, rfl, rfl⟩) (fun _ h => by cases h) ⟨none, [], [], true⟩ ?_ ?_
      · simp [Eff.rec_, whs_dst]
      · have : nextS s ⟨none, [], dstW o.dst (.tup []), true⟩ = s.put o.dst (.tup []) := by
          rw [put_dstW]; unfold nextS; simp only [Option.isSome_none, Bool.false_eq_true, if_false, Nat.add_zero]
          rw [← app_n (dstW o.dst (.tup [])) s]
        rw [this]; exact h
    | true =>
      have h := h.1 rfl
      split at h
      · rename_i f args hc
        unfold cK at h
        split at h
        · rename_i k vs e1
          obtain ⟨r', h1, h2, h3⟩ := h
          refine fin ⟨none, [], dstW o.dst r', true⟩ (.inr (.inl ⟨hb, rfl, f, args, k, vs, r', hc, e1, h1, h2, rfl⟩)) (fun _ h => by cases h) ⟨none, [], [], true⟩ ?_ ?_
          · simp [Eff.rec_, whs_dst]
          · have : nextS s ⟨none, [], dstW o.dst r', true⟩ = s.put o.dst r' := by
              rw [put_dstW]; unfold nextS; simp only [Option.isSome_none, Bool.false_eq_true, if_false, Nat.add_zero]
              rw [← app_n (dstW o.dst r') s]
            rw [this]; exact h3
        · exact h.elim
      · rename_i hc
        unfold oK at h
        split at h
        · rename_i v ws e1
          refine fin ⟨some s.n, rdF P s.n (zf z o.dst) o.op s, ws ++ dstW o.dst v, hwB ws⟩ (.inr (.inr ⟨hb, hc, v, ws, s.n, rfl, e1, rfl, rfl, rfl⟩)) (fun _ h => by cases h; rfl) ⟨some s.n, rdF P s.n (zf z o.dst) o.op s, whs ws, hwB ws⟩ ?_ ?_
          · simp [Eff.rec_, whs_dst, whs_append]
          · have : nextS s ⟨some s.n, rdF P s.n (zf z o.dst) o.op s, ws ++ dstW o.dst v, hwB ws⟩ = s.after o.dst v ws := by
              unfold nextS AS.after
              rw [put_dstW, app_append]
              simp only [Option.isSome_some, if_true]
              cases o.dst <;> rfl
            rw [this]; exact h
        · exact h.elim

/-! ### looking at one place -/
def AS.look (s : AS) : Loc → AV ⊕ AObj
  | .t k => .inl (s.t k)
  | .h k => .inr (s.h k)

theorem look_app1 (s : AS) (u : W) (l : Loc) (h : u.loc ≠ l) : (s.app1 u).look l = s.look l := by
  cases u <;> cases l <;> simp only [AS.app1, AS.look, W.loc] at h ⊢
  · rw [upd_ne]; exact fun e => h (by rw [e])
  · rw [upd_ne]; exact fun e => h (by rw [e])
theorem look_app1_same {s s' : AS} (u : W) : (s.app1 u).look u.loc = (s'.app1 u).look u.loc := by
  cases u <;> simp [AS.app1, AS.look, W.loc, upd_same]
theorem look_filter (l : Loc) : ∀ (ws : List W) {s s' : AS}, s.look l = s'.look l → (s.app ws).look l = (s'.app (ws.filter fun u => decide (u.loc = l))).look l
  | [], s, s', h => h
  | u :: ws, s, s', h => by
    rw [List.filter_cons]
    split
    · rename_i e
      have e : u.loc = l := by simpa using e
      subst e
      exact look_filter _ ws (look_app1_same u)
    · rename_i e
      have e : u.loc ≠ l := by simpa using e
      exact look_filter l ws ((look_app1 s u l e).trans h)
theorem look_eq {s : AS} {ws us : List W} {l : Loc} (h : ws.filter (fun u => decide (u.loc = l)) = us.filter fun u => decide (u.loc = l)) : (s.app ws).look l = (s.app us).look l := by
  rw [look_filter l ws (s := s) (s' := s) rfl, look_filter l us (s := s) (s' := s) rfl, h]
theorem look_none {s : AS} {ws : List W} {l : Loc} (h : ∀ u, u ∈ ws → u.loc ≠ l) : (s.app ws).look l = s.look l := by
  have : ws.filter (fun u => decide (u.loc = l)) = ([] : List W).filter fun u => decide (u.loc = l) := by
    simp only [List.filter_nil, List.filter_eq_nil_iff, decide_eq_true_eq]
    exact h
  exact look_eq (us := []) this
theorem as_ext {s s' : AS} (h : ∀ l, s.look l = s'.look l) (hn : s.n = s'.n) : s = s' := by
  cases s with
  | mk t h1 n =>
    cases s' with
    | mk t' h1' n' =>
      have a : t = t' := by funext k; have := h (.t k); simpa [AS.look] using this
      have b : h1 = h1' := by funext k; have := h (.h k); simpa [AS.look] using this
      cases a; cases b; cases hn; rfl

/-! ### what an operation looks at -/
def gTmp (ops : Array Oper) (o : Oper) : List Nat := match o.guard with | some (j, _) => ((ops[j]?).bind (·.dst)).toList | none => []
def rdT (ops : Array Oper) (o : Oper) : List Nat := tmpsOf o.op ++ gTmp ops o

theorem aguard_congr {s s' : AS} {o : Oper} (h : ∀ t, t ∈ gTmp ops o → s'.t t = s.t t) : aguard ops s' o = aguard ops s o := by
  unfold aguard
  unfold gTmp at h
  cases hg : o.guard with
  | none => rfl
  | some p =>
    obtain ⟨j, want⟩ := p
    rw [hg] at h
    simp only at h ⊢
    cases hd : (ops[j]?).bind (·.dst) with
    | none => rfl
    | some d => rw [hd] at h; simp only; rw [h d (by simp)]

theorem ev_congr {s s' : AS} {x : Operand} (h : ∀ t, t ∈ tmpOf x → s'.t t = s.t t) : ev s' x = ev s x := by
  cases x <;> first | rfl | exact h _ (by simp [tmpOf])

theorem rdIds_congr {s s' : AS} {op : Op} (h : ∀ t, t ∈ tmpsOf op → s'.t t = s.t t) : rdIds op s' = rdIds op s := by
  have hx : ∀ x, x ∈ opdsOf op → ev s' x = ev s x := fun x hx => ev_congr fun t ht => h t (List.mem_flatMap.2 ⟨x, hx, ht⟩)
  unfold rdIds
  split <;> try (first | rfl | (rw [hx _ (by simp [opdsOf])]; done))
  · rename_i t n ps
    have : ∀ l : List (Nat × Operand), (∀ p, p ∈ l → ev s' p.2 = ev s p.2) → (l.flatMap fun p => (ev s' p.2).cells.flatMap ids1) = l.flatMap fun p => (ev s p.2).cells.flatMap ids1 := fun l hl => by
      induction l with
      | nil => rfl
      | cons x l ih => rw [List.flatMap_cons, List.flatMap_cons, hl x (by simp), ih fun p hp => hl p (by simp [hp])]
    exact this _ fun p hp => hx _ (by simp only [opdsOf, List.mem_map]; exact ⟨p, hp, rfl⟩)
  · rename_i f args ts _
    have : ∀ l : List Operand, (∀ p, p ∈ l → ev s' p = ev s p) → (l.flatMap fun p => ids1 (ev s' p)) = l.flatMap fun p => ids1 (ev s p) := fun l hl => by
      induction l with
      | nil => rfl
      | cons x l ih => rw [List.flatMap_cons, List.flatMap_cons, hl x (by simp), ih fun p hp => hl p (by simp [hp])]
    exact this _ fun p hp => hx _ (by simp only [opdsOf]; exact hp)

theorem acallee_congr {s s' : AS} {op : Op} {f : Operand} {args : List Operand} (hc : Op.callOf op = some (f, args)) (h : ∀ t, t ∈ tmpsOf op → s'.t t = s.t t) : (acallee f args).run s' = (acallee f args).run s := by
  have ho : opdsOf op = f :: args := by
    unfold Op.callOf at hc
    split at hc
    · simp only [Option.some.injEq, Prod.mk.injEq] at hc; obtain ⟨rfl, rfl⟩ := hc; rfl
    · cases hc
  have sub : (acallee f args).Sub (tmpsOf op) [] s := by
    unfold acallee
    refine (sub_aev fun t ht => List.mem_flatMap.2 ⟨f, by rw [ho]; simp, ht⟩).bind fun v _ => (sub_aevs fun t ht => ?_).bind fun vs _ => ?_
    · obtain ⟨x, hx, hxt⟩ := List.mem_flatMap.1 ht
      exact List.mem_flatMap.2 ⟨x, by rw [ho]; simp [hx], hxt⟩
    · split <;> trivial
  exact sub.run_eq h (fun i hi => by cases hi)

theorem app_h_congr {s s' : AS} {ws : List W} {i : Nat} (h : s'.h i = s.h i) : (s'.app ws).h i = (s.app ws).h i := by
  induction ws generalizing s s' with
  | nil => exact h
  | cons u ws ih =>
    refine ih ?_
    cases u with
    | t k v => exact h
    | h k o =>
      show upd s'.h k o i = upd s.h k o i
      by_cases e : i = k
      · subst e; rw [upd_same, upd_same]
      · rw [upd_ne _ _ e, upd_ne _ _ e, h]

theorem fzO_congr {s s' : AS} {b : Nat} {f : Bool} {op : Op} (hT : ∀ t, t ∈ tmpsOf op → s'.t t = s.t t) (hH : ∀ i, i ∈ rdF P b f op s → s'.h i = s.h i) :
    fzO P b f op s' = fzO P b f op s ∧ rdF P b f op s' = rdF P b f op s := by
  have e1 : (aopV P b op).run s' = (aopV P b op).run s :=
    (sub_op (T := tmpsOf op) (H := rdIds op s) (fun _ h => h) (fun _ h => h)).run_eq hT fun i hi => hH i (by unfold rdF; exact List.mem_append.2 (.inl hi))
  refine ⟨?_, ?_⟩
  · unfold fzO
    rw [e1]
    split
    · rename_i v ws e2
      split
      · rename_i hf
        have : (frzX v).run (s'.app ws) = (frzX v).run (s.app ws) :=
          RM.Sub.run_eq (T := []) (H := idsX v) (fun _ h => by cases h) (fun i hi => app_h_congr (hH i (by unfold rdF; rw [if_pos hf, e2]; exact List.mem_append.2 (.inr hi)))) (sub_frzX fun _ h => h)
        rw [this]
      · rfl
    · rfl
  · unfold rdF
    rw [rdIds_congr hT, e1]

theorem EffOK.congr {o : Oper} {s s' : AS} {e : Eff} (h : EffOK P z ops o s e) (hT : ∀ t, t ∈ rdT ops o → s'.t t = s.t t) (hH : ∀ i, i ∈ e.rd → s'.h i = s.h i) : EffOK P z ops o s' e := by
  have hg := aguard_congr (ops := ops) (s := s) (s' := s') (o := o) fun t ht => hT t (List.mem_append.2 (.inr ht))
  have hT' : ∀ t, t ∈ tmpsOf o.op → s'.t t = s.t t := fun t ht => hT t (List.mem_append.2 (.inl ht))
  rcases h with ⟨h1, h2⟩ | ⟨h1, h2, f, args, k, vs, r, h3, h4, h5⟩ | ⟨h1, h2, v, ws, b, h3, h4, h5, h6⟩
  · exact .inl ⟨hg.trans h1, h2⟩
  · exact .inr (.inl ⟨hg.trans h1, h2, f, args, k, vs, r, h3, (acallee_congr h3 hT').trans h4, h5⟩)
  · have := fzO_congr (P := P) (b := b) (f := zf z o.dst) hT' (fun i hi => hH i (h5 ▸ hi))
    exact .inr (.inr ⟨hg.trans h1, h2, v, ws, b, h3, this.1.trans h4, h5.trans this.2.symm, h6⟩)

/-- It is done so in memory. -/
theorem eff_step {E : Ent} {nt : Nat} {s : AS} {φ : Pm} {S : Nat → Prop} {a : Act} {w : World} (r : R E nt s φ S a w) {i : Nat} {o : Oper} {e : Eff} (hi : ops[i]? = some o) (h : EffOK P z ops o s e)
    (hd : o.dst.all (· < nt) = true) (hb : ∀ b, e.b = some b → Fr φ s.h b ∧ b < s.n) {K : Act → World → Prop} {Q : Exit → Act → World → Prop}
    (hK : ∀ a' φ' S' w', R E nt (s.app e.ws) φ' S' a' w' → Tame φ s.h φ' (s.app e.ws).h → K a' w') : wpOp P ops Q i K a w := by
  unfold wpOp
  rw [hi]
  simp only
  rcases h with ⟨h1, h2, h3⟩ | ⟨h1, h2, f, args, k, vs, q, h3, h4, h5, h6, h7⟩ | ⟨h1, h2, v, ws, b, h3, h4, h5, h6, _⟩
  · rw [aguard_ok r h1]
    simp only [Bool.false_eq_true, if_false]
    have r' := r.put (d := o.dst) hd (undef_rel (w := w) (S := S) (φ := φ))
    rw [put_dstW, ← h3] at r'
    refine hK _ _ _ _ r' ?_
    have : (s.app e.ws).h = s.h := by rw [h3]; cases o.dst <;> rfl
    rw [this]; exact (Step.refl w S φ s.h).tame
  · rw [aguard_ok r h1]
    simp only [if_true]
    left
    have ho' : ∃ as ts, o.op = .call { callee := .value f, args := as, argTypes := ts } ∧ as.toList = args := by
      unfold Op.callOf at h3
      split at h3
      · rename_i as ts hop
        simp only [Option.some.injEq, Prod.mk.injEq] at h3
        obtain ⟨rfl, rfl⟩ := h3
        exact ⟨_, _, hop, rfl⟩
      · cases h3
    obtain ⟨as, ts, ho', rfl⟩ := ho'
    refine call_wp0 r ho' h4 h5.1 fun us g1 g2 => (h5.callX h6 r.hp g1 g2).mono ?_
    rintro _ w' ⟨x, S', rfl, a1, a2, a3⟩
    refine ⟨x, rfl, ?_⟩
    have r1 : R E nt s φ S' a w' := r.heap (h' := s.h) (n' := s.n) (Nat.le_refl _) a1 a2
    have r' := r1.put (d := o.dst) hd a3
    rw [put_dstW, ← h7] at r'
    refine hK _ _ _ _ r' ?_
    have : (s.app e.ws).h = s.h := by rw [h7]; cases o.dst <;> rfl
    rw [this]; exact (Step.refl w S φ s.h).tame
  · rw [aguard_ok r h1]
    simp only [if_true]
    left
    obtain ⟨f1, f2⟩ := hb b h3
    refine op_wp (n' := s.n) r ⟨f1, Nat.le_refl _⟩ f2 h4 hd fun a' φ' S' w' r' tm => ?_
    have e1 : ({ (s.app ws) with n := s.n }.put o.dst v : AS) = s.app e.ws := by
      rw [h6, app_append, put_dstW, ← app_n ws s]
    rw [e1] at r'
    refine hK _ _ _ _ r' ?_
    have : (s.app e.ws).h = (s.app ws).h := by rw [h6, app_append]; cases o.dst <;> rfl
    rw [this]; exact tm

end Go.Ab
