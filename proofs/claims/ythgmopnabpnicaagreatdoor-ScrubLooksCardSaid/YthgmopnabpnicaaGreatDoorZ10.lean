import Derived.RangeFuncLeaves
import Derived.RangeFuncIn
import Derived.RangeFuncRecord
import Derived.RangeFuncCalls
import Derived.TacticsIn
import Derived.RangeFuncOwn
import Derived.Test.YthgmopnabpnicaaGreatDoorZ08
import Derived.Test.YthgmopnabpnicaaGreatDoorZ09
set_option linter.all false
namespace Go.Ab
open Go
variable [Glob] {P : Program}

/-! ### a call that is handed a pointer to one box of its caller's -/
def oneBox (cs : List AV) : Nat → AObj := upd dead 0 (.box cs)
/-- it turns the box's content into cs', and tells r -/
def ABox (P : Program) (f : FuncId) (rest : List AV) (cs cs' : List AV) (r : AV) : Prop :=
  ACall P f (.ptr 0 0 :: rest) (oneBox cs) 1 fun r' h' _ => h' 0 = .box cs' ∧ r' = r ∧ r.lt 0
theorem ABox.call {f : FuncId} {rest cs cs' : List AV} {r : AV} (hc : ABox P f rest cs cs' r) (hrest : ltL 0 rest) (hcs : ltL 0 cs) (hcs' : ltL 0 cs') {h : Nat → AObj} {n vid : Nat} (hv : h vid = .box cs) (hvn : vid < n) :
    ACall P f (.ptr vid 0 :: rest) h n fun r' h' n' => r' = r ∧ h' = upd h vid (.box cs') ∧ n' = n := by
  refine ⟨hc.1, fun w S φ vs H hl hr => ?_⟩
  have ho := H.obj vid
  rw [hv] at ho
  obtain ⟨b, cc, hb1, hb2, hb3⟩ := ho
  have cut1 : ∀ {w : World} {S : Nat → Prop} {φ φ' : Pm} {x : AV} {v : Value}, x.lt 0 → Rel w S φ x v → Rel w S φ' x v := fun hx hr => by
    have := hr.cut hx
    rw [cut0] at this
    exact this.mono (fun _ _ => rfl) (fun _ h => h) (pm0_le _)
  let φ0 : Pm := fun id g => if id = 0 ∧ g = 0 then φ vid 0 else none
  have e00 : φ0 0 0 = φ vid 0 := by simp [φ0]
  have e01 : ∀ id g, φ0 id g ≠ none → id = 0 ∧ g = 0 := fun id g hh => by
    rcases Classical.em (id = 0 ∧ g = 0) with h | h
    · exact h
    · exact absurd (by simp [φ0, h]) hh
  have live0 : ∀ id k, LiveAt φ0 (oneBox cs) id k → id = 0 ∧ k = b := fun id k ⟨g, sz, cap, h1, h2⟩ => by
    obtain ⟨rfl, rfl⟩ := e01 id g (by rw [h2]; intro h; cases h)
    rw [e00, hb1] at h2
    cases h2; exact ⟨rfl, rfl⟩
  have liveV : LiveAt φ h vid b := ⟨0, 1, _, by rw [hv]; rfl, hb1⟩
  have H0 : HeapOK w S φ0 (oneBox cs) 1 := by
    refine ⟨fun id => ?_, fun id id' k h1 h2 => (live0 id k h1).1.trans (live0 id' k h2).1.symm, fun id k h1 => ?_, H.bnd, fun id hid => ⟨?_, fun g => ?_⟩, H.glob⟩
    · by_cases e : id = 0
      · subst e
        show ObjRel w S φ0 0 (oneBox cs 0)
        have : oneBox cs 0 = .box cs := upd_same _ _ _
        rw [this]
        exact ⟨b, cc, by rw [e00]; exact hb1, hb2, hb3.1, fun j h1 h2 => cut1 (ltL_get hcs j h1) (hb3.2 j h1 h2)⟩
      · have : oneBox cs id = .dead := upd_ne _ _ e
        rw [this]; trivial
    · obtain ⟨rfl, rfl⟩ := live0 id k h1
      exact H.sep vid k liveV
    · exact upd_ne _ _ (by omega)
    · have : id ≠ 0 := by omega
      simp [φ0, this]
  have hlen : (AV.ptr 0 0 :: rest).length = vs.size := by simpa using hl
  refine (hc.2 w S φ0 vs H0 hlen fun j h1 h2 => ?_).mono ?_
  · cases j with
    | zero =>
      have := hr 0 (by simp) h2
      simp only [List.getElem_cons_zero] at this ⊢
      generalize hx : vs[0] = x at this
      cases this with
      | ptr hp => exact .ptr (by rw [e00]; exact hp)
    | succ j =>
      have := hr (j + 1) (by simpa using h1) h2
      simp only [List.getElem_cons_succ] at this ⊢
      exact cut1 (ltL_get hrest j (by simpa using h1)) this
  · rintro e w' ⟨v, r', h', n', φ', S', rfl, ⟨q1, rfl, q2⟩, H', hn', G', hr'⟩
    have ob := H'.obj 0
    rw [q1] at ob
    obtain ⟨b', cc', d1, d2, d3⟩ := ob
    have d0 := G'.le 0 0 _ (by rw [e00]; exact hb1)
    rw [d1] at d0
    simp only [Option.some.injEq, Plc.at.injEq] at d0
    obtain ⟨rfl, _, hlen'⟩ := d0
    have keep : ∀ k, k < w.heap.size → k ≠ b' → w'.heap[k]? = w.heap[k]? := fun k hk hne => G'.keep k hk fun id hl => hne (live0 id k hl).2
    have hS : ∀ k, S' k → S k ∨ w.heap.size ≤ k := fun k hk => by
      rcases G'.from_ k hk with h1 | ⟨id, h1⟩ | h1
      · exact .inl h1
      · have := (live0 id k h1).2
        subst this
        exact absurd hk (H'.sep 0 k ⟨0, 1, _, by rw [q1]; rfl, d1⟩)
      · exact .inr h1
    have hSb : ∀ k, S k → k ≠ b' := fun k hk e => by subst e; exact H.sep vid k liveV hk
    have liveE : ∀ id k, LiveAt φ (upd h vid (.box cs')) id k ↔ LiveAt φ h id k := fun id k => by
      by_cases e : id = vid
      · subst e
        constructor
        · rintro ⟨g, sz, cap, h1, h2⟩
          rw [upd_same] at h1; cases h1
          exact ⟨0, sz, cap, by rw [hv]; rfl, h2⟩
        · rintro ⟨g, sz, cap, h1, h2⟩
          rw [hv] at h1; cases h1
          exact ⟨0, sz, cap, by rw [upd_same]; rfl, h2⟩
      · unfold LiveAt; rw [upd_ne _ _ e]
    refine ⟨v, r', _, n, φ, S', rfl, ⟨rfl, rfl, rfl⟩, ⟨fun id => ?_, fun id id' k h1 h2 => H.inj id id' k ((liveE _ _).1 h1) ((liveE _ _).1 h2), fun id k h1 hk => ?_, H'.bnd, fun id hid => ?_, H'.glob⟩, Nat.le_refl _, ?_, cut1 q2 hr'⟩
    · by_cases e : id = vid
      · subst e
        rw [upd_same]
        exact ⟨b', cc', by rw [hb1, hlen'], d2, d3.1, fun j h1 h2 => cut1 (ltL_get hcs' j h1) (d3.2 j h1 h2)⟩
      · rw [upd_ne _ _ e]
        refine (H.obj id).mono (fun k hk => keep k (H.bnd k hk) (hSb k hk)) G'.sub (Pm.le_refl _) (fun _ => rfl) fun g k sz cap h1 h2 => ?_
        have hlk : LiveAt φ h id k := ⟨g, sz, cap, h1, h2⟩
        exact keep k (H.live_lt hlk) fun e2 => e (H.inj id vid k hlk (e2 ▸ liveV))
    · have hlk := (liveE id k).1 h1
      rcases hS k hk with h2 | h2
      · exact H.sep id k hlk h2
      · have := H.live_lt hlk; omega
    · rw [upd_ne _ _ (by omega)]; exact H.new id hid
    · refine ⟨G'.os, G'.tape, G'.out, G'.size, G'.sub, Pm.le_refl _, fun k hk hno => keep k hk fun e2 => hno vid (e2 ▸ liveV), fun k hk => ?_, fun id k hl => .inl ⟨id, (liveE id k).1 hl⟩⟩
      rcases hS k hk with h2 | h2
      · exact .inl h2
      · exact .inr (.inr h2)

section
variable {z : List Nat} {ops : Array Oper} {K : AS → Prop} {rest : List Oper} {s : AS} {d : Option Tmp}
theorem callL_acall {k : FuncId} {vs : List AV} {Q0 : AV → (Nat → AObj) → Nat → Prop} (hc : ACall P k vs s.h s.n Q0) (hz : zf z d = false)
    (hk : ∀ r h' n', Q0 r h' n' → wpL P z ops K rest (AS.put ⟨s.t, h', n'⟩ d r)) : ACallL P k vs z ops K rest s d := by
  refine hc.mono fun r h' n' hq => ?_
  rw [hz]
  exact hk r h' n' hq
theorem callL_box {k : FuncId} {args cs cs' : List AV} {r : AV} {vid : Nat} (hp : ABox P k args cs cs' r) (ha : ltL 0 args) (hcs : ltL 0 cs) (hcs' : ltL 0 cs') (hv : s.h vid = .box cs) (hvn : vid < s.n) (hz : zf z d = false)
    (hk : wpL P z ops K rest (AS.put ⟨s.t, upd s.h vid (.box cs'), s.n⟩ d r)) : ACallL P k (.ptr vid 0 :: args) z ops K rest s d := by
  refine (hp.call ha hcs hcs' hv hvn).mono ?_
  rintro r' h' n' ⟨rfl, rfl, rfl⟩
  rw [hz]
  exact hk
end


/-! ### a loop whose round is shown by hand -/
theorem loopA {nt b : Nat} {z : List Nat} {Q : AEx → AS → Prop} {x : Code} {ks : List Kt} {s : AS} {α : Type} (st : α → AS) (J : α → Prop) (μ : α → Nat) (p0 : α) (h0 : J p0) (l0 : Less b (st p0) s)
    (round : ∀ p, J p → awp P nt b x (KQ P nt b Q (.fin (finR st J μ b (μ p)) :: ks)) (st p)) : LoopG P nt b z Q (.loop x) ks s := by
  refine ⟨rfl, awp_loop (fun m s => ∃ p, J p ∧ μ p = m ∧ Less b (st p) s) (μ p0) ⟨p0, h0, rfl, l0⟩ ?_⟩
  rintro m s ⟨p, hp, rfl, hl⟩
  refine awp_less _ hl ?_
  refine awp_mono (round p hp) ?_
  intro y s' h
  cases y with
  | normal => obtain ⟨p', h1, h2, h3⟩ := h; exact ⟨_, h2, p', h1, rfl, h3⟩
  | exit id => exact h
  | goto l => exact h
  | ret => exact h
theorem KQ_exit (hm : P.follows .mixedOrders = true) {nt b : Nat} (z : List Nat) {Q : AEx → AS → Prop} (f : Nat) {ks : List Kt} {s : AS} {id : Nat} (hk : ksOk nt ks = true) (h : exitK (go P nt b z Q f) Q id ks s) : KQ P nt b Q ks (.exit id) s :=
  exitK_ok (fun c ks s h1 h2 h3 => go_sound hm f c ks s h1 h2 h3) hk h
theorem KQ_fin_n {nt b : Nat} {Q : AEx → AS → Prop} {ks : List Kt} {R : AS → Prop} {s : AS} : KQ P nt b Q (.fin R :: ks) .normal s = R s := rfl
theorem KQ_fin_e {nt b : Nat} {Q : AEx → AS → Prop} {ks : List Kt} {R : AS → Prop} {s : AS} {i : Nat} : KQ P nt b Q (.fin R :: ks) (.exit i) s = KQ P nt b Q ks (.exit i) s := rfl
theorem blkQ_n {Q : AEx → AS → Prop} {s : AS} {i : Nat} : blkQ i Q .normal s = Q .normal s := rfl

end Go.Ab
namespace Go.Ab
open Go
variable [Glob] {P : Program}

/-! ### a call that only reads what it is handed, and tells no address -/
def Scal (r : AV) : Prop := ∀ (w w' : World) (S S' : Nat → Prop) (φ φ' : Pm) (v : Value), Rel w S φ r v → Rel w' S' φ' r v
theorem scal_bool (b : Bool) : Scal (.bool b) := fun _ _ _ _ _ _ _ h => by cases h; exact .bool
theorem scal_int (k : IntKind) (b : Int) : Scal (.int k b) := fun _ _ _ _ _ _ _ h => by cases h; exact .int
theorem scal_str (b : List UInt8) : Scal (.str b) := fun _ _ _ _ _ _ _ h => by cases h; exact .str
theorem scal_tup2 {a b : AV} (ha : Scal a) (hb : Scal b) : Scal (.tup [a, b]) := fun w w' S S' φ φ' v h => by
  cases h with
  | tup h1 h2 =>
    refine .tup h1 fun i hi hi' => ?_
    match i, hi with
    | 0, _ => exact ha _ _ _ _ _ _ _ (h2 0 (by simp) hi')
    | 1, _ => exact hb _ _ _ _ _ _ _ (h2 1 (by simp) hi')
theorem APure.ro {f : FuncId} {args ys args' : List AV} {r : AV} {s s' : AS} (hp : APure P f args' r) (hr : Scal r) (e : frzAll args s = some (ys, s')) (hs : SubL ys args') (ha : ltL 0 args') :
    ACall P f args s.h s.n fun r' h' n' => r' = r ∧ h' = s.h ∧ n' = s.n := by
  refine ⟨hp.1, fun w S φ vs H hl hr0 => ?_⟩
  obtain ⟨S1, H1, T1, l1, r1, _, _, en⟩ := frzAll_ok H e
  obtain ⟨a, b⟩ := hs.rel (w := w) (S := S1) (φ := φ) (vs := vs) (by rw [l1, hl]) fun i h h' => r1 i (by rw [← l1]; exact h) h _ (hr0 i (by rw [← l1]; exact h) h')
  have H0 : HeapOK w S1 pm0 dead 0 := ⟨fun _ => trivial, (fun id id' b ⟨g, _, _, h1, _⟩ => by cases h1), (fun id b ⟨g, _, _, h1, _⟩ => by cases h1), H1.bnd, (fun id _ => ⟨rfl, fun _ => rfl⟩), H1.glob⟩
  refine (hp.2 w S1 pm0 vs H0 a fun j h1 h2 => ?_).mono ?_
  · have := (b j h1 h2).cut (ltL_get ha j h1)
    rw [cut0] at this
    exact this
  · rintro e w' ⟨v, r', h', n', φ', S', rfl, ⟨rfl, hlt⟩, a3, a4, a5, a6⟩
    have hk : ∀ k, k < w.heap.size → w'.heap[k]? = w.heap[k]? := fun k hk => a5.keep k hk fun id ⟨g, _, _, h1, _⟩ => by cases h1
    refine ⟨v, r', s.h, s.n, φ, S, rfl, ⟨rfl, rfl, rfl⟩, ⟨fun id => ?_, H.inj, H.sep, fun b hb => Nat.lt_of_lt_of_le (H.bnd b hb) a5.size, H.new, ?_⟩, Nat.le_refl _, ?_, hr _ _ _ _ _ _ _ a6⟩
    · exact (H.obj id).mono (fun b hb => hk b (H.bnd b hb)) (fun _ h => h) (Pm.le_refl _) (fun _ => rfl) fun g b sz cap h1 h2 => hk b ((H.obj id).live_lt h1 h2)
    · exact Glob.mono H.glob (fun b hb => hk b (H.bnd b hb)) (fun _ h => h)
    · exact ⟨a5.os, a5.tape, a5.out, a5.size, fun _ h => h, Pm.le_refl _, fun k h1 _ => hk k h1, fun k h1 => .inl h1, fun id k h1 => .inl ⟨id, h1⟩⟩
def frzQ (x : Option (List AV × AS)) (args' : List AV) : Prop :=
  match x with
  | some (ys, _) => SubL ys args'
  | none => False
theorem frzQ_some (ys : List AV) (s' : AS) (args' : List AV) : frzQ (some (ys, s')) args' = SubL ys args' := rfl
section
variable {z : List Nat} {ops : Array Oper} {K : AS → Prop} {rest : List Oper} {s : AS} {d : Option Tmp}
theorem callL_ro {k : FuncId} {vs args' : List AV} {r : AV} (hp : APure P k args' r) (hr : Scal r) (ha : ltL 0 args') (hz : zf z d = false) (hq : frzQ (frzAll vs s) args')
    (hk : wpL P z ops K rest (AS.put s d r)) : ACallL P k vs z ops K rest s d := by
  unfold frzQ at hq
  split at hq
  · rename_i ys s' e
    refine (hp.ro hr e hq ha).mono ?_
    rintro r' h' n' ⟨rfl, rfl, rfl⟩
    rw [hz]
    exact hk
  · exact hq.elim
end


/-! ### ahead of a loop: a value is frozen -/
def frzT (x : Option (AV × List W)) (K : AV → List W → Prop) : Prop :=
  match x with
  | some (y, us) => K y us
  | none => False
theorem frzT_some (y : AV) (us : List W) (K : AV → List W → Prop) : frzT (some (y, us)) K = K y us := rfl
theorem loopG_frz {nt b : Nat} {z : List Nat} {Q : AEx → AS → Prop} {c : Code} {ks : List Kt} {s : AS} (t : Nat)
    (h : frzT ((frzX (s.t t)).run s) fun y us => LoopG P nt b z Q c ks ⟨upd (s.app us).t t y, (s.app us).h, (s.app us).n⟩) : LoopG P nt b z Q c ks s := by
  unfold frzT at h
  split at h
  · rename_i y us e
    refine ⟨rfl, fun E φ S a w he r => ?_⟩
    obtain ⟨S', r', _⟩ := r.frz e (r.ts t)
    obtain ⟨S2, H2, T2, k1, _, _, _⟩ := frz_heap r.hp e
    refine h.2 E φ S2 a w he ⟨r.sz, r.df, fun i => ?_, ?_, r.st.trans T2, ?_, r.eh⟩
    · by_cases ei : i = t
      · subst ei
        show Rel w S2 φ (upd (s.app us).t i y i) _
        rw [upd_same]
        exact k1 _ (r.ts i)
      · show Rel w S2 φ (upd (s.app us).t t y i) _
        rw [upd_ne _ _ ei]
        obtain ⟨_, _, _, _, k2, k3, _⟩ := frz_heap r.hp e
        have := T2.rel r.hp (r.ts i)
        rw [show (s.app us).t i = s.t i by rw [k3]]
        exact this
    · have := H2
      obtain ⟨_, _, _, _, _, _, k4⟩ := frz_heap r.hp e
      show HeapOK w S2 φ (s.app us).h (s.app us).n
      rw [k4]; exact this
    · obtain ⟨_, _, _, _, _, _, k4⟩ := frz_heap r.hp e
      show E.n ≤ (s.app us).n
      rw [k4]; exact r.en
  · exact h.elim
theorem mm2 (lt : Int → Int → Bool) (k : IntKind) (a b : Int) : aminmax lt [.int k a, .int k b] = some (.int k (if lt b a then b else a)) := by
  simp [aminmax]

end Go.Ab
namespace Go.Ab
open Go
variable [Glob] {P : Program}

/-! ### regions within a round, and a call of yield -/
def Wide (F : Fence) : Prop := F.depth = none ∧ ∀ f, F.fn f
theorem wide_wide : Wide Fence.wide := ⟨rfl, fun _ => trivial⟩
theorem wide_round (l : Nat) : Wide (Fence.wide.inRound l) := ⟨rfl, fun _ => trivial⟩
def isDefer : Op → Bool
  | .defer _ => true
  | _ => false
/-- a region without guards and without calls -/
def wpI (P : Program) (z : List Nat) (Q : AS → Prop) : List Oper → AS → Prop
  | [], s => Q s
  | o :: r, s => (o.guard = none ∧ isDefer o.op = false) ∧ oK (fzO P s.n (zf z o.dst) o.op s) fun v ws => wpI P z Q r (s.after o.dst v ws)
theorem op_wpIn {E : Ent} {nt : Nat} {s : AS} {φ : Pm} {S : Nat → Prop} {a : Act} {w : World} (r : R E nt s φ S a w) {o : Oper} {b n' : Nat} {z : Bool} {v : AV} {ws : List W}
    (hb : Fr φ s.h b ∧ s.n ≤ n') (hn : b < n') (e : fzO P b z o.op s = some (v, ws)) {F : Fence} {m : Nat} (hF : Wide F) (hde : isDefer o.op = false) {K : Act → World → Prop} {Q : Exit → Act → World → Prop} (hd : o.dst.all (· < nt) = true)
    (hK : ∀ a' φ' S' w', R E nt ({ (s.app ws) with n := n' }.put o.dst v) φ' S' a' w' → K a' w') : o.wpIn F m P a w K Q := by
  obtain ⟨hw, nx, w', S', φ', e1, e2, e3, e4⟩ := fzO_good r.slots r.hp hb hn e
  have hs : o.semAt F.round a.eval = execOp a.eval o := Oper.semAt_eq _ _ _ fun c hc => by rw [hc] at hde; cases hde
  unfold Oper.wpIn
  rw [hs, e1]
  refine ⟨fun f _ => hF.2 f, ?_⟩
  have r1 : R E nt { s with h := (s.app ws).h, n := n' } φ' S' a w' := r.heap hb.2 e2 e3.g
  have r2 : R E nt { (s.app ws) with n := n' } φ' S' a w' := by
    have : ({ (s.app ws) with n := n' } : AS) = { s with h := (s.app ws).h, n := n' } := by
      have := app_t hw s
      cases hs : s.app ws
      rw [hs] at this
      simp only at this
      rw [this]
    rw [this]; exact r1
  rcases e4 with ⟨x, rfl, hx⟩ | ⟨rfl, rfl⟩
  · exact hK _ _ _ _ (r2.put hd hx)
  · exact hK _ _ _ _ (r2.put hd .bot)
theorem wpI_sound {E : Ent} {nt : Nat} {z : List Nat} {ops : Array Oper} {Q0 : AS → Prop} {Q : Exit → Act → World → Prop} {F : Fence} {m : Nat} (hF : Wide F) {rest : List Oper}
    (hQ : ∀ s φ S a w, Q0 s → R E nt s φ S a w → wpListIn F m P ops Q rest a w) :
    ∀ (l : List Oper) (s : AS) (φ : Pm) (S : Nat → Prop) (a : Act) (w : World), dstOk nt l = true → R E nt s φ S a w → wpI P z Q0 l s → wpListIn F m P ops Q (l ++ rest) a w
  | [], s, φ, S, a, w, _, r, h => hQ s φ S a w h r
  | o :: l, s, φ, S, a, w, hd, r, h => by
    simp only [dstOk, List.all_cons, Bool.and_eq_true] at hd
    have IH := fun s φ S a w => wpI_sound (z := z) (ops := ops) hF hQ l s φ S a w hd.2
    rw [wpI] at h
    obtain ⟨⟨hg, hde⟩, h⟩ := h
    rw [List.cons_append]
    refine wpListIn_plain hg fun K hK => ?_
    unfold oK at h
    split at h
    · rename_i v ws e
      exact op_wpIn r ⟨r.hp.new _ (Nat.le_refl _), Nat.le_succ _⟩ (Nat.lt_succ_self _) e hF hde hd.1 fun a' φ' S' w' r' => hK _ _ (IH _ _ _ _ _ r' h)
    · exact h.elim

/-- A call of yield, from however the memory stands. -/
def AYield (P : Program) (l : Nat) (φ0 : Pm) (args : List AV) (h : Nat → AObj) (n : Nat) (Q : AV → (Nat → AObj) → Nat → Prop) : Prop :=
  ∀ (w : World) (S : Nat → Prop) (φ : Pm) (vs : Array Value), φ0.le φ → HeapOK w S φ h n → args.length = vs.size →
    (∀ j (h1 : j < args.length) (h2 : j < vs.size), Rel w S φ args[j] vs[j]) →
    ∃ fn tmps assign body, (Instr.yield l vs).run P w = .ok (.round l fn tmps assign body) w ∧ RoundIn Fence.wide 0 P l fn tmps assign body w fun e w' =>
      ∃ v r h' n' φ' S', e = .returned v ∧ Q r h' n' ∧ HeapOK w' S' φ' h' n' ∧ n ≤ n' ∧ GStep w S φ h w' S' φ' h' ∧ Rel w' S' φ' r v
theorem AYield.mono {l : Nat} {φ0 : Pm} {args : List AV} {h : Nat → AObj} {n : Nat} {Q Q' : AV → (Nat → AObj) → Nat → Prop} (hy : AYield P l φ0 args h n Q) (hq : ∀ r h n, Q r h n → Q' r h n) : AYield P l φ0 args h n Q' :=
  fun w S φ vs h1 h2 h3 h4 => let ⟨fn, tmps, assign, body, e1, hr⟩ := hy w S φ vs h1 h2 h3 h4
    ⟨fn, tmps, assign, body, e1, hr.mono fun _ _ ⟨v, r, h', n', φ', S', a1, a2, a3⟩ => ⟨v, r, h', n', φ', S', a1, hq _ _ _ a2, a3⟩⟩
/-- The code, from a state, behind a given entry. -/
def cwp (P : Program) (E : Ent) (nt : Nat) (c : Code) (Q : AEx → AS → Prop) (s : AS) : Prop :=
  ∀ (φ : Pm) (S : Nat → Prop) (a : Act) (w : World), R E nt s φ S a w → c.wp P (lift E nt Q) a w
section
variable {E : Ent} {nt : Nat}
theorem awp.cwp {c : Code} {Q : AEx → AS → Prop} {s : AS} (h : awp P nt E.n c Q s) : cwp P E nt c Q s := fun φ S a w r => h E φ S a w rfl r
theorem cwp_mono {c : Code} {Q Q' : AEx → AS → Prop} {s : AS} (h : cwp P E nt c Q s) (hq : ∀ x s, Q x s → Q' x s) : cwp P E nt c Q' s :=
  fun φ S a w r => wp_mono (h φ S a w r) fun _ _ _ ⟨x, s, φ, S, e, q, r⟩ => ⟨x, s, φ, S, e, hq x s q, r⟩
theorem cwp_seq {x y : Code} {Q : AEx → AS → Prop} {s : AS} (h : cwp P E nt x (seqQ (cwp P E nt y Q) Q) s) : cwp P E nt (.seq x y) Q s := by
  intro φ S a w r
  refine wp_seq (wp_mono (h φ S a w r) ?_)
  rintro _ a' w' ⟨x, s', φ', S', rfl, q, r'⟩
  cases x with
  | normal => exact q φ' S' a' w' r'
  | exit id => exact ⟨.exit id, s', φ', S', rfl, q, r'⟩
  | goto l => exact ⟨.goto l, s', φ', S', rfl, q, r'⟩
  | ret => exact ⟨.ret, s', φ', S', rfl, q, r'⟩
theorem cwp_block {id : Nat} {c : Code} {Q : AEx → AS → Prop} {s : AS} (h : cwp P E nt c (blkQ id Q) s) : cwp P E nt (.block id c) Q s := by
  intro φ S a w r
  refine wp_block (wp_mono (h φ S a w r) ?_)
  rintro _ a' w' ⟨x, s', φ', S', rfl, q, r'⟩
  cases x with
  | normal => exact ⟨.normal, s', φ', S', rfl, q, r'⟩
  | exit i =>
    simp only [AEx.to, Exit.inBlock]
    simp only [blkQ] at q
    split
    · rename_i h; rw [if_pos h] at q; exact ⟨.normal, s', φ', S', rfl, q, r'⟩
    · rename_i h; rw [if_neg h] at q; exact ⟨.exit i, s', φ', S', rfl, q, r'⟩
  | goto l => exact ⟨.goto l, s', φ', S', rfl, q, r'⟩
  | ret => exact ⟨.ret, s', φ', S', rfl, q, r'⟩
theorem cwp_loop {c : Code} {Q : AEx → AS → Prop} {s : AS} (I : Nat → AS → Prop) (m0 : Nat) (h0 : I m0 s)
    (round : ∀ m s, I m s → cwp P E nt c (seqQ (fun s' => ∃ m', m' < m ∧ I m' s') Q) s) : cwp P E nt (.loop c) Q s := by
  intro φ S a w r
  refine wp_loop_ghost (fun m a w => ∃ s φ S, I m s ∧ R E nt s φ S a w) m0 ⟨s, φ, S, h0, r⟩ ?_
  rintro m a w ⟨s, φ, S, hI, r⟩
  refine wp_mono (round m s hI φ S a w r) ?_
  rintro _ a' w' ⟨x, s', φ', S', rfl, q, r'⟩
  cases x with
  | normal =>
    obtain ⟨m', hlt, hI'⟩ := q
    exact ⟨m', hlt, s', φ', S', hI', r'⟩
  | exit id => exact ⟨.exit id, s', φ', S', rfl, q, r'⟩
  | goto l => exact ⟨.goto l, s', φ', S', rfl, q, r'⟩
  | ret => exact ⟨.ret, s', φ', S', rfl, q, r'⟩
theorem cwp_less {c : Code} {Q : AEx → AS → Prop} {s : AS} (s0 : AS) (l : Less E.n s0 s) (h : cwp P E nt c Q s0) : cwp P E nt c Q s :=
  fun _ S a w r => h _ S a w (r.less l)
theorem cwp_region_y {id : Nat} {pre post : List Oper} {oc : Oper} {f : Operand} {args : Array Operand} {ts : Array TypeId} {l : Nat} {z : List Nat} {K : AS → Prop} {Q : AEx → AS → Prop} {s : AS}
    (hoc : oc.op = .call { callee := .value f, args, argTypes := ts }) (hg : oc.guard = none) (hd : dstOk nt (pre ++ oc :: post) = true)
    (h : wpI P z (fun s => (aev f).run s = some (.fn (.yield l) [] []) ∧ ∃ us, (aevs args.toList).run s = some us ∧ AYield P l E.φ us s.h s.n fun r h' n' => wpI P z K post (({ s with h := h', n := n' } : AS).put oc.dst r)) pre s)
    (hK : ∀ s, K s → Q .normal s) : cwp P E nt (.region id (pre ++ oc :: post).toArray false) Q s := by
  intro φ S a w r
  refine (wpIn_wide (n := 0)).1 (wpIn_region_lit ?_)
  simp only [dstOk, List.all_append, List.all_cons, Bool.and_eq_true] at hd
  refine wpI_sound wide_wide (rest := oc :: post) ?_ pre s φ S a w hd.1 r h
  rintro s φ S a w ⟨hc, us, hus, hy⟩ r
  have rf := aev_rel r.slots hc
  obtain ⟨l1, l2⟩ := aevs_rel r.slots hus
  refine wpListIn_plain hg fun K' hK' => ?_
  generalize hf : a.eval f = fv at rf
  cases rf with
  | @fn _ _ _ _ gi gc h1 h2 h3 h4 =>
    obtain rfl : gi = #[] := by simpa using h1.symm
    obtain rfl : gc = #[] := by simpa using h3.symm
    obtain ⟨fn, tmps, assign, body, e1, hr⟩ := hy w S φ (args.map a.eval) r.st.le r.hp (by simp [l1]) fun j h1 h2 => by
      have := l2 j h1 (by simpa using h2)
      simpa using this
    have hrun : (oc.semAt Fence.wide.round a.eval).run P w = .ok (.round l fn tmps assign body) w := by
      show (execOp a.eval oc).run P w = _
      unfold execOp
      simp only [hoc, resolve, hf, Deferred.ofValue, Sem.run_bind, Sem.run_pure, Result.andThen, invoke]
      simpa using e1
    unfold Oper.wpIn
    rw [hrun]
    refine ⟨fun _ _ => trivial, ?_⟩
    rw [Oper.uponIn_round]
    refine ⟨fun hh => by simp [Fence.wide] at hh, ?_⟩
    refine hr.mono ?_
    rintro e w' ⟨v, r', h', n', φ', S', rfl, q, a3, a4, a5, a6⟩
    refine hK' _ _ ?_
    have := wpI_sound (P := P) (E := E) (nt := nt) (z := z) (ops := (pre ++ oc :: post).toArray) (Q0 := K) (Q := lift E nt Q) (m := 0) wide_wide (rest := []) (fun s φ S a w q r => ⟨.normal, s, φ, S, rfl, hK s q, r⟩) post _ φ' S' (a.put oc.dst v) w' hd.2.2 ((r.heap a4 a3 a5).put hd.2.1 a6) q
    rwa [List.append_nil] at this
end
theorem wpI_of_wpL {z : List Nat} {ops : Array Oper} {Q : AS → Prop} : ∀ (l : List Oper) (s : AS), (l.all fun o => o.guard.isNone && !isDefer o.op && (Op.callOf o.op).isNone) = true → wpL P z ops Q l s → wpI P z Q l s
  | [], s, _, h => h
  | o :: l, s, hl, h => by
    simp only [List.all_cons, Bool.and_eq_true, Option.isNone_iff_eq_none, Bool.not_eq_true'] at hl
    obtain ⟨⟨⟨h1, h2⟩, h3⟩, h4⟩ := hl
    rw [wpL] at h
    unfold aguard at h
    rw [h1] at h
    have h := h.1 rfl
    rw [h3] at h
    refine ⟨⟨h1, h2⟩, ?_⟩
    dsimp only at h
    cases e : fzO P s.n (zf z o.dst) o.op s with
    | none => rw [e] at h; exact h
    | some p => rw [e] at h; exact wpI_of_wpL l _ h4 h
end Go.Ab
namespace Go.Ab
open Go
theorem Rel.cells {w w' : World} {S : Nat → Prop} {φ : Pm} {x : AV} {v : Value} (h : Rel w S φ x v) (hw : ∀ a, w'.cell? a = w.cell? a) : Rel w' S φ x v := by
  induction h with
  | bot => exact .bot
  | bool => exact .bool
  | int => exact .int
  | str => exact .str
  | nilp => exact .nilp
  | ptr h => exact .ptr h
  | rptr h => exact .rptr h
  | cp V hs hc ho hr ih => exact .cp V hs (fun j hj => (hw _).trans (hc j hj)) ho ih
  | gp => exact .gp
  | nils => exact .nils
  | slnil => exact .slnil
  | sl V hs hcap hsz hc ho hr ih => exact .sl V hs hcap hsz (fun i j hi hj => (hw _).trans (hc i j hi hj)) ho ih
  | rownil h => exact .rownil h
  | row h hl ho => exact .row h hl ho
  | bsl h => exact .bsl h
  | fn h1 h2 h3 h4 ih1 ih2 => exact .fn h1 ih1 h3 ih2
  | nilf => exact .nilf
  | iface h ih => exact .iface ih
  | nili => exact .nili
  | agg h1 h2 ih => exact .agg h1 ih
  | tup h1 h2 ih => exact .tup h1 ih
  | nilm => exact .nilm
  | mp h => exact .mp h
theorem RowAt.cells {w w' : World} {b : Nat} {cs : Array Value} (h : RowAt w b cs) (hw : ∀ (k : Nat) (o : Go.Obj), w.heap[k]? = some o → o.isCells = true → w'.heap[k]? = some o) : RowAt w' b cs := by
  obtain ⟨ty, fz, h1, h2⟩ := h
  exact ⟨ty, fz, hw _ _ h1 rfl, h2⟩
theorem ObjRel.cells {w w' : World} {S : Nat → Prop} {φ : Pm} {id : Nat} {o : AObj} (h : ObjRel w S φ id o) (hw : ∀ a, w'.cell? a = w.cell? a) (hk : ∀ (k : Nat) (o : Go.Obj), w.heap[k]? = some o → o.isCells = true → w'.heap[k]? = some o) : ObjRel w' S φ id o := by
  have hb : ∀ {φ : Pm} {cells cs}, BoxRel w S φ cells cs → BoxRel w' S φ cells cs := fun h => ⟨h.1, fun j h1 h2 => (h.2 j h1 h2).cells hw⟩
  have hr : ∀ {sz xs cs}, RowRel w S sz xs cs → RowRel w' S sz xs cs := fun h => ⟨h.1, fun i j hi hj => let ⟨v, h1, h0, h2⟩ := h.2 i j hi hj; ⟨v, h1, h0, h2.cells hw⟩⟩
  cases o with
  | dead => trivial
  | box cells =>
    obtain ⟨b, cs, h1, h2, h3⟩ := h
    exact ⟨b, cs, h1, h2.cells hk, hb h3⟩
  | fbox cells =>
    obtain ⟨b, cs, h1, h2, h3, h4⟩ := h
    exact ⟨b, cs, h1, h2.cells hk, hb h3, h4⟩
  | row sz g xs =>
    obtain ⟨h0, h1⟩ := h
    refine ⟨h0, ?_⟩
    rcases h1 with h1 | ⟨b, cap, cs, h1, h2, h3, h4, h5⟩
    · exact .inl h1
    · exact .inr ⟨b, cap, cs, h1, h2.cells hk, h3, h4, hr h5⟩
  | frow sz g xs =>
    rcases h with h1 | ⟨b, cap, cs, h1, h2, h3, h4, h5, h6⟩
    · exact .inl h1
    · exact .inr ⟨b, cap, cs, h1, h2.cells hk, h3, h4, hr h5, h6⟩
  | map es => exact h

/-! ### a loop's record in sight -/
@[reducible] def GY (G : Glob) (l D : Nat) (o : Go.Obj) : Glob :=
  { inv := fun w S => (∃ S0 : Nat → Prop, (∀ b, S0 b → S b) ∧ ¬ S0 l ∧ ¬ S0 D ∧ G.inv w S0) ∧ (w.heap[l]? = some o ∧ S l) ∧ (w.heap[D]? = some (.deferred (some [])) ∧ S D)
    mono := fun ⟨⟨S0, h1, h2, h3, h4⟩, ⟨h5, h6⟩, h7, h8⟩ hw hS => ⟨⟨S0, fun b hb => hS b (h1 b hb), h2, h3, G.mono h4 (fun b hb => hw b (h1 b hb)) fun _ h => h⟩, ⟨(hw _ h6).trans h5, hS _ h6⟩, (hw _ h8).trans h7, hS _ h8⟩
    cells := G.cells
    look := fun ⟨⟨S0, h1, _, _, h4⟩, _⟩ hg j hj => by
      obtain ⟨v, a, b, c⟩ := G.look h4 hg j hj
      exact ⟨v, a, b, c.mono (fun _ _ => rfl) h1 (Pm.le_refl _)⟩ }
theorem putObj_cell {w : World} {l : Nat} {o o' : Go.Obj} (h : w.heap[l]? = some o) (ho : o.isCells = false) (ho' : o'.isCells = false) (a : Addr) : (w.putObj l o').cell? a = w.cell? a := by
  by_cases e : a.block = l
  · have hl : l < w.heap.size := (Array.getElem?_eq_some_iff.1 h).1
    have h1 : (w.putObj l o').heap[l]? = some o' := World.putObj_heap_same hl
    have key : ∀ x : Go.Obj, x.isCells = false → ∀ w : World, w.heap[l]? = some x → w.cell? a = none := by
      intro x hx w hw
      unfold World.cell?
      rw [e, hw]
      split
      · rename_i heq; cases heq; cases hx
      · rfl
    exact (key o' ho' _ h1).trans (key o ho _ h).symm
  · exact cell_of_block (World.putObj_heap_other e)
theorem putObj_kept {w : World} {l : Nat} {o o' : Go.Obj} (h : w.heap[l]? = some o) (ho : o.isCells = false) (k : Nat) (x : Go.Obj) (hx : w.heap[k]? = some x) (hc : x.isCells = true) : (w.putObj l o').heap[k]? = some x := by
  have : k ≠ l := fun e => by subst e; rw [h] at hx; cases hx; rw [ho] at hc; cases hc
  rw [World.putObj_heap_other this]; exact hx
theorem HeapOK.swap {G : Glob} {l D : Nat} {o o' : Go.Obj} {w : World} {S : Nat → Prop} {φ : Pm} {h : Nat → AObj} {n : Nat} (H : @HeapOK (GY G l D o) w S φ h n) (ho : o.isCells = false) (ho' : o'.isCells = false) (hD : D ≠ l) :
    @HeapOK (GY G l D o') (w.putObj l o') S φ h n := by
  obtain ⟨⟨S0, h1, h2, h3, h4⟩, ⟨h5, h6⟩, h7, h8⟩ := @HeapOK.glob (GY G l D o) _ _ _ _ _ H
  have hl : l < w.heap.size := (Array.getElem?_eq_some_iff.1 h5).1
  refine @HeapOK.mk (GY G l D o') _ _ _ _ _ (fun id => (@HeapOK.obj (GY G l D o) _ _ _ _ _ H id).cells (putObj_cell h5 ho ho') (putObj_kept h5 ho)) (@HeapOK.inj (GY G l D o) _ _ _ _ _ H) (@HeapOK.sep (GY G l D o) _ _ _ _ _ H)
    (fun b hb => by rw [World.putObj_size]; exact @HeapOK.bnd (GY G l D o) _ _ _ _ _ H b hb) (@HeapOK.new (GY G l D o) _ _ _ _ _ H)
    ⟨⟨S0, h1, h2, h3, G.mono h4 (fun b hb => World.putObj_heap_other fun e => h2 (e ▸ hb)) fun _ h => h⟩, ⟨World.putObj_heap_same hl, h6⟩, (World.putObj_heap_other hD).trans h7, h8⟩
theorem GStep.round {w w' w3 : World} {S S' S'' : Nat → Prop} {φ φ' φ'' : Pm} {h h' h'' : Nat → AObj} {l : Nat} {o o1 : Go.Obj} (G1 : GStep w S φ h w' S' φ' h') (G3 : GStep (w'.putObj l o1) S' φ' h' w3 S'' φ'' h'')
    (hl : w.heap[l]? = some o) : GStep w S φ h (w3.putObj l o) S'' φ'' h'' := by
  have hlt : l < w.heap.size := (Array.getElem?_eq_some_iff.1 hl).1
  have s1 := G1.size
  have s3 := G3.size
  rw [World.putObj_size] at s3
  refine ⟨G3.os.trans G1.os, G3.tape.trans G1.tape, G3.out.trans G1.out, by rw [World.putObj_size]; omega, fun b hb => G3.sub b (G1.sub b hb), Pm.le_trans G1.le G3.le, fun k hk hn => ?_, fun k hk => ?_, fun id k hk => ?_⟩
  · by_cases e : k = l
    · subst e
      rw [World.putObj_heap_same (by omega), hl]
    · rw [World.putObj_heap_other e, G3.keep k (by rw [World.putObj_size]; omega) fun id hid => ?_, World.putObj_heap_other e, G1.keep k hk hn]
      rcases G1.live id k hid with ⟨id', h1⟩ | h1
      · exact hn id' h1
      · omega
  · rcases G3.from_ k hk with h1 | ⟨id, h1⟩ | h1
    · exact G1.from_ k h1
    · rcases G1.live id k h1 with h2 | h2
      · exact .inr (.inl h2)
      · exact .inr (.inr h2)
    · rw [World.putObj_size] at h1
      exact .inr (.inr (by omega))
  · rcases G3.live id k hk with ⟨id', h1⟩ | h1
    · exact G1.live id' k h1
    · rw [World.putObj_size] at h1
      exact .inr (by omega)
end Go.Ab
namespace Go.Ab
open Go
variable {P : Program}

/-- one round of a loop over a function whose body is a region of stores: as a call of yield -/
theorem ayield_of (G : Glob) {l D : Nat} (hD : D ≠ l) {rec : Loop} {nt p1 p2 tb i3 i4 i1 i5 : Nat} {o3 o4 o5 : Array Oper} {z : List Nat} (hst : rec.state = .ready) (hpe : rec.pending = none) (hps : rec.params = #[p1, p2])
    (has : rec.assign = .seq (.region i3 o3 false) (.region i4 o4 false)) (hbo : rec.body = .block i1 (.region i5 o5 false)) (hts : rec.tmps.size = nt) (hp12 : p1 < nt ∧ p2 < nt ∧ p1 ≠ p2 ∧ tb ≠ p1 ∧ tb ≠ p2)
    (hd3 : dstOk nt o3.toList = true) (hd4 : dstOk nt o4.toList = true) (hd5 : dstOk nt o5.toList = true)
    {φ0 : Pm} {ib b7 : Nat} (hb : φ0 ib 0 = some (.at b7 1 1)) (ht7 : rec.tmps.getD tb undef = .pointer (some ⟨b7, 0, none⟩)) {i v : AV} {h : Nat → AObj} {n : Nat} {Q : AV → (Nat → AObj) → Nat → Prop}
    (hw : ∀ o : Go.Obj, @wpI (GY G l D o) P z (fun s => @wpI (GY G l D o) P z (fun s => ∀ o : Go.Obj, @wpI (GY G l D o) P z (fun s => Q (.bool true) s.h s.n ∧ n ≤ s.n) o5.toList s) o4.toList s) o3.toList ⟨upd (upd (upd (fun _ => .bot) tb (.ptr ib 0)) p1 i) p2 v, h, n⟩) :
    @AYield (GY G l D (.loop rec)) P l φ0 [i, v] h n Q := by
  intro w S φ vs hle H hlen hrel
  have hg := @HeapOK.glob (GY G l D (.loop rec)) _ _ _ _ _ H
  obtain ⟨_, ⟨hl, hSl⟩, _⟩ := id hg
  have hlt : l < w.heap.size := (Array.getElem?_eq_some_iff.1 hl).1
  obtain ⟨x, y, rfl⟩ : ∃ x y, vs = #[x, y] := by
    have hs : vs.size = 2 := hlen.symm
    exact ⟨vs[0], vs[1], by
      apply Array.ext
      · simpa using hs
      · intro j h1 h2
        match j, h2 with
        | 0, _ => rfl
        | 1, _ => rfl⟩
  have rx : Rel w S φ i x := hrel 0 (by simp) (by simp)
  have ry : Rel w S φ v y := hrel 1 (by simp) (by simp)
  refine ⟨_, _, _, _, run_yield hl (by rw [hps]; rfl), roundIn_of_wpIn trivial ?_⟩
  have htm : (rec.params.zip #[x, y]).foldl (fun tmps (t, a) => tmps.setIfInBounds t a) rec.tmps = (rec.tmps.setIfInBounds p1 x).setIfInBounds p2 y := by rw [hps]; simp
  rw [htm, has]
  have r0 : @R (GY G l D (.loop rec)) ⟨w, S, φ, h, n⟩ nt ⟨upd (upd (upd (fun _ => .bot) tb (.ptr ib 0)) p1 i) p2 v, h, n⟩ φ S { tmps := (rec.tmps.setIfInBounds p1 x).setIfInBounds p2 y, defers := [] } w := by
    refine @R.mk (GY G l D (.loop rec)) _ _ _ _ _ _ _ (by simp [hts]) rfl (fun t => ?_) H (GStep.refl _ _ _ _) (Nat.le_refl _) (fun id hid g => (@HeapOK.new (GY G l D (.loop rec)) _ _ _ _ _ H id hid).2 g)
    obtain ⟨q1, q2, q3, q4, q5⟩ := hp12
    show Rel w S φ (upd (upd (upd (fun _ => .bot) tb (.ptr ib 0)) p1 i) p2 v t) (((rec.tmps.setIfInBounds p1 x).setIfInBounds p2 y).getD t undef)
    by_cases e2 : t = p2
    · subst e2
      rw [upd_same]
      have : ((rec.tmps.setIfInBounds p1 x).setIfInBounds t y).getD t undef = y := by simp [Array.getD, hts, q2]
      rw [this]; exact ry
    · rw [upd_ne _ _ e2]
      have h2 : ((rec.tmps.setIfInBounds p1 x).setIfInBounds p2 y).getD t undef = (rec.tmps.setIfInBounds p1 x).getD t undef := by
        simp only [Array.getD_eq_getD_getElem?]
        rw [Array.getElem?_setIfInBounds_ne (fun h => e2 h.symm)]
      rw [h2]
      by_cases e1 : t = p1
      · subst e1
        rw [upd_same]
        have : (rec.tmps.setIfInBounds t x).getD t undef = x := by simp [Array.getD, hts, q1]
        rw [this]; exact rx
      · rw [upd_ne _ _ e1]
        have h1 : (rec.tmps.setIfInBounds p1 x).getD t undef = rec.tmps.getD t undef := by
          simp only [Array.getD_eq_getD_getElem?]
          rw [Array.getElem?_setIfInBounds_ne (fun h => e1 h.symm)]
        rw [h1]
        by_cases e0 : t = tb
        · subst e0
          rw [upd_same, ht7]
          exact .ptr (hle _ _ _ hb)
        · rw [upd_ne _ _ e0]; exact .bot
  refine wpIn_seq (wpIn_region_list ?_)
  rw [← List.append_nil o3.toList]
  refine @wpI_sound (GY G l D (.loop rec)) P _ nt z _ _ _ _ _ (wide_round l) [] ?_ o3.toList _ φ S _ w hd3 r0 (hw _)
  intro s1 φ1 S1 a1 w1 q1 r1
  refine wpIn_region_list ?_
  rw [← List.append_nil o4.toList]
  refine @wpI_sound (GY G l D (.loop rec)) P _ nt z _ _ _ _ _ (wide_round l) [] ?_ o4.toList _ φ1 S1 _ w1 hd4 r1 q1
  intro s2 φ2 S2 a2 w2 q2 r2
  have H2 := @R.hp (GY G l D (.loop rec)) _ _ _ _ _ _ _ r2
  have st2 := @R.st (GY G l D (.loop rec)) _ _ _ _ _ _ _ r2
  obtain ⟨_, ⟨hl2, _⟩, _⟩ := @HeapOK.glob (GY G l D (.loop rec)) _ _ _ _ _ H2
  have hlt2 : l < w2.heap.size := (Array.getElem?_eq_some_iff.1 hl2).1
  obtain ⟨rb, hrb⟩ : ∃ rb : Loop, rb = { rec with state := .busy } := ⟨_, rfl⟩
  have hbr := run_beginRound (P := P) hl2 hst
  rw [← hrb] at hbr
  refine ⟨_, hbr, ?_⟩
  have H3 := HeapOK.swap H2 (o' := .loop rb) rfl rfl hD
  have r3 : @R (GY G l D (.loop rb)) ⟨w2.putObj l (.loop rb), S2, φ2, s2.h, s2.n⟩ nt s2 φ2 S2 a2 (w2.putObj l (.loop rb)) := by
    refine @R.mk (GY G l D (.loop rb)) _ _ _ _ _ _ _ (@R.sz (GY G l D (.loop rec)) _ _ _ _ _ _ _ r2) (@R.df (GY G l D (.loop rec)) _ _ _ _ _ _ _ r2)
      (fun t => (@R.ts (GY G l D (.loop rec)) _ _ _ _ _ _ _ r2 t).cells (putObj_cell hl2 rfl rfl)) H3 (GStep.refl _ _ _ _) (Nat.le_refl _) (fun id hid g => (@HeapOK.new (GY G l D (.loop rec)) _ _ _ _ _ H2 id hid).2 g)
  rw [hbo]
  refine wpIn_block (wpIn_region_list ?_)
  rw [← List.append_nil o5.toList]
  refine @wpI_sound (GY G l D (.loop rb)) P _ nt z _ _ _ _ _ (wide_round l) [] ?_ o5.toList _ φ2 S2 _ _ hd5 r3 (q2 _)
  rintro s4 φ4 S4 a4 w4 ⟨hq, hn⟩ r4
  have H4 := @R.hp (GY G l D (.loop rb)) _ _ _ _ _ _ _ r4
  have st4 := @R.st (GY G l D (.loop rb)) _ _ _ _ _ _ _ r4
  obtain ⟨_, ⟨hl4, _⟩, _⟩ := @HeapOK.glob (GY G l D (.loop rb)) _ _ _ _ _ H4
  have he : ({ rb with state := .ready, pending := none } : Loop) = rec := by
    subst hrb
    cases rec
    simp only at hst hpe
    subst hst; subst hpe
    rfl
  refine ⟨_, _, run_endRound none hl4, ?_⟩
  have e1 : ({ rb with state := if (none : Option Code).isNone = true then .ready else .done, pending := none } : Loop) = rec := he
  rw [e1]
  exact ⟨_, .bool true, s4.h, s4.n, φ4, S4, rfl, hq, HeapOK.swap H4 rfl rfl hD, hn, GStep.round st2 st4 hl, .bool⟩
end Go.Ab
namespace Go.Ab
open Go Go.Proofs Go.RowKit
variable {P : Program}
theorem GStep.beyond {w w' : World} {S S' : Nat → Prop} {φ φ' : Pm} {h h' : Nat → AObj} (g : GStep w S φ h w' S' φ' h') {l : Nat} {o : Go.Obj} (hl : w.heap.size ≤ l) : GStep w S φ h (w'.putObj l o) S' φ' h' :=
  ⟨g.os, g.tape, g.out, by rw [World.putObj_size]; exact g.size, g.sub, g.le, fun k hk hn => (World.putObj_heap_other (by omega)).trans (g.keep k hk hn), g.from_, g.live⟩
theorem heap_alloc2 (w : World) (o1 o2 : Go.Obj) (k : Nat) (hk : k < w.heap.size) : ((w.alloc o1).alloc o2).heap[k]? = w.heap[k]? :=
  (Below.heap_alloc _ _ _ (by simp; omega)).trans (Below.heap_alloc _ _ _ hk)
theorem HeapOK.enterLoop (G : Glob) {w : World} {S : Nat → Prop} {φ : Pm} {h : Nat → AObj} {n : Nat} (H : @HeapOK G w S φ h n) (rec : Loop) :
    @HeapOK (GY G (w.heap.size + 1) w.heap.size (.loop rec)) ((w.alloc (.deferred (some []))).alloc (.loop rec)) (fun b => S b ∨ b = w.heap.size + 1 ∨ b = w.heap.size) φ h n ∧
    GStep w S φ h ((w.alloc (.deferred (some []))).alloc (.loop rec)) (fun b => S b ∨ b = w.heap.size + 1 ∨ b = w.heap.size) φ h := by
  have hk := heap_alloc2 w (.deferred (some [])) (.loop rec)
  have hs : ((w.alloc (.deferred (some []))).alloc (.loop rec)).heap.size = w.heap.size + 2 := by simp
  have hL : ((w.alloc (.deferred (some []))).alloc (.loop rec)).heap[w.heap.size + 1]? = some (.loop rec) := by
    have := World.alloc_heap_new (w.alloc (.deferred (some []))) (.loop rec)
    rwa [World.size_alloc] at this
  have hD : ((w.alloc (.deferred (some []))).alloc (.loop rec)).heap[w.heap.size]? = some (.deferred (some [])) :=
    (Below.heap_alloc _ _ _ (by simp)).trans (World.alloc_heap_new w _)
  have hb := @HeapOK.bnd G _ _ _ _ _ H
  constructor
  · refine @HeapOK.mk (GY G _ _ _) _ _ _ _ _ (fun id => ?_) (@HeapOK.inj G _ _ _ _ _ H) (fun id b hl hS => ?_) (fun b hS => ?_) (@HeapOK.new G _ _ _ _ _ H) ?_
    · exact (@HeapOK.obj G _ _ _ _ _ H id).mono (fun b hS => hk b (hb b hS)) (fun b hS => .inl hS) (Pm.le_refl _) (fun _ => rfl) fun g b sz cap h1 h2 => hk b ((@HeapOK.obj G _ _ _ _ _ H id).live_lt h1 h2)
    · have hlt := @HeapOK.live_lt G _ _ _ _ _ _ _ H hl
      rcases hS with hS | hS | hS
      · exact @HeapOK.sep G _ _ _ _ _ H id b hl hS
      · omega
      · omega
    · rw [hs]
      rcases hS with hS | hS | hS
      · have := hb b hS; omega
      · omega
      · omega
    · refine ⟨⟨S, fun b hS => .inl hS, fun h => by have := hb _ h; omega, fun h => by have := hb _ h; omega, G.mono (@HeapOK.glob G _ _ _ _ _ H) (fun b hS => hk b (hb b hS)) fun _ h => h⟩, ⟨hL, .inr (.inl rfl)⟩, hD, .inr (.inr rfl)⟩
  · refine ⟨rfl, rfl, rfl, by rw [hs]; omega, fun b hS => .inl hS, Pm.le_refl _, fun k h1 _ => hk k h1, fun k hS => ?_, fun id k hl => .inl ⟨id, hl⟩⟩
    rcases hS with hS | hS | hS
    · exact .inl hS
    · exact .inr (.inr (by omega))
    · exact .inr (.inr (by omega))
theorem HeapOK.leaveLoop {G : Glob} {l D : Nat} {o : Go.Obj} {w : World} {S : Nat → Prop} {φ : Pm} {h : Nat → AObj} {n : Nat} (H : @HeapOK (GY G l D o) w S φ h n) : @HeapOK G (w.putObj D (.deferred none)) S φ h n := by
  obtain ⟨⟨S0, h1, h2, h3, h4⟩, ⟨h5, h6⟩, h7, h8⟩ := @HeapOK.glob (GY G l D o) _ _ _ _ _ H
  exact @HeapOK.mk G _ _ _ _ _ (fun id => (@HeapOK.obj (GY G l D o) _ _ _ _ _ H id).cells (putObj_cell h7 rfl rfl) (putObj_kept h7 rfl)) (@HeapOK.inj (GY G l D o) _ _ _ _ _ H) (@HeapOK.sep (GY G l D o) _ _ _ _ _ H)
    (fun b hb => by rw [World.putObj_size]; exact @HeapOK.bnd (GY G l D o) _ _ _ _ _ H b hb) (@HeapOK.new (GY G l D o) _ _ _ _ _ H)
    (G.mono h4 (fun b hb => World.putObj_heap_other fun e => h3 (e ▸ hb)) h1)
theorem Rel.leaveLoop {G : Glob} {l D : Nat} {o : Go.Obj} {w : World} {S : Nat → Prop} {φ : Pm} {h : Nat → AObj} {n : Nat} (H : @HeapOK (GY G l D o) w S φ h n) {x : AV} {v : Value} (r : Rel w S φ x v) : Rel (w.putObj D (.deferred none)) S φ x v := by
  obtain ⟨_, _, h7, _⟩ := @HeapOK.glob (GY G l D o) _ _ _ _ _ H
  exact r.cells (putObj_cell h7 rfl rfl)
end Go.Ab
namespace Go.Ab
open Go Go.Proofs Go.RowKit
variable {P : Program}
theorem R.enter [Glob] {fn : Func} {args : List AV} {h : Nat → AObj} {n : Nat} (hl : args.length ≤ fn.ntmps) {w : World} {S : Nat → Prop} {φ : Pm} {vs : Array Value} (H : HeapOK w S φ h n) (hlen : args.length = vs.size)
    (hrel : ∀ j (h1 : j < args.length) (h2 : j < vs.size), Rel w S φ args[j] vs[j]) :
    R ⟨w, S, φ, h, n⟩ fn.ntmps ⟨argT args, h, n⟩ φ S { tmps := vs ++ Array.replicate (fn.ntmps - vs.size) undef, defers := [] } w := by
  refine ⟨by simp; omega, rfl, fun t => ?_, H, GStep.refl _ _ _ _, Nat.le_refl _, fun id hid => (H.new id hid).2⟩
  by_cases ht : t < args.length
  · have e1 : argT args t = args[t] := by simp [argT, List.getD, ht]
    have e2 : (vs ++ Array.replicate (fn.ntmps - vs.size) undef).getD t undef = vs[t]'(by omega) := by
      rw [Array.getD_eq_getD_getElem?, Array.getElem?_append_left (by omega)]
      simp [show t < vs.size by omega]
    show Rel w S φ (argT args t) ((vs ++ Array.replicate (fn.ntmps - vs.size) undef).getD t undef)
    rw [e1, e2]
    exact hrel t ht (by omega)
  · have e1 : argT args t = .bot := by simp [argT, List.getD, ht]
    show Rel w S φ (argT args t) _
    rw [e1]; exact .bot
/-- a range over a function that doesn't break off -/
theorem rf_ok [G : Glob] {E : Ent} {nt : Nat} {s : AS} {φ : Pm} {S : Nat → Prop} {a : Act} {w : World} (r : R E nt s φ S a w) {g : Operand} {ps : Array Tmp} {assign body : Code} {gf : Nat} {ca : List AV}
    (hg : (aev g).run s = some (.fn (.func gf) [] ca)) {fn : Func} {c : Code} (hf : P.funcs[gf]? = some fn) (hb : fn.body = some c) (hres : fn.results = #[]) (hca : ca.length + 1 ≤ fn.ntmps)
    (eg : ∀ args w, (callFunc gf args).run P w = .ok (.enter gf args) w) {Qh : (Nat → AObj) → Nat → Prop}
    (hcall : ∀ (rec : Loop) (E' : Ent), E'.n = s.n → E'.h = s.h → E'.φ = φ → rec.state = .ready → rec.pending = none → rec.params = ps → rec.assign = assign → rec.body = body → rec.tmps = a.tmps →
      @cwp (GY G (w.heap.size + 1) w.heap.size (.loop rec)) P E' fn.ntmps c (fun x s' => (x = .normal ∨ x = .ret) ∧ Qh s'.h s'.n) ⟨argT (.fn (.yield (w.heap.size + 1)) [] [] :: ca), s.h, s.n⟩)
    {Q : Exit → Act → World → Prop}
    (hK : ∀ (o : Go.Obj) (φ' : Pm) (S' : Nat → Prop) (w' : World) (h' : Nat → AObj) (n' : Nat), Qh h' n' → @R (GY G (w.heap.size + 1) w.heap.size o) E nt { s with h := h', n := n' } φ' S' a w' →
      Q .normal { a with defers := { target := .collected w.heap.size, args := #[] } :: a.defers } w') :
    (Code.rangeFunc g ps assign body).wpIn Fence.wide 0 P Q a w := by
  have rg := aev_rel r.slots hg
  generalize hfv : a.eval g = fv at rg
  cases rg with
  | @fn _ _ _ _ vs us h1 h2 h3 h4 =>
  obtain rfl : vs = #[] := by simpa using h1.symm
  refine wpIn_rangeFunc fun f0 _ => ?_
  obtain ⟨rec, hrec⟩ : ∃ rec : LoopState → Option Code → Loop, rec = fun st pe => { state := st, pending := pe, fn := f0, tmps := a.tmps, params := ps, assign, body, defers := w.heap.size } := ⟨_, rfl⟩
  obtain ⟨H1, st1⟩ := HeapOK.enterLoop G r.hp (rec .ready none)
  obtain ⟨W1, hW1⟩ : ∃ W1, (w.alloc (.deferred (some []))).alloc (.loop (rec .ready none)) = W1 := ⟨_, rfl⟩
  rw [hW1] at H1 st1
  refine ⟨w.heap.size + 1, [{ target := .collected w.heap.size, args := #[] }], W1, { target := .fn (.func gf) us, args := #[Value.func (Fn.yield (w.heap.size + 1)) #[] #[]] }, W1, gf,
    #[Value.func (Fn.yield (w.heap.size + 1)) #[] #[]] ++ us, W1, ?_, ?_, fun _ _ => trivial, ?_, fun h => by simp [Fence.wide] at h, ?_⟩
  · rw [← hW1, hrec]; exact run_enterLoop_outer _ _ _ _ _
  · simp only [resolve, hfv]
    simp [go_sem]
  · simp [invoke, go_sem, eg]
  · refine callsIn_wide.2 (calls_of_wp hf hb ?_)
    have hrel : ∀ j (h1 : j < (AV.fn (.yield (w.heap.size + 1)) [] [] :: ca).length) (h2 : j < (#[Value.func (Fn.yield (w.heap.size + 1)) #[] #[]] ++ us).size), Rel W1 (fun b => S b ∨ b = w.heap.size + 1 ∨ b = w.heap.size) φ (AV.fn (.yield (w.heap.size + 1)) [] [] :: ca)[j] (#[Value.func (Fn.yield (w.heap.size + 1)) #[] #[]] ++ us)[j] := by
      intro j h1 h2
      cases j with
      | zero =>
        have e : (#[Value.func (Fn.yield (w.heap.size + 1)) #[] #[]] ++ us)[0] = Value.func (Fn.yield (w.heap.size + 1)) #[] #[] := by
          rw [Array.getElem_append_left (by simp)]; rfl
        rw [e]
        exact Rel.fn (vs := #[]) (us := #[]) rfl (fun i h => absurd h (Nat.not_lt_zero _)) rfl (fun i h => absurd h (Nat.not_lt_zero _))
      | succ j =>
        have hj : j < us.size := by simp only [Array.size_append, List.size_toArray, List.length_cons, List.length_nil] at h2; omega
        have := h4 j (by simpa using h1) hj
        have e : (#[Value.func (Fn.yield (w.heap.size + 1)) #[] #[]] ++ us)[j + 1] = us[j]'hj := by
          rw [Array.getElem_append_right (by simp)]; simp
        rw [e]
        exact st1.rel r.hp this
    have re := @R.enter (GY G (w.heap.size + 1) w.heap.size (.loop (rec .ready none))) fn (.fn (.yield (w.heap.size + 1)) [] [] :: ca) s.h s.n (by simpa using hca) _ _ _ _ H1 (by simp [h3]; omega) hrel
    have hc := hcall (rec .ready none) _ rfl rfl rfl (by rw [hrec]) (by rw [hrec]) (by rw [hrec]) (by rw [hrec]) (by rw [hrec]) (by rw [hrec]) _ _ _ _ re
    refine wp_mono hc ?_
    rintro _ a' w' ⟨x, s', φ', S', rfl, ⟨hx, q⟩, r'⟩
    have H2 := @R.hp (GY G _ _ _) _ _ _ _ _ _ _ r'
    have st2 := @R.st (GY G _ _ _) _ _ _ _ _ _ _ r'
    have df2 := @R.df (GY G _ _ _) _ _ _ _ _ _ _ r'
    have en2 := @R.en (GY G _ _ _) _ _ _ _ _ _ _ r'
    obtain ⟨_, ⟨hl2, _⟩, _⟩ := @HeapOK.glob (GY G _ _ _) _ _ _ _ _ H2
    have fin : a'.defers = [] ∧ ∃ v, (results fn a'.tmps).run P w' = .ok v w' ∧ rangePost Fence.wide 0 P (w.heap.size + 1) Q { a with defers := [{ target := .collected w.heap.size, args := #[] }] ++ a.defers } (.returned v) w' := by
      refine ⟨df2, .tuple #[], by simp [results, hres, go_sem], none, _, by have := run_endLoop (P := P) hl2 (by rw [hrec]; simp); rw [hrec] at this; exact this, ?_⟩
      refine hK (.loop { state := .exhausted, pending := none, fn := f0, tmps := a.tmps, params := ps, assign, body, defers := w.heap.size }) φ' S' _ s'.h s'.n q ?_
      have H3 := HeapOK.swap H2 (o' := .loop { rec .ready none with state := .exhausted }) rfl rfl (by omega)
      have st3 : GStep w S φ s.h (w'.putObj (w.heap.size + 1) (.loop { rec .ready none with state := .exhausted })) S' φ' s'.h := (st1.trans st2).beyond (by omega)
      rw [hrec] at H3 st3
      refine @R.mk (GY G _ _ _) _ _ _ _ _ _ _ r.sz r.df (fun t => ?_) H3 (r.st.trans st3) (Nat.le_trans r.en en2) r.eh
      exact st3.rel r.hp (r.ts t)
    rcases hx with rfl | rfl
    · exact fin
    · exact fin
end Go.Ab
namespace Go.Ab
open Go Go.Proofs Go.RowKit
variable {P : Program}
section
variable [Glob]
/-- a region behind a mark -/
theorem op_wpInD (ds : List Deferred) {E : Ent} {nt : Nat} {s : AS} {φ : Pm} {S : Nat → Prop} {a : Act} {w : World} (r : R E nt s φ S a w) {o : Oper} {b n' : Nat} {z : Bool} {v : AV} {ws : List W}
    (hb : Fr φ s.h b ∧ s.n ≤ n') (hn : b < n') (e : fzO P b z o.op s = some (v, ws)) {F : Fence} {m : Nat} (hF : Wide F) (hde : isDefer o.op = false) {K : Act → World → Prop} {Q : Exit → Act → World → Prop} (hd : o.dst.all (· < nt) = true)
    (hK : ∀ a' φ' S' w', R E nt ({ (s.app ws) with n := n' }.put o.dst v) φ' S' a' w' → K { a' with defers := ds } w') : o.wpIn F m P { a with defers := ds } w K Q := by
  obtain ⟨hw, nx, w', S', φ', e1, e2, e3, e4⟩ := fzO_good r.slots r.hp hb hn e
  have hs : o.semAt F.round ({ a with defers := ds } : Act).eval = execOp a.eval o := Oper.semAt_eq _ _ _ fun c hc => by rw [hc] at hde; cases hde
  have hput : ∀ x, ({ a with defers := ds } : Act).put o.dst x = { a.put o.dst x with defers := ds } := fun x => by cases o.dst <;> rfl
  unfold Oper.wpIn
  rw [hs, e1]
  refine ⟨fun f _ => hF.2 f, ?_⟩
  have r1 : R E nt { s with h := (s.app ws).h, n := n' } φ' S' a w' := r.heap hb.2 e2 e3.g
  have r2 : R E nt { (s.app ws) with n := n' } φ' S' a w' := by
    have : ({ (s.app ws) with n := n' } : AS) = { s with h := (s.app ws).h, n := n' } := by
      have := app_t hw s
      cases hs : s.app ws
      rw [hs] at this
      simp only at this
      rw [this]
    rw [this]; exact r1
  rcases e4 with ⟨x, rfl, hx⟩ | ⟨rfl, rfl⟩
  · have := hK _ _ _ _ (r2.put hd hx)
    rw [← hput] at this; exact this
  · have := hK _ _ _ _ (r2.put hd (x := .tuple #[]) .bot)
    rw [← hput] at this; exact this
theorem wpI_soundD (ds : List Deferred) {E : Ent} {nt : Nat} {z : List Nat} {ops : Array Oper} {Q0 : AS → Prop} {Q : Exit → Act → World → Prop} {F : Fence} {m : Nat} (hF : Wide F) {rest : List Oper}
    (hQ : ∀ s φ S a w, Q0 s → R E nt s φ S a w → wpListIn F m P ops Q rest { a with defers := ds } w) :
    ∀ (l : List Oper) (s : AS) (φ : Pm) (S : Nat → Prop) (a : Act) (w : World), dstOk nt l = true → R E nt s φ S a w → wpI P z Q0 l s → wpListIn F m P ops Q (l ++ rest) { a with defers := ds } w
  | [], s, φ, S, a, w, _, r, h => hQ s φ S a w h r
  | o :: l, s, φ, S, a, w, hd, r, h => by
    simp only [dstOk, List.all_cons, Bool.and_eq_true] at hd
    have IH := fun s φ S a w => wpI_soundD ds (z := z) (ops := ops) hF hQ l s φ S a w hd.2
    rw [wpI] at h
    obtain ⟨⟨hg, hde⟩, h⟩ := h
    rw [List.cons_append]
    refine wpListIn_plain hg fun K hK => ?_
    unfold oK at h
    split at h
    · rename_i v ws e
      exact op_wpInD ds r ⟨r.hp.new _ (Nat.le_refl _), Nat.le_succ _⟩ (Nat.lt_succ_self _) e hF hde hd.1 fun a' φ' S' w' r' => hK _ _ (IH _ _ _ _ _ r' h)
    · exact h.elim
end
theorem wpIn_seq_cwp [Glob] {E : Ent} {nt : Nat} {s : AS} {φ : Pm} {S : Nat → Prop} {a : Act} {w : World} (r : R E nt s φ S a w) {x y : Code} {Qc : AS → Prop} {Q : Exit → Act → World → Prop}
    (hx : cwp P E nt x (seqQ Qc fun _ _ => False) s) (hy : ∀ s φ S a w, Qc s → R E nt s φ S a w → y.wpIn Fence.wide 0 P Q a w) : (Code.seq x y).wpIn Fence.wide 0 P Q a w := by
  refine wpIn_seq (wpIn_mono (wpIn_wide.2 (hx φ S a w r)) ?_)
  rintro _ a' w' ⟨x, s', φ', S', rfl, q, r'⟩
  cases x with
  | normal => exact hy _ _ _ _ _ q r'
  | exit id => exact q.elim
  | goto l => exact q.elim
  | ret => exact q.elim
theorem wpIn_pre3 [Glob] {E : Ent} {nt : Nat} {s : AS} {φ : Pm} {S : Nat → Prop} {a : Act} {w : World} (r : R E nt s φ S a w) {c0 c1 c2 b t : Code} {Qc : AS → Prop} {Q : Exit → Act → World → Prop}
    (hx : cwp P E nt c0 (seqQ (cwp P E nt c1 (seqQ (cwp P E nt c2 (seqQ Qc fun _ _ => False)) fun _ _ => False)) fun _ _ => False) s)
    (hy : ∀ s φ S a w, Qc s → R E nt s φ S a w → b.wpIn Fence.wide 0 P (Exit.then (t.wpIn Fence.wide 0 P Q) Q) a w) : (Code.seq c0 (.seq c1 (.seq (.seq c2 b) t))).wpIn Fence.wide 0 P Q a w :=
  wpIn_seq_cwp r hx fun _ _ _ _ _ q r => wpIn_seq_cwp r q fun _ _ _ _ _ q r => wpIn_seq (wpIn_seq_cwp r q fun s φ S a w q r => hy s φ S a w q r)
/-- the function leaves: its mark is taken, its results told -/
theorem rf_tail (G : Glob) {fn : Func} {E : Ent} {s : AS} {φ : Pm} {S : Nat → Prop} {a : Act} {w : World} {l D : Nat} {o : Go.Obj} (r : @R (GY G l D o) E fn.ntmps s φ S a w) (hD : E.w.heap.size ≤ D)
    {Q : AV → (Nat → AObj) → Nat → Prop} (hq : resK (ares P s fn.results.toList) Q s) :
    LeavesInM Fence.wide 0 P fn a.tmps (fun e w' => ∃ v r h' n' φ' S', e = .returned v ∧ Q r h' n' ∧ @HeapOK G w' S' φ' h' n' ∧ E.n ≤ n' ∧ GStep E.w E.S E.φ E.h w' S' φ' h' ∧ Rel w' S' φ' r v) [{ target := .collected D, args := #[] }] .returning w := by
  have H := @R.hp (GY G l D o) _ _ _ _ _ _ _ r
  have st := @R.st (GY G l D o) _ _ _ _ _ _ _ r
  obtain ⟨_, _, ⟨h7, _⟩⟩ := @HeapOK.glob (GY G l D o) _ _ _ _ _ H
  have r3 : @R G E fn.ntmps s φ S a (w.putObj D (.deferred none)) :=
    @R.mk G _ _ _ _ _ _ _ (@R.sz (GY G l D o) _ _ _ _ _ _ _ r) (@R.df (GY G l D o) _ _ _ _ _ _ _ r) (fun t => Rel.leaveLoop H (@R.ts (GY G l D o) _ _ _ _ _ _ _ r t)) (HeapOK.leaveLoop H) (st.beyond hD)
      (@R.en (GY G l D o) _ _ _ _ _ _ _ r) (@R.eh (GY G l D o) _ _ _ _ _ _ _ r)
  have ⟨us, h1, h2⟩ : ∃ us, ares P s fn.results.toList = some us ∧ Q (mkRes us) s.h s.n := by
    unfold resK at hq
    split at hq
    · exact ⟨_, ‹_›, hq⟩
    · exact hq.elim
  obtain ⟨u, g1, g2⟩ := results_run r3 h1
  refine ⟨by simp, .inl ⟨D, _, rfl, run_takeDeferred h7, u, g1, u, mkRes us, s.h, s.n, φ, S, rfl, h2, @R.hp G _ _ _ _ _ _ _ r3, @R.en G _ _ _ _ _ _ _ r3, @R.st G _ _ _ _ _ _ _ r3, g2⟩⟩
end Go.Ab
namespace Go.Ab
open Go Go.Proofs Go.RowKit
variable {P : Program}
/-- what a world has no say in -/
def RelA (x : AV) (v : Value) : Prop := ∀ (w : World) (S : Nat → Prop) (φ : Pm), Rel w S φ x v
theorem HeapOK.below [Glob] {w w' : World} {S : Nat → Prop} {φ : Pm} {h : Nat → AObj} {n : Nat} (H : HeapOK w S φ h n) (hb : Below w.heap.size w w') : HeapOK w' S φ h n ∧ GStep w S φ h w' S φ h :=
  ⟨⟨fun id => (H.obj id).mono (fun b hS => hb.block b (H.bnd b hS)) (fun _ h => h) (Pm.le_refl _) (fun _ => rfl) (fun g b sz cap h1 h2 => hb.block b ((H.obj id).live_lt h1 h2)), H.inj, H.sep,
    fun b hS => Nat.lt_of_lt_of_le (H.bnd b hS) hb.size, H.new, Glob.mono H.glob (fun b hS => hb.block b (H.bnd b hS)) (fun _ h => h)⟩,
   ⟨hb.os, hb.tape, hb.output, hb.size, fun _ h => h, Pm.le_refl _, fun k hk _ => hb.block k hk, fun _ h => .inl h, fun id _ h => .inl ⟨id, h⟩⟩⟩
/-- a contract of the kit's, as a call that touches nothing -/
theorem apure_below [Glob] {f : FuncId} {args : List AV} {r : AV} (hf : ∃ fn, P.funcs[f]? = some fn ∧ (fn.name == "runtime.NumGoroutine") = false ∧ fn.body.isNone = false) (hlt : r.lt 0)
    (hc : ∀ (w : World) (S : Nat → Prop) (vs : Array Value), Glob.inv w S → (∀ b, S b → b < w.heap.size) → args.length = vs.size → (∀ j (h1 : j < args.length) (h2 : j < vs.size), ∃ φ, Rel w S φ args[j] vs[j]) →
      Calls P f vs w fun e w' => ∃ v, e = .returned v ∧ RelA r v ∧ Below w.heap.size w w') : APure P f args r := by
  refine ⟨hf, fun w S φ vs H hl hr => ?_⟩
  refine (hc w S vs H.glob H.bnd hl fun j h1 h2 => ⟨φ, hr j h1 h2⟩).mono ?_
  rintro e w' ⟨v, rfl, hv, hb⟩
  obtain ⟨H', st⟩ := H.below hb
  exact ⟨v, r, dead, 0, φ, S, rfl, ⟨rfl, hlt⟩, H', Nat.le_refl _, st, hv _ _ _⟩
theorem relA_str (l : List UInt8) : RelA (.str l) (.string ⟨l.toArray⟩) := fun _ _ _ => .str
theorem relA_int (k : IntKind) (n : Int) : RelA (.int k n) (.int k n) := fun _ _ _ => .int
theorem relA_bool (b : Bool) : RelA (.bool b) (.bool b) := fun _ _ _ => .bool
theorem relA_tup2 {x y : AV} {v u : Value} (h1 : RelA x v) (h2 : RelA y u) : RelA (.tup [x, y]) (.tuple #[v, u]) := fun w S φ => .tup rfl fun i hi hi' => by
  match i, hi with
  | 0, _ => exact h1 w S φ
  | 1, _ => exact h2 w S φ
theorem rel_str {w : World} {S : Nat → Prop} {φ : Pm} {l : List UInt8} {v : Value} (h : Rel w S φ (.str l) v) : v = .string ⟨l.toArray⟩ := by cases h; rfl
theorem rel_int {w : World} {S : Nat → Prop} {φ : Pm} {k : IntKind} {n : Int} {v : Value} (h : Rel w S φ (.int k n) v) : v = .int k n := by cases h; rfl
theorem arr2 {vs : Array Value} (h : 2 = vs.size) : ∃ x y, vs = #[x, y] := ⟨vs[0], vs[1], by
  apply Array.ext
  · simpa using h.symm
  · intro j h1 h2
    match j, h2 with
    | 0, _ => rfl
    | 1, _ => rfl⟩
theorem arr3 {vs : Array Value} (h : 3 = vs.size) : ∃ x y z, vs = #[x, y, z] := ⟨vs[0], vs[1], vs[2], by
  apply Array.ext
  · simpa using h.symm
  · intro j h1 h2
    match j, h2 with
    | 0, _ => rfl
    | 1, _ => rfl
    | 2, _ => rfl⟩
theorem arr1 {vs : Array Value} (h : 1 = vs.size) : ∃ x, vs = #[x] := ⟨vs[0], by
  apply Array.ext
  · simpa using h.symm
  · intro j h1 h2
    match j, h2 with
    | 0, _ => rfl⟩
end Go.Ab
namespace Go.Ab
open Go
variable [Glob]
def Z := (And.intro (And.intro (And.intro (And.intro (And.intro @STy @SAll) (And.intro @SB @SL)) (And.intro (And.intro @SN @upd_ne) (And.intro @gO_of (And.intro @hi_int @lo_int)))) (And.intro (And.intro (And.intro @getD_map_lt @toNat_cast) (And.intro @List.length_map.{0,0} @List.length_take.{0})) (And.intro (And.intro @List.length_drop.{0} @List.length_append.{0}) (And.intro @List.length_replicate.{0} (And.intro @List.drop_succ_cons.{0} @List.drop_zero.{0}))))) (And.intro (And.intro (And.intro (And.intro @List.take_succ_cons.{0} @List.take_zero.{0}) (And.intro @List.set_cons_zero.{0} @List.set_cons_succ.{0})) (And.intro (And.intro @List.getD_cons_zero.{0} @List.getD_cons_succ.{0}) (And.intro @List.replicate_zero.{0} (And.intro @List.flatten_nil.{0} @List.flatten_cons.{0})))) (And.intro (And.intro (And.intro @replicate_lit @List.take_length.{0}) (And.intro @Nat.min_self (And.intro @i64_wrap @Int.toNat_natCast))) (And.intro (And.intro @Int.toNat_zero @Int.toNat_one) (And.intro @decide_true (And.intro @decide_false @Int.cast_ofNat_Int))))))
def ZL := (And.intro (And.intro (And.intro @List.length_append.{0} @List.length_take.{0}) (And.intro @List.length_drop.{0} @List.length_map.{0,0})) (And.intro (And.intro @List.length_cons.{0} @List.length_nil.{0}) (And.intro @List.length_set.{0} (And.intro @List.length_replicate.{0} @encB_len))))
end Go.Ab
