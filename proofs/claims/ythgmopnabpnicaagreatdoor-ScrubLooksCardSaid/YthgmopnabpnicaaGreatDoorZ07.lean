import Derived.Test.YthgmopnabpnicaaGreatDoorZ06
set_option linter.all false
namespace Go.Ab
open Go
variable [Glob]

variable {P : Program} {s : AS} {n : Nat}

/-! ### reckoning an operation: what is behind a test or a look is not touched before the test is decided -/
def bO {α β : Type} (x : Option α) (f : α → Option β) : Option β := x.bind f
open Classical in
noncomputable def gO {β : Type} (c : Prop) (x : Option β) : Option β := if c then x else none
def oV (v : Option AV) : Option (AV × List W) := v.map fun v => (v, [])

@[congr] theorem bO_congr {α β : Type} {x x' : Option α} {f : α → Option β} (h : x = x') : bO x f = bO x' f := by rw [h]
@[congr] theorem gO_congr {β : Type} {c c' : Prop} {x : Option β} (h : c = c') : gO c x = gO c' x := by rw [h]

theorem bO_some {α β : Type} (a : α) (f : α → Option β) : bO (some a) f = f a := rfl
theorem gO_true {β : Type} (x : Option β) : gO True x = x := by simp [gO]
theorem gO_of {β : Type} {c : Prop} (h : c) (x : Option β) : gO c x = x := by simp [gO, h]
theorem oV_some (v : AV) : oV (some v) = some (v, []) := rfl
theorem bO_eq {α β : Type} (m : RM α) (f : α → RM β) : (m.bind f).run s = bO (m.run s) fun a => (f a).run s := RM.run_bind m f s
theorem gO_eq {α : Type} (c : Prop) [Decidable c] (x : RM α) : (guardA c x).run s = gO c (x.run s) := by
  rw [run_guardA]; unfold gO; split <;> simp [*]
theorem val_eq (v : AV) : (val v).run s = some (v, []) := rfl
theorem valO_eq (v : Option AV) : (valO v).run s = oV v := by cases v <;> rfl
theorem ret_eq {α : Type} (a : α) : (RM.ret a).run s = some a := rfl

theorem ev_tmp (t : Nat) : ev s (.tmp t) = s.t t := rfl
theorem ev_const (v : Value) : ev s (.const v) = ofV v := rfl
theorem ev_func (f : FuncId) : ev s (.func f) = .fn (.func f) [] [] := rfl
theorem ev_global (g : Nat) : ev s (.global g) = .gp g 0 := rfl
theorem aevs_eq : ∀ xs : List Operand, (aevs xs).run s = some (xs.map (ev s))
  | [] => rfl
  | x :: xs => by rw [aevs, RM.run_bind, aev_eq, Option.bind_some, RM.run_bind, aevs_eq xs]; rfl
theorem aevL_eq : ∀ xs : List (Nat × Operand), (aevL xs).run s = some (xs.map fun p => (p.1, ev s p.2))
  | [] => rfl
  | (i, x) :: xs => by rw [aevL, RM.run_bind, aev_eq, Option.bind_some, RM.run_bind, aevL_eq xs]; rfl

theorem ofV_bool (b : Bool) : ofV (.bool b) = .bool b := rfl
theorem ofV_int (k : IntKind) (n : Int) : ofV (.int k n) = .int k n := rfl
theorem ofV_str (l : ByteArray) : ofV (.string l) = .str l.data.toList := rfl
theorem ofV_nilp : ofV (.pointer none) = .nilp := rfl
theorem ofV_nils : ofV (.slice none 0 0) = .nils := rfl
theorem ofV_nilf : ofV .nilFunc = .nilf := rfl
theorem ofV_nili : ofV .nilIface = .nili := rfl
theorem ofV_nilm : ofV (.map none) = .nilm := rfl

/-! the operations -/
theorem E_move (x : Operand) : (aopV P n (.move x)).run s = some (ev s x, []) := by simp only [aopV, bO_eq, aev_eq, bO_some, val_eq]
theorem E_assign (x : Operand) : (aopV P n (.assign x)).run s = some (ev s x, []) := by simp only [aopV, bO_eq, aev_eq, bO_some, val_eq]
def pickO (c x y : AV) : Option AV := match c with | .bool t => some (if t then x else y) | _ => none
theorem E_pick (c x y : Operand) : (aopV P n (.pick c x y)).run s = oV (pickO (ev s c) (ev s x) (ev s y)) := by
  simp only [aopV, bO_eq, aev_eq, bO_some]
  cases ev s c <;> simp only [bO_eq, aev_eq, bO_some, val_eq, pickO, oV] <;> rfl
theorem pick_tt (x y : AV) : pickO (.bool true) x y = some x := rfl
theorem pick_ff (x y : AV) : pickO (.bool false) x y = some y := rfl
theorem pick_bool (t a b : Bool) : pickO (.bool t) (.bool a) (.bool b) = some (.bool (if t then a else b)) := by cases t <;> rfl
theorem pick_int (t : Bool) (k : IntKind) (a b : Int) : pickO (.bool t) (.int k a) (.int k b) = some (.int k (if t then a else b)) := by cases t <;> rfl
theorem pick_str (t : Bool) (a b : List UInt8) : pickO (.bool t) (.str a) (.str b) = some (.str (if t then a else b)) := by cases t <;> rfl
theorem E_alloc (e : TypeId) : (aopV P n (.alloc e)).run s = bO (tZero P e) fun z => some (.ptr n 0, [.h n (.box z)]) := by
  simp only [aopV]; cases tZero P e <;> rfl
theorem E_box (e : TypeId) (x : Operand) : (aopV P n (.box e x)).run s = gO ((ev s x).isBot = false) (some (.ptr n 0, [.h n (.box (ev s x).cells)])) := by
  simp only [aopV, bO_eq, aev_eq, bO_some, gO_eq, ret_eq]
theorem E_build (t : TypeId) (ps : Array (Nat × Operand)) : (aopV P n (.build t ps)).run s =
    gO ((ps.toList.map fun p => (p.1, ev s p.2)).all (fun p => !p.2.isBot) = true) (oV (abuild P t (ps.toList.map fun p => (p.1, ev s p.2)))) := by
  simp only [aopV, bO_eq, aevL_eq, bO_some, gO_eq, valO_eq]
/-- a slice's literal -/
noncomputable def bslE (P : Program) (n : Nat) (s : AS) (t : TypeId) (len : Nat) (vs : List (Nat × AV)) : Option (AV × List W) :=
  bO (tSl P t) fun x => bO (tZero P x.1) fun z => bO (afill (fun i => some (i * x.2.1, x.2.1)) ((List.replicate len z).flatten) vs) fun cs =>
    gO (z.length = x.2.1 ∧ len * x.2.1 ≤ 2 ^ 24 ∧ vs.all (fun p => !p.2.isBot) = true) (bO ((frzL cs).run s) fun y => some (.row n 0 0 len, y.2 ++ [.h n (.row x.2.1 0 (chunks x.2.1 len y.1))]))
theorem E_buildSlice (t : TypeId) (len : Nat) (ps : Array (Nat × Operand)) : (aopV P n (.buildSlice t len ps)).run s = bslE P n s t len (ps.toList.map fun p => (p.1, ev s p.2)) := by
  simp only [aopV, bO_eq, aevL_eq, bO_some, bslE]
  cases h1 : tSl P t with
  | none => rfl
  | some x =>
    obtain ⟨e, m, g⟩ := x
    simp only [bO_some]
    cases h2 : tZero P e with
    | none => rfl
    | some z =>
      simp only [bO_some]
      cases h3 : afill (fun i => some (i * m, m)) ((List.replicate len z).flatten) (ps.toList.map fun p => (p.1, ev s p.2)) with
      | none => rfl
      | some cs => simp only [bO_some, gO_eq, bO_eq, ret_eq]
theorem E_load (t : TypeId) (a : Operand) : (aopV P n (.load t a)).run s = (aload P t (ev s a)).run s := by simp only [aopV, bO_eq, aev_eq, bO_some]
/-- cells of an object -/
noncomputable def boxE (o : AObj) (off m : Nat) (g : Bool) : Option (AV × List W) :=
  match o with
  | .box cs => gO (off + m ≤ cs.length) (oV (mkV g (cut cs off m)))
  | .fbox cs => gO (off + m ≤ cs.length) (oV (mkV g (cut cs off m)))
  | _ => none
theorem load_ptr (t : TypeId) (id off : Nat) : (aload P t (.ptr id off)).run s = bO (tSize P t) fun m => bO (tAgg P t) fun g => boxE (s.h id) off m g := by
  unfold aload
  cases tSize P t with
  | none => rfl
  | some m =>
    cases tAgg P t with
    | none => rfl
    | some g =>
      simp only [bO_some, RM.run]
      unfold boxE
      cases s.h id <;> simp only [gO_eq, valO_eq, run_fail]
theorem boxE_box (cs : List AV) (off m : Nat) (g : Bool) : boxE (.box cs) off m g = gO (off + m ≤ cs.length) (oV (mkV g (cut cs off m))) := rfl
theorem boxE_fbox (cs : List AV) (off m : Nat) (g : Bool) : boxE (.fbox cs) off m g = gO (off + m ≤ cs.length) (oV (mkV g (cut cs off m))) := rfl
noncomputable def rowE (o : AObj) (gen i j m : Nat) (g : Bool) : Option (AV × List W) :=
  match o with
  | .row sz gen' xs => gO (gen = gen' ∧ i < xs.length ∧ j + m ≤ sz) (oV (mkV g (cut (xs.getD i []) j m)))
  | .frow sz gen' xs => gO (gen = gen' ∧ i < xs.length ∧ j + m ≤ sz) (oV (mkV g (cut (xs.getD i []) j m)))
  | _ => none
theorem load_rptr (t : TypeId) (id gen i j : Nat) : (aload P t (.rptr id gen i j)).run s = bO (tSize P t) fun m => bO (tAgg P t) fun g => rowE (s.h id) gen i j m g := by
  unfold aload
  cases tSize P t with
  | none => rfl
  | some m =>
    cases tAgg P t with
    | none => rfl
    | some g =>
      simp only [bO_some, RM.run]
      unfold rowE
      cases s.h id <;> simp only [gO_eq, valO_eq, run_fail]
theorem rowE_row (sz gen' : Nat) (xs : List (List AV)) (gen i j m : Nat) (g : Bool) : rowE (.row sz gen' xs) gen i j m g = gO (gen = gen' ∧ i < xs.length ∧ j + m ≤ sz) (oV (mkV g (cut (xs.getD i []) j m))) := rfl
theorem rowE_frow (sz gen' : Nat) (xs : List (List AV)) (gen i j m : Nat) (g : Bool) : rowE (.frow sz gen' xs) gen i j m g = gO (gen = gen' ∧ i < xs.length ∧ j + m ≤ sz) (oV (mkV g (cut (xs.getD i []) j m))) := rfl
theorem load_cp (t : TypeId) (cs : List AV) : (aload P t (.cp cs)).run s = bO (tSize P t) fun m => bO (tAgg P t) fun g => gO (m ≤ cs.length) (oV (mkV g (cut cs 0 m))) := by
  unfold aload
  cases tSize P t with
  | none => rfl
  | some m =>
    cases tAgg P t with
    | none => rfl
    | some g => simp only [bO_some, gO_eq, valO_eq]
theorem load_gp (t : TypeId) (a off : Nat) : (aload P t (.gp a off)).run s = bO (tSize P t) fun m => bO (tAgg P t) fun g => bO (Glob.cells a) fun cs => gO (off + m ≤ cs.length) (oV (mkV g (cut cs off m))) := by
  unfold aload
  cases tSize P t with
  | none => rfl
  | some m =>
    cases tAgg P t with
    | none => rfl
    | some g =>
      cases hc : Glob.cells a with
      | none => simp only [hc]; rfl
      | some cs => simp only [bO_some, hc, gO_eq, valO_eq]
theorem mkV_t (cs : List AV) : mkV true cs = some (.agg cs) := rfl
theorem mkV_f (c : AV) : mkV false [c] = some c := rfl
theorem E_store (t : TypeId) (a x : Operand) : (aopV P n (.store t a x)).run s = (astore P t (ev s a) (ev s x)).run s := by simp only [aopV, bO_eq, aev_eq, bO_some]
noncomputable def sboxE (o : AObj) (id off m : Nat) (x : AV) : Option (AV × List W) :=
  match o with
  | .box cs => gO (x.cells.length = m ∧ off + m ≤ cs.length ∧ x.cells.all AV.one = true) (some (.bot, [.h id (.box (setL cs off x.cells))]))
  | _ => none
theorem store_ptr (t : TypeId) (id off : Nat) (x : AV) : (astore P t (.ptr id off) x).run s = bO (tSize P t) fun m => sboxE (s.h id) id off m x := by
  unfold astore
  cases tSize P t with
  | none => rfl
  | some m =>
    simp only [bO_some, RM.run]
    unfold sboxE
    cases s.h id <;> simp only [gO_eq, ret_eq, run_fail]
theorem sboxE_box (cs : List AV) (id off m : Nat) (x : AV) : sboxE (.box cs) id off m x = gO (x.cells.length = m ∧ off + m ≤ cs.length ∧ x.cells.all AV.one = true) (some (.bot, [.h id (.box (setL cs off x.cells))])) := rfl
noncomputable def srowE (o : AObj) (id gen i j m : Nat) (x : AV) : Option (AV × List W) :=
  match o with
  | .row sz gen' xs => gO (gen = gen' ∧ i < xs.length ∧ j + m ≤ sz ∧ x.cells.length = m ∧ x.cells.all AV.flat = true) (some (.bot, [.h id (.row sz gen' (xs.set i (setL (xs.getD i []) j x.cells)))]))
  | _ => none
theorem store_rptr (t : TypeId) (id gen i j : Nat) (x : AV) : (astore P t (.rptr id gen i j) x).run s = bO (tSize P t) fun m => srowE (s.h id) id gen i j m x := by
  unfold astore
  cases tSize P t with
  | none => rfl
  | some m =>
    simp only [bO_some, RM.run]
    unfold srowE
    cases s.h id <;> simp only [gO_eq, ret_eq, run_fail]
theorem srowE_row (sz gen' : Nat) (xs : List (List AV)) (id gen i j m : Nat) (x : AV) : srowE (.row sz gen' xs) id gen i j m x =
    gO (gen = gen' ∧ i < xs.length ∧ j + m ≤ sz ∧ x.cells.length = m ∧ x.cells.all AV.flat = true) (some (.bot, [.h id (.row sz gen' (xs.set i (setL (xs.getD i []) j x.cells)))])) := rfl
def nilE (v : AV) : Option (AV × List W) :=
  match v with
  | .ptr _ _ | .rptr _ _ _ _ | .cp _ | .gp _ _ => some (v, [])
  | .fn (.func _) _ _ => some (v, [])
  | _ => none
theorem E_nilCheck (x : Operand) : (aopV P n (.nilCheck x)).run s = nilE (ev s x) := by
  simp only [aopV, bO_eq, aev_eq, bO_some, nilE]
  cases ev s x <;> first | rfl | (rename_i f _ _; cases f <;> rfl)
theorem E_binOp (op : BinOp) (t yt : TypeId) (x y : Operand) : (aopV P n (.binOp op t x y yt)).run s = oV (abinN P op t (isNilC y) (ev s x) (ev s y)) := by
  simp only [aopV, bO_eq, aev_eq, bO_some, valO_eq]
theorem E_unOp (op : UnOp) (t : TypeId) (x : Operand) : (aopV P n (.unOp op t x)).run s = oV (aun op (ev s x)) := by
  simp only [aopV, bO_eq, aev_eq, bO_some, valO_eq]
theorem E_convert (t u : TypeId) (x : Operand) : (aopV P n (.convert t u x)).run s = (aconvert P n t u (ev s x)).run s := by simp only [aopV, bO_eq, aev_eq, bO_some]
theorem E_makeFunc (f : Fn) (fi ca : Array Operand) : (aopV P n (.makeFunc f fi ca)).run s = some (.fn f (fi.toList.map (ev s)) (ca.toList.map (ev s)), []) := by
  simp only [aopV, bO_eq, aevs_eq, bO_some, val_eq]
noncomputable def mslE (P : Program) (n : Nat) (t : TypeId) (l c : AV) : Option (AV × List W) :=
  match l, c with
  | .int _ l, .int _ c => bO (tSl P t) fun x => bO (tZero P x.1) fun z => bO (tBytes P x.1) fun by_ =>
      gO (l = c ∧ 0 ≤ l ∧ l ≤ 2 ^ 47 ∧ l * by_ ≤ 2 ^ 47 ∧ z.length = x.2.1 ∧ flatLB z = true) (some (.row n 0 0 l.toNat, [.h n (.row x.2.1 0 (List.replicate l.toNat z))]))
  | _, _ => none
theorem E_makeSlice (t : TypeId) (l c : Operand) : (aopV P n (.makeSlice t l c)).run s = mslE P n t (ev s l) (ev s c) := by
  simp only [aopV, bO_eq, aev_eq, bO_some, mslE]
  cases ev s l <;> cases ev s c <;> first
    | rfl
    | (simp only
       cases h1 : tSl P t with
       | none => rfl
       | some x =>
         obtain ⟨e, m, g⟩ := x
         simp only [bO_some]
         cases h2 : tZero P e with
         | none => rfl
         | some z =>
           cases h3 : tBytes P e with
           | none => rfl
           | some y => simp only [bO_some, gO_eq, ret_eq])
theorem E_slice0 (t : TypeId) (x : Operand) : (aopV P n (.slice t x none none none)).run s = (aslice P t (ev s x) none none).run s := by simp only [aopV, bO_eq, aev_eq, bO_some]
theorem E_sliceL (t : TypeId) (x l : Operand) : (aopV P n (.slice t x (some l) none none)).run s = (aslice P t (ev s x) (some (ev s l)) none).run s := by simp only [aopV, bO_eq, aev_eq, bO_some]
theorem E_sliceH (t : TypeId) (x h : Operand) : (aopV P n (.slice t x none (some h) none)).run s = (aslice P t (ev s x) none (some (ev s h))).run s := by simp only [aopV, bO_eq, aev_eq, bO_some]
theorem E_sliceLH (t : TypeId) (x l h : Operand) : (aopV P n (.slice t x (some l) (some h) none)).run s = (aslice P t (ev s x) (some (ev s l)) (some (ev s h))).run s := by simp only [aopV, bO_eq, aev_eq, bO_some]
def fadE (v : AV) (off : Nat) : Option (AV × List W) :=
  match v with
  | .ptr id o => some (.ptr id (o + off), [])
  | .rptr id g i j => some (.rptr id g i (j + off), [])
  | .cp cs => some (.cp (cs.drop off), [])
  | .gp a o => some (.gp a (o + off), [])
  | _ => none
theorem E_fieldAddr (t : TypeId) (x : Operand) (f : Nat) : (aopV P n (.fieldAddr t x f)).run s = bO (tFld P t f) fun y => gO (0 < y.2.1) (fadE (ev s x) y.1) := by
  simp only [aopV, bO_eq, aev_eq, bO_some]
  cases tFld P t f with
  | none => rfl
  | some y =>
    obtain ⟨a, b, c⟩ := y
    simp only [bO_some, gO_eq, fadE]
    cases ev s x <;> rfl
theorem E_field (t : TypeId) (x : Operand) (f : Nat) : (aopV P n (.field t x f)).run s = bO (tFld P t f) fun y => match ev s x with | .agg cs => gO (y.1 + y.2.1 ≤ cs.length) (oV (mkV y.2.2 (cut cs y.1 y.2.1))) | _ => none := by
  simp only [aopV, bO_eq, aev_eq, bO_some]
  cases tFld P t f with
  | none => rfl
  | some y =>
    obtain ⟨a, b, c⟩ := y
    simp only [bO_some]
    cases ev s x <;> first | rfl | simp only [gO_eq, valO_eq]
theorem E_indexAddr (t : TypeId) (x i : Operand) : (aopV P n (.indexAddr t x i)).run s = (aindexAddr P t (ev s x) (ev s i)).run s := by simp only [aopV, bO_eq, aev_eq, bO_some]
noncomputable def riE (o : AObj) (id g off len : Nat) (i : Int) (m : Nat) : Option (AV × List W) :=
  match o with
  | .row sz g' xs => gO (sz = m ∧ g = g' ∧ 0 ≤ i ∧ i < (len : Int) ∧ off + len ≤ xs.length) (some (.rptr id g (off + i.toNat) 0, []))
  | .frow sz g' xs => gO (sz = m ∧ g = g' ∧ 0 ≤ i ∧ i < (len : Int) ∧ off + len ≤ xs.length) (some (.rptr id g (off + i.toNat) 0, []))
  | _ => none
theorem riE_row (sz g' : Nat) (xs : List (List AV)) (id g off len : Nat) (i : Int) (m : Nat) : riE (.row sz g' xs) id g off len i m = gO (sz = m ∧ g = g' ∧ 0 ≤ i ∧ i < (len : Int) ∧ off + len ≤ xs.length) (some (.rptr id g (off + i.toNat) 0, [])) := rfl
theorem riE_frow (sz g' : Nat) (xs : List (List AV)) (id g off len : Nat) (i : Int) (m : Nat) : riE (.frow sz g' xs) id g off len i m = gO (sz = m ∧ g = g' ∧ 0 ≤ i ∧ i < (len : Int) ∧ off + len ≤ xs.length) (some (.rptr id g (off + i.toNat) 0, [])) := rfl
theorem ix_ptr (t : TypeId) (id off : Nat) (k : IntKind) (i : Int) : (aindexAddr P t (.ptr id off) (.int k i)).run s = bO (tArr P t) fun x => gO (0 ≤ i ∧ i < x.1) (some (.ptr id (off + i.toNat * x.2.1), [])) := by
  simp only [aindexAddr]
  cases tArr P t with
  | none => rfl
  | some x => obtain ⟨a, b, c⟩ := x; simp only [bO_some, gO_eq, val_eq]
theorem ix_rptr (t : TypeId) (id g a b : Nat) (k : IntKind) (i : Int) : (aindexAddr P t (.rptr id g a b) (.int k i)).run s = bO (tArr P t) fun x => gO (0 ≤ i ∧ i < x.1) (some (.rptr id g a (b + i.toNat * x.2.1), [])) := by
  simp only [aindexAddr]
  cases tArr P t with
  | none => rfl
  | some x => obtain ⟨a, b, c⟩ := x; simp only [bO_some, gO_eq, val_eq]
theorem ix_cp (t : TypeId) (cs : List AV) (k : IntKind) (i : Int) : (aindexAddr P t (.cp cs) (.int k i)).run s = bO (tArr P t) fun x => gO (0 ≤ i ∧ i < x.1) (some (.cp (cs.drop (i.toNat * x.2.1)), [])) := by
  simp only [aindexAddr]
  cases tArr P t with
  | none => rfl
  | some x => obtain ⟨a, b, c⟩ := x; simp only [bO_some, gO_eq, val_eq]
theorem ix_gp (t : TypeId) (a off : Nat) (k : IntKind) (i : Int) : (aindexAddr P t (.gp a off) (.int k i)).run s = bO (tArr P t) fun x => gO (0 ≤ i ∧ i < x.1) (some (.gp a (off + i.toNat * x.2.1), [])) := by
  simp only [aindexAddr]
  cases tArr P t with
  | none => rfl
  | some x => obtain ⟨a, b, c⟩ := x; simp only [bO_some, gO_eq, val_eq]
theorem ix_sl (t : TypeId) (sz : Nat) (xs : List (List AV)) (k : IntKind) (i : Int) : (aindexAddr P t (.sl sz xs) (.int k i)).run s = bO (tSl P t) fun x => gO (sz = x.2.1 ∧ 0 ≤ i ∧ i < (xs.length : Int)) (some (.cp (xs.getD i.toNat []), [])) := by
  simp only [aindexAddr]
  cases tSl P t with
  | none => rfl
  | some x => obtain ⟨a, b, c⟩ := x; simp only [bO_some, gO_eq, val_eq]
theorem ix_row (t : TypeId) (id g off len : Nat) (k : IntKind) (i : Int) : (aindexAddr P t (.row id g off len) (.int k i)).run s = bO (tSl P t) fun x => riE (s.h id) id g off len i x.2.1 := by
  simp only [aindexAddr]
  cases tSl P t with
  | none => rfl
  | some x =>
    obtain ⟨a, b, c⟩ := x
    simp only [bO_some, RM.run]
    unfold riE
    cases s.h id <;> simp only [gO_eq, val_eq, run_fail]
theorem ix_bsl (t : TypeId) (id off len cap : Nat) (k : IntKind) (i : Int) : (aindexAddr P t (.bsl id off len cap) (.int k i)).run s = bO (tSl P t) fun x => gO (x.2.1 = 1 ∧ 0 ≤ i ∧ i < (len : Int)) (some (.ptr id (off + i.toNat), [])) := by
  simp only [aindexAddr]
  cases tSl P t with
  | none => rfl
  | some x => obtain ⟨a, b, c⟩ := x; simp only [bO_some, gO_eq, val_eq]
theorem iv_str (t : TypeId) (l : List UInt8) (k : IntKind) (i : Int) : (aindex P t (.str l) (.int k i)).run s = gO (tStr P t = true ∧ 0 ≤ i ∧ i < (l.length : Int)) (some (.int .u8 ((l.getD i.toNat 0).toNat : Nat), [])) := by
  simp only [aindex, gO_eq, val_eq]
theorem iv_agg (t : TypeId) (cs : List AV) (k : IntKind) (i : Int) : (aindex P t (.agg cs) (.int k i)).run s = bO (tArr P t) fun x => gO (0 ≤ i ∧ i < x.1 ∧ i.toNat * x.2.1 + x.2.1 ≤ cs.length) (oV (mkV x.2.2 (cut cs (i.toNat * x.2.1) x.2.1))) := by
  simp only [aindex]
  cases tArr P t with
  | none => rfl
  | some x => obtain ⟨a, b, c⟩ := x; simp only [bO_some, gO_eq, valO_eq]

theorem hi_none (len : Nat) : sliceHi len none = some len := rfl
theorem hi_int (len : Nat) (k : IntKind) (i : Int) (h : 0 ≤ i) : sliceHi len (some (.int k i)) = some i.toNat := by simp [sliceHi, h]
theorem lo_none : sliceLo none = some 0 := rfl
theorem lo_int (k : IntKind) (i : Int) (h : 0 ≤ i) : sliceLo (some (.int k i)) = some i.toNat := by simp [sliceLo, h]
theorem sl_str (t : TypeId) (l : List UInt8) (lo hi : Option AV) : (aslice P t (.str l) lo hi).run s = bO (sliceLo lo) fun a => bO (sliceHi l.length hi) fun b => gO (tStr P t = true ∧ a ≤ b ∧ b ≤ l.length) (some (.str ((l.take b).drop a), [])) := by
  unfold aslice
  cases sliceLo lo with
  | none => rfl
  | some a =>
    simp only [bO_some]
    cases sliceHi l.length hi with
    | none => rfl
    | some b => simp only [bO_some, gO_eq, val_eq]
theorem sl_sl (t : TypeId) (sz : Nat) (xs : List (List AV)) (lo hi : Option AV) : (aslice P t (.sl sz xs) lo hi).run s =
    bO (sliceLo lo) fun a => bO (tSl P t) fun x => bO (sliceHi xs.length hi) fun b => gO (sz = x.2.1 ∧ a ≤ b ∧ b ≤ xs.length) (some (.sl sz ((xs.take b).drop a), [])) := by
  unfold aslice
  cases sliceLo lo with
  | none => rfl
  | some a =>
    simp only [bO_some]
    cases tSl P t with
    | none => rfl
    | some x =>
      obtain ⟨e, m, g⟩ := x
      simp only [bO_some]
      cases sliceHi xs.length hi with
      | none => rfl
      | some b => simp only [bO_some, gO_eq, val_eq]
noncomputable def srE (o : AObj) (id g off len a b m : Nat) : Option (AV × List W) :=
  match o with
  | .row sz g' xs => gO (sz = m ∧ g = g' ∧ a ≤ b ∧ b ≤ len ∧ off + len ≤ xs.length) (some (.row id g (off + a) (b - a), []))
  | .frow sz g' xs => gO (sz = m ∧ g = g' ∧ a ≤ b ∧ b ≤ len ∧ off + len ≤ xs.length) (some (.row id g (off + a) (b - a), []))
  | _ => none
theorem srE_row (sz g' : Nat) (xs : List (List AV)) (id g off len a b m : Nat) : srE (.row sz g' xs) id g off len a b m = gO (sz = m ∧ g = g' ∧ a ≤ b ∧ b ≤ len ∧ off + len ≤ xs.length) (some (.row id g (off + a) (b - a), [])) := rfl
theorem srE_frow (sz g' : Nat) (xs : List (List AV)) (id g off len a b m : Nat) : srE (.frow sz g' xs) id g off len a b m = gO (sz = m ∧ g = g' ∧ a ≤ b ∧ b ≤ len ∧ off + len ≤ xs.length) (some (.row id g (off + a) (b - a), [])) := rfl
theorem sl_row (t : TypeId) (id g off len : Nat) (lo hi : Option AV) : (aslice P t (.row id g off len) lo hi).run s =
    bO (sliceLo lo) fun a => bO (tSl P t) fun x => bO (sliceHi len hi) fun b => srE (s.h id) id g off len a b x.2.1 := by
  unfold aslice
  cases sliceLo lo with
  | none => rfl
  | some a =>
    simp only [bO_some]
    cases tSl P t with
    | none => rfl
    | some x =>
      obtain ⟨e, m, g⟩ := x
      simp only [bO_some]
      cases sliceHi len hi with
      | none => rfl
      | some b =>
        simp only [bO_some, RM.run]
        unfold srE
        cases s.h id <;> simp only [gO_eq, val_eq, run_fail]
theorem sl_ptr (t : TypeId) (id off : Nat) (lo hi : Option AV) : (aslice P t (.ptr id off) lo hi).run s =
    bO (sliceLo lo) fun a => bO (tArr P t) fun x => bO (sliceHi x.1 hi) fun b => gO (x.2.1 = 1 ∧ a ≤ b ∧ b ≤ x.1 ∧ a < x.1) (some (.bsl id (off + a) (b - a) (x.1 - a), [])) := by
  unfold aslice
  cases sliceLo lo with
  | none => rfl
  | some a =>
    simp only [bO_some]
    cases tArr P t with
    | none => rfl
    | some x =>
      obtain ⟨l, m, g⟩ := x
      simp only [bO_some]
      cases sliceHi l hi with
      | none => rfl
      | some b => simp only [bO_some, gO_eq, val_eq]

/-- contents -/
noncomputable def contE (o : AObj) (g off len m : Nat) : Option (List (List AV)) :=
  match o with
  | .row sz g' xs => gO (sz = m ∧ g = g' ∧ off + len ≤ xs.length) (some ((xs.drop off).take len))
  | .frow sz g' xs => gO (sz = m ∧ g = g' ∧ off + len ≤ xs.length) (some ((xs.drop off).take len))
  | _ => none
theorem contE_row (sz g' : Nat) (xs : List (List AV)) (g off len m : Nat) : contE (.row sz g' xs) g off len m = gO (sz = m ∧ g = g' ∧ off + len ≤ xs.length) (some ((xs.drop off).take len)) := rfl
theorem contE_frow (sz g' : Nat) (xs : List (List AV)) (g off len m : Nat) : contE (.frow sz g' xs) g off len m = gO (sz = m ∧ g = g' ∧ off + len ≤ xs.length) (some ((xs.drop off).take len)) := rfl
noncomputable def contB (o : AObj) (off len m : Nat) : Option (List (List AV)) :=
  match o with
  | .box cs => gO (m = 1 ∧ off + len ≤ cs.length ∧ (cut cs off len).all AV.flat = true) (some ((cut cs off len).map fun c => [c]))
  | .fbox cs => gO (m = 1 ∧ off + len ≤ cs.length ∧ (cut cs off len).all AV.flat = true) (some ((cut cs off len).map fun c => [c]))
  | _ => none
theorem contB_box (cs : List AV) (off len m : Nat) : contB (.box cs) off len m = gO (m = 1 ∧ off + len ≤ cs.length ∧ (cut cs off len).all AV.flat = true) (some ((cut cs off len).map fun c => [c])) := rfl
theorem contB_fbox (cs : List AV) (off len m : Nat) : contB (.fbox cs) off len m = gO (m = 1 ∧ off + len ≤ cs.length ∧ (cut cs off len).all AV.flat = true) (some ((cut cs off len).map fun c => [c])) := rfl
theorem ct_nils (m : Nat) : (content m .nils).run s = some [] := rfl
theorem ct_sl (m sz : Nat) (xs : List (List AV)) : (content m (.sl sz xs)).run s = gO (sz = m) (some xs) := by simp only [content, gO_eq, ret_eq]
theorem ct_row (m id g off len : Nat) : (content m (.row id g off len)).run s = contE (s.h id) g off len m := by
  simp only [content, RM.run]
  unfold contE
  cases s.h id <;> simp only [gO_eq, ret_eq, run_fail]
theorem ct_bsl (m id off len cap : Nat) : (content m (.bsl id off len cap)).run s = contB (s.h id) off len m := by
  simp only [content, RM.run]
  unfold contB
  cases s.h id <;> simp only [gO_eq, ret_eq, run_fail]
theorem ad_str (m : Nat) (l : List UInt8) : (addend m (.str l)).run s = gO (m = 1) (some (encB l)) := by simp only [addend, gO_eq, ret_eq]
theorem ad_nils (m : Nat) : (addend m .nils).run s = some [] := rfl
theorem ad_sl (m sz : Nat) (xs : List (List AV)) : (addend m (.sl sz xs)).run s = gO (sz = m) (some xs) := ct_sl m sz xs
theorem ad_row (m id g off len : Nat) : (addend m (.row id g off len)).run s = contE (s.h id) g off len m := ct_row m id g off len
theorem ad_bsl (m id off len cap : Nat) : (addend m (.bsl id off len cap)).run s = contB (s.h id) off len m := ct_bsl m id off len cap

noncomputable def apE (o : AObj) (id g off len m by_ : Nat) (ys : List (List AV)) : Option (AV × List W) :=
  match o with
  | .row sz g' xs => gO (sz = m ∧ g = g' ∧ off = 0 ∧ len = xs.length ∧ (2 * (len + ys.length) + 512) * by_ ≤ 2 ^ 47) (some (.row id (g + 1) 0 (len + ys.length), [.h id (.row sz (g + 1) (xs ++ ys))]))
  | _ => none
theorem apE_row (sz g' : Nat) (xs : List (List AV)) (id g off len m by_ : Nat) (ys : List (List AV)) : apE (.row sz g' xs) id g off len m by_ ys =
    gO (sz = m ∧ g = g' ∧ off = 0 ∧ len = xs.length ∧ (2 * (len + ys.length) + 512) * by_ ≤ 2 ^ 47) (some (.row id (g + 1) 0 (len + ys.length), [.h id (.row sz (g + 1) (xs ++ ys))])) := rfl
theorem ap_nils (t t' : TypeId) (y : AV) : (aappend P n t t' .nils y).run s = bO (tAp P t t') fun p => bO ((addend p.1 y).run s) fun ys =>
    gO ((2 * ys.length + 512) * p.2 ≤ 2 ^ 47) (some (.row n 0 0 ys.length, [.h n (.row p.1 0 ys)])) := by
  unfold aappend
  cases tAp P t t' with
  | none => rfl
  | some p => simp only [bO_some, bO_eq, gO_eq, ret_eq]
theorem ap_row (t t' : TypeId) (y : AV) (id g off len : Nat) : (aappend P n t t' (.row id g off len) y).run s = bO (tAp P t t') fun p => bO ((addend p.1 y).run s) fun ys => apE (s.h id) id g off len p.1 p.2 ys := by
  unfold aappend
  cases tAp P t t' with
  | none => rfl
  | some p =>
    simp only [bO_some, bO_eq]
    congr 1
    funext ys
    simp only [RM.run]
    unfold apE
    cases s.h id <;> simp only [apRow, gO_eq, ret_eq, run_fail]

theorem cv_int (t u : TypeId) (k : IntKind) (i : Int) : (aconvert P n t u (.int k i)).run s = bO (tInt P u) fun k => bO (tInt P t) fun _ => some (.int k (k.wrap i), []) := by
  simp only [aconvert]
  cases tInt P u <;> cases tInt P t <;> rfl
theorem cv_ss (t u : TypeId) (l : List UInt8) (h : (tStr P t && tStr P u) = true) : (aconvert P n t u (.str l)).run s = some (.str l, []) := by simp only [aconvert, h, if_true, val_eq]
theorem cv_sb (t u e : TypeId) (m : Nat) (g : Bool) (l : List UInt8) (h0 : tStr P u = false) (h1 : tStr P t = true) (h2 : tSl P u = some (e, m, g)) (h3 : tInt P e = some .u8) :
    (aconvert P n t u (.str l)).run s = some (.row n 0 0 l.length, [.h n (.row 1 0 (encB l))]) := by
  simp only [aconvert, h0, h1, h2, h3, Bool.and_false, Bool.false_eq_true, if_false, ret_eq]
theorem cv_bs (t u e : TypeId) (m : Nat) (g : Bool) (x : AV) (hx : (∀ k i, x ≠ .int k i) ∧ ∀ l, x ≠ .str l) (h1 : tStr P u = true) (h2 : tSl P t = some (e, m, g)) (h3 : tInt P e = some .u8) :
    (aconvert P n t u x).run s = bO ((content 1 x).run s) fun xs => bO (bytesOf xs) fun l => some (.str l, []) := by
  unfold aconvert
  split
  · exact absurd rfl (hx.1 _ _)
  · exact absurd rfl (hx.2 _)
  · simp only [h1, h2, h3, bO_eq]
    congr 1
    funext xs
    cases bytesOf xs <;> rfl

theorem E_index (t : TypeId) (x i : Operand) : (aopV P n (.index t x i)).run s = (aindex P t (ev s x) (ev s i)).run s := by simp only [aopV, bO_eq, aev_eq, bO_some]
def extE (v : AV) (i : Nat) : Option AV := match v with | .tup vs => vs[i]? | _ => none
theorem E_extract (x : Operand) (i : Nat) : (aopV P n (.extract x i)).run s = oV (extE (ev s x) i) := by
  simp only [aopV, bO_eq, aev_eq, bO_some, extE]
  cases ev s x <;> first | rfl | simp only [valO_eq]
theorem extE_tup (vs : List AV) (i : Nat) : extE (.tup vs) i = vs[i]? := rfl
theorem E_builtin (f : Builtin) (args : Array Operand) (ts : Array TypeId) : (aopV P n (.call { callee := .builtin f, args := args, argTypes := ts })).run s =
    (abuiltin P n f ts.toList (args.toList.map (ev s))).run s := by simp only [aopV, bO_eq, aevs_eq, bO_some]
theorem E_len (t : TypeId) (ts : List TypeId) (x : AV) : (abuiltin P n .len (t :: ts) [x]).run s = oV ((alen P t x).map fun n : Nat => AV.int .i64 (n : Int)) := by
  simp only [abuiltin, valO_eq]
theorem E_append (t t' : TypeId) (ts : List TypeId) (x y : AV) : (abuiltin P n .append (t :: t' :: ts) [x, y]).run s = (aappend P n t t' x y).run s := by simp only [abuiltin]
theorem E_copy (t : TypeId) (ts : List TypeId) (x y : AV) : (abuiltin P n .copy (t :: ts) [x, y]).run s = (acopy P t x y).run s := by simp only [abuiltin]
theorem E_min (ts : List TypeId) (xs : List AV) : (abuiltin P n .min ts xs).run s = oV (aminmax (fun x y => decide (x < y)) xs) := by simp only [abuiltin, valO_eq]
theorem E_max (ts : List TypeId) (xs : List AV) : (abuiltin P n .max ts xs).run s = oV (aminmax (fun x y => decide (y < x)) xs) := by simp only [abuiltin, valO_eq]

/-! calls -/
theorem acallee_eq (f : Operand) (args : List Operand) : (acallee f args).run s = match ev s f with | .fn (.func k) fi ca => some (k, fi ++ args.map (ev s) ++ ca) | _ => none := by
  simp only [acallee, bO_eq, aev_eq, aevs_eq, bO_some]
  cases ev s f <;> first | rfl | (rename_i g _ _; cases g <;> rfl)

/-! states -/
theorem after_0 (t : Nat → AV) (h : Nat → AObj) (n d : Nat) (v : AV) : AS.after ⟨t, h, n⟩ (some d) v [] = ⟨upd t d v, h, n + 1⟩ := rfl
theorem after_0n (t : Nat → AV) (h : Nat → AObj) (n : Nat) (v : AV) : AS.after ⟨t, h, n⟩ none v [] = ⟨t, h, n + 1⟩ := rfl
theorem after_1 (t : Nat → AV) (h : Nat → AObj) (n d i : Nat) (v : AV) (o : AObj) : AS.after ⟨t, h, n⟩ (some d) v [.h i o] = ⟨upd t d v, upd h i o, n + 1⟩ := rfl
theorem after_1n (t : Nat → AV) (h : Nat → AObj) (n i : Nat) (v : AV) (o : AObj) : AS.after ⟨t, h, n⟩ none v [.h i o] = ⟨t, upd h i o, n + 1⟩ := rfl
theorem after_2 (t : Nat → AV) (h : Nat → AObj) (n d i j : Nat) (v : AV) (o q : AObj) : AS.after ⟨t, h, n⟩ (some d) v [.h i o, .h j q] = ⟨upd t d v, upd (upd h i o) j q, n + 1⟩ := rfl
theorem after_3 (t : Nat → AV) (h : Nat → AObj) (n d i j k : Nat) (v : AV) (o q r : AObj) : AS.after ⟨t, h, n⟩ (some d) v [.h i o, .h j q, .h k r] = ⟨upd t d v, upd (upd (upd h i o) j q) k r, n + 1⟩ := rfl
theorem after_4 (t : Nat → AV) (h : Nat → AObj) (n d i j k l : Nat) (v : AV) (o q r u : AObj) : AS.after ⟨t, h, n⟩ (some d) v [.h i o, .h j q, .h k r, .h l u] = ⟨upd t d v, upd (upd (upd (upd h i o) j q) k r) l u, n + 1⟩ := rfl
theorem put_s (t : Nat → AV) (h : Nat → AObj) (n d : Nat) (v : AV) : AS.put ⟨t, h, n⟩ (some d) v = ⟨upd t d v, h, n⟩ := rfl
theorem put_n (t : Nat → AV) (h : Nat → AObj) (n : Nat) (v : AV) : AS.put ⟨t, h, n⟩ none v = ⟨t, h, n⟩ := rfl

theorem aguard_none {ops : Array Oper} {d : Option Tmp} {op : Op} {ty : TypeId} {pos : String} {af : Array Edge} : aguard ops s { dst := d, op := op, type := ty, pos := pos, after := af, guard := none } = some true := rfl
def guardV (v : AV) (want : Bool) : Option Bool := match v with | .bool b => some (b == want) | .tup [] => some false | _ => none
theorem aguard_some {ops : Array Oper} {d : Option Tmp} {op : Op} {ty : TypeId} {pos : String} {af : Array Edge} {j : Nat} {want : Bool} :
    aguard ops s { dst := d, op := op, type := ty, pos := pos, after := af, guard := some (j, want) } = bO ((ops[j]?).bind (·.dst)) fun d => guardV (s.t d) want := by
  simp only [aguard, bO]
  cases h : (ops[j]?).bind (·.dst) <;> rfl
theorem guardV_bool (b want : Bool) : guardV (.bool b) want = some (b == want) := rfl
theorem guardV_skip (want : Bool) : guardV (.tup []) want = some false := rfl

/-! ### a region, step by step: nothing stands behind a binder -/
/-! ### a region's steps, without binders -/
noncomputable def oL (r : Option (AV × List W)) (fz : Bool) (P : Program) (z : List Nat) (ops : Array Oper) (K : AS → Prop) (rest : List Oper) (s : AS) (d : Option Tmp) : Prop :=
  oK (r.bind fun p => if fz = true then ((frzX p.1).run (s.app p.2)).map fun q => (q.1, p.2 ++ q.2) else some p) fun v ws => wpL P z ops K rest (s.after d v ws)
def fL (r : Option (AV × List W)) (ws : List W) (P : Program) (z : List Nat) (ops : Array Oper) (K : AS → Prop) (rest : List Oper) (s : AS) (d : Option Tmp) : Prop :=
  oK r fun y us => wpL P z ops K rest (s.after d y (ws ++ us))
/-- a call, in the order of the text -/
def ACallL (P : Program) (k : FuncId) (vs : List AV) (z : List Nat) (ops : Array Oper) (K : AS → Prop) (rest : List Oper) (s : AS) (d : Option Tmp) : Prop :=
  ACall P k vs s.h s.n fun r' h' n' => oK (fzR (zf z d) r' { s with h := h', n := n' }) fun v ws => wpL P z ops K rest ((({ s with h := h', n := n' } : AS).app ws).put d v)
def cL (r : Option (FuncId × List AV)) (P : Program) (z : List Nat) (ops : Array Oper) (K : AS → Prop) (rest : List Oper) (s : AS) (d : Option Tmp) : Prop := cK r fun k vs => ACallL P k vs z ops K rest s d
noncomputable def xL (c : Option (Operand × List Operand)) (P : Program) (z : List Nat) (ops : Array Oper) (K : AS → Prop) (op : Op) (rest : List Oper) (s : AS) (d : Option Tmp) : Prop :=
  match c with
  | some (f, args) => cL ((acallee f args).run s) P z ops K rest s d
  | none => oL ((aopV P s.n op).run s) (zf z d) P z ops K rest s d
noncomputable def gL (g : Option Bool) (P : Program) (z : List Nat) (ops : Array Oper) (K : AS → Prop) (op : Op) (rest : List Oper) (s : AS) (d : Option Tmp) : Prop :=
  gK g (xL (Op.callOf op) P z ops K op rest s d) (wpL P z ops K rest (s.put d (.tup [])))
section
variable {z : List Nat} {ops : Array Oper} {K : AS → Prop} {op : Op} {rest : List Oper} {d : Option Tmp} {t : Nat → AV} {h : Nat → AObj}
theorem wpL_nil : wpL P z ops K [] s = K s := rfl
theorem wpL_cons (ty : TypeId) (pos : String) (af : Array Edge) (g : Option (Nat × Bool)) :
    wpL P z ops K ({ dst := d, op := op, type := ty, pos := pos, after := af, guard := g } :: rest) s =
      gL (aguard ops s { dst := d, op := op, type := ty, pos := pos, after := af, guard := g }) P z ops K op rest s d := by
  rw [wpL]
  unfold gL xL cL oL ACallL fzO
  cases Op.callOf op with
  | none =>
    cases (aopV P s.n op).run s with
    | none => rfl
    | some p => rfl
  | some p => rfl
theorem gL_tt : gL (some true) P z ops K op rest s d = xL (Op.callOf op) P z ops K op rest s d := by simp [gL, gK]
theorem gL_ff : gL (some false) P z ops K op rest s d = wpL P z ops K rest (s.put d (.tup [])) := by simp [gL, gK]
theorem gL_of {b : Bool} (h1 : b = true → gL (some true) P z ops K op rest s d) (h2 : b = false → gL (some false) P z ops K op rest s d) : gL (some b) P z ops K op rest s d := by
  cases b
  · exact h2 rfl
  · exact h1 rfl
theorem xL_none : xL none P z ops K op rest ⟨t, h, n⟩ d = oL ((aopV P n op).run ⟨t, h, n⟩) (zf z d) P z ops K rest ⟨t, h, n⟩ d := rfl
theorem xL_some (f : Operand) (args : List Operand) : xL (some (f, args)) P z ops K op rest s d = cL ((acallee f args).run s) P z ops K rest s d := rfl
theorem oL_ff (v : AV) (ws : List W) : oL (some (v, ws)) false P z ops K rest s d = wpL P z ops K rest (s.after d v ws) := rfl
theorem oL_tt (v : AV) (ws : List W) : oL (some (v, ws)) true P z ops K rest s d = fL ((frzX v).run (s.app ws)) ws P z ops K rest s d := by
  unfold oL fL
  simp only [Option.bind_some, if_true]
  cases (frzX v).run (s.app ws) <;> rfl
theorem fL_some (y : AV) (ws us : List W) : fL (some (y, us)) ws P z ops K rest s d = wpL P z ops K rest (s.after d y (ws ++ us)) := rfl
theorem cL_some (k : FuncId) (vs : List AV) : cL (some (k, vs)) P z ops K rest s d = ACallL P k vs z ops K rest s d := rfl
/-- a call that leads to no memory -/
theorem callL_pure {k : FuncId} {vs : List AV} {r : AV} (hp : APure P k vs r) (ha : ltL 0 vs) (hz : zf z d = false) (hk : wpL P z ops K rest (s.put d r)) : ACallL P k vs z ops K rest s d :=
  hp.call ha (by rw [hz]; exact hk)

/-! the same for a region whose order is drawn -/
noncomputable def oD (r : Option (AV × List W)) (fz : Bool) (op : Op) (P : Program) (z : List Nat) (ops : Array Oper) (K : List Rec → AS → Prop) (rest : List Oper) (acc : List Rec) (s : AS) (d : Option Tmp) : Prop :=
  oK (r.bind fun p => if fz = true then ((frzX p.1).run (s.app p.2)).map fun q => (q.1, p.2 ++ q.2) else some p) fun v ws =>
    wpD P z ops K rest (⟨some s.n, rdIds op s ++ (if fz = true then match r with | some (v, _) => idsX v | none => [] else []), whs ws, hwB ws⟩ :: acc) (s.after d v ws)
def fD (r : Option (AV × List W)) (ws : List W) (rd : List Nat) (P : Program) (z : List Nat) (ops : Array Oper) (K : List Rec → AS → Prop) (rest : List Oper) (acc : List Rec) (s : AS) (d : Option Tmp) : Prop :=
  oK r fun y us => wpD P z ops K rest (⟨some s.n, rd, whs (ws ++ us), hwB (ws ++ us)⟩ :: acc) (s.after d y (ws ++ us))
def DCallL (P : Program) (k : FuncId) (vs : List AV) (z : List Nat) (ops : Array Oper) (K : List Rec → AS → Prop) (rest : List Oper) (acc : List Rec) (s : AS) (d : Option Tmp) : Prop :=
  ∃ r', APure P k vs r' ∧ ltL 0 vs ∧ wpD P z ops K rest (⟨none, [], [], true⟩ :: acc) (s.put d r')
def cD (r : Option (FuncId × List AV)) (P : Program) (z : List Nat) (ops : Array Oper) (K : List Rec → AS → Prop) (rest : List Oper) (acc : List Rec) (s : AS) (d : Option Tmp) : Prop := cK r fun k vs => DCallL P k vs z ops K rest acc s d
noncomputable def xD (c : Option (Operand × List Operand)) (P : Program) (z : List Nat) (ops : Array Oper) (K : List Rec → AS → Prop) (op : Op) (rest : List Oper) (acc : List Rec) (s : AS) (d : Option Tmp) : Prop :=
  match c with
  | some (f, args) => cD ((acallee f args).run s) P z ops K rest acc s d
  | none => oD ((aopV P s.n op).run s) (zf z d) op P z ops K rest acc s d
noncomputable def gD (g : Option Bool) (P : Program) (z : List Nat) (ops : Array Oper) (K : List Rec → AS → Prop) (op : Op) (rest : List Oper) (acc : List Rec) (s : AS) (d : Option Tmp) : Prop :=
  gK g (xD (Op.callOf op) P z ops K op rest acc s d) (wpD P z ops K rest (⟨none, [], [], true⟩ :: acc) (s.put d (.tup [])))
variable {KD : List Rec → AS → Prop} {acc : List Rec}
theorem wpD_nil : wpD P z ops KD [] acc s = KD acc s := rfl
theorem wpD_cons (ty : TypeId) (pos : String) (af : Array Edge) (g : Option (Nat × Bool)) :
    wpD P z ops KD ({ dst := d, op := op, type := ty, pos := pos, after := af, guard := g } :: rest) acc s =
      gD (aguard ops s { dst := d, op := op, type := ty, pos := pos, after := af, guard := g }) P z ops KD op rest acc s d := by
  rw [wpD]
  unfold gD xD cD oD DCallL fzO rdF
  cases Op.callOf op with
  | none =>
    cases (aopV P s.n op).run s with
    | none => rfl
    | some p => rfl
  | some p => rfl
theorem gD_tt : gD (some true) P z ops KD op rest acc s d = xD (Op.callOf op) P z ops KD op rest acc s d := by simp [gD, gK]
theorem gD_ff : gD (some false) P z ops KD op rest acc s d = wpD P z ops KD rest (⟨none, [], [], true⟩ :: acc) (s.put d (.tup [])) := by simp [gD, gK]
theorem gD_of {b : Bool} (h1 : b = true → gD (some true) P z ops KD op rest acc s d) (h2 : b = false → gD (some false) P z ops KD op rest acc s d) : gD (some b) P z ops KD op rest acc s d := by
  cases b
  · exact h2 rfl
  · exact h1 rfl
theorem xD_none : xD none P z ops KD op rest acc ⟨t, h, n⟩ d = oD ((aopV P n op).run ⟨t, h, n⟩) (zf z d) op P z ops KD rest acc ⟨t, h, n⟩ d := rfl
theorem xD_some (f : Operand) (args : List Operand) : xD (some (f, args)) P z ops KD op rest acc s d = cD ((acallee f args).run s) P z ops KD rest acc s d := rfl
theorem oD_ff (v : AV) (ws : List W) : oD (some (v, ws)) false op P z ops KD rest acc ⟨t, h, n⟩ d = wpD P z ops KD rest (⟨some n, rdIds op ⟨t, h, n⟩, whs ws, hwB ws⟩ :: acc) (AS.after ⟨t, h, n⟩ d v ws) := by
  simp [oD, oK]
theorem oD_tt (v : AV) (ws : List W) : oD (some (v, ws)) true op P z ops KD rest acc s d = fD ((frzX v).run (s.app ws)) ws (rdIds op s ++ idsX v) P z ops KD rest acc s d := by
  unfold oD fD
  simp only [Option.bind_some, if_true]
  cases (frzX v).run (s.app ws) <;> rfl
theorem fD_some (y : AV) (ws us : List W) (rd : List Nat) : fD (some (y, us)) ws rd P z ops KD rest acc ⟨t, h, n⟩ d = wpD P z ops KD rest (⟨some n, rd, whs (ws ++ us), hwB (ws ++ us)⟩ :: acc) (AS.after ⟨t, h, n⟩ d y (ws ++ us)) := rfl
theorem cD_some (k : FuncId) (vs : List AV) : cD (some (k, vs)) P z ops KD rest acc s d = DCallL P k vs z ops KD rest acc s d := rfl
theorem callD_pure {k : FuncId} {vs : List AV} {r : AV} (hp : APure P k vs r) (ha : ltL 0 vs) (hk : wpD P z ops KD rest (⟨none, [], [], true⟩ :: acc) (s.put d r)) : DCallL P k vs z ops KD rest acc s d :=
  ⟨r, hp, ha, hk⟩
end

/-! ### freezing, reckoned -/
noncomputable def frowE (o : AObj) (id g off len : Nat) : Option (AV × List W) :=
  match o with
  | .row sz g' xs => gO (g = g' ∧ off + len ≤ xs.length) (some (.sl sz ((xs.drop off).take len), [.h id (.frow sz g' xs)]))
  | .frow sz g' xs => gO (g = g' ∧ off + len ≤ xs.length) (some (.sl sz ((xs.drop off).take len), []))
  | _ => none
theorem frowE_row (id sz g' : Nat) (xs : List (List AV)) (g off len : Nat) : frowE (.row sz g' xs) id g off len = gO (g = g' ∧ off + len ≤ xs.length) (some (.sl sz ((xs.drop off).take len), [.h id (.frow sz g' xs)])) := rfl
theorem frowE_frow (id sz g' : Nat) (xs : List (List AV)) (g off len : Nat) : frowE (.frow sz g' xs) id g off len = gO (g = g' ∧ off + len ≤ xs.length) (some (.sl sz ((xs.drop off).take len), [])) := rfl
theorem frz1_row (id g off len : Nat) : (frz1 (.row id g off len)).run s = frowE (s.h id) id g off len := by
  unfold frz1 frz
  simp only [RM.run]
  unfold frowE
  cases s.h id <;> simp only [gO_eq, ret_eq, run_fail]
noncomputable def fboxE (o : AObj) (id off : Nat) : Option (AV × List W) :=
  match o with
  | .box cs => gO (off ≤ cs.length ∧ flatL cs = true) (some (.cp (cs.drop off), [.h id (.fbox cs)]))
  | .fbox cs => gO (off ≤ cs.length ∧ flatL cs = true) (some (.cp (cs.drop off), []))
  | _ => none
theorem fboxE_box (id : Nat) (cs : List AV) (off : Nat) : fboxE (.box cs) id off = gO (off ≤ cs.length ∧ flatL cs = true) (some (.cp (cs.drop off), [.h id (.fbox cs)])) := rfl
theorem fboxE_fbox (id : Nat) (cs : List AV) (off : Nat) : fboxE (.fbox cs) id off = gO (off ≤ cs.length ∧ flatL cs = true) (some (.cp (cs.drop off), [])) := rfl
theorem frz1_ptr (id off : Nat) : (frz1 (.ptr id off)).run s = fboxE (s.h id) id off := by
  unfold frz1
  simp only [RM.run]
  unfold fboxE
  cases s.h id <;> simp only [gO_eq, ret_eq, run_fail]
theorem frz1_flat {v : AV} (h : v.flat = true) : (frz1 v).run s = some (v, []) := by
  unfold frz1
  cases v <;> first
    | (simp [AV.flat] at h; done)
    | (unfold frz; simp only [run_guardA, h, if_true, ret_eq]; done)
def mO (a : Option (AV × List W)) (b : Option (List AV × List W)) : Option (List AV × List W) := match a, b with | some (y, ws), some (ys, us) => some (y :: ys, ws ++ us) | _, _ => none
theorem mO_some (y : AV) (ws : List W) (ys : List AV) (us : List W) : mO (some (y, ws)) (some (ys, us)) = some (y :: ys, ws ++ us) := rfl
theorem frzM_nil (f : AV → RM (AV × List W)) : (frzM f []).run s = some ([], []) := rfl
theorem frzM_cons (f : AV → RM (AV × List W)) (x : AV) (xs : List AV) : (frzM f (x :: xs)).run s = mO ((f x).run s) ((frzM f xs).run s) := by
  rw [frzM, RM.run_bind]
  cases (f x).run s with
  | none => rfl
  | some p =>
    simp only [Option.bind_some, RM.run_bind]
    cases (frzM f xs).run s <;> rfl
def aggO (r : Option (List AV × List W)) : Option (AV × List W) := r.map fun p => (.agg p.1, p.2)
theorem aggO_some (ys : List AV) (ws : List W) : aggO (some (ys, ws)) = some (.agg ys, ws) := rfl
def tupO (r : Option (List AV × List W)) : Option (AV × List W) := r.map fun p => (.tup p.1, p.2)
theorem tupO_some (ys : List AV) (ws : List W) : tupO (some (ys, ws)) = some (.tup ys, ws) := rfl
def fnO (f : Fn) (a b : Option (List AV × List W)) : Option (AV × List W) := match a, b with | some (ys, ws), some (zs, us) => some (.fn f ys zs, ws ++ us) | _, _ => none
theorem fnO_some (f : Fn) (ys zs : List AV) (ws us : List W) : fnO f (some (ys, ws)) (some (zs, us)) = some (.fn f ys zs, ws ++ us) := rfl
theorem frz2_agg (cs : List AV) : (frz2 (.agg cs)).run s = aggO ((frzM frz1 cs).run s) := by
  unfold frz2; rw [RM.run_bind]; cases (frzM frz1 cs).run s <;> rfl
theorem frz2_fn (f : Fn) (fi ca : List AV) : (frz2 (.fn f fi ca)).run s = fnO f ((frzM frz1 fi).run s) ((frzM frz1 ca).run s) := by
  unfold frz2; rw [RM.run_bind]
  cases (frzM frz1 fi).run s with
  | none => rfl
  | some p => simp only [Option.bind_some, RM.run_bind]; cases (frzM frz1 ca).run s <;> rfl
theorem frz2_row (id g off len : Nat) : (frz2 (.row id g off len)).run s = frowE (s.h id) id g off len := frz1_row id g off len
theorem frz2_ptr (id off : Nat) : (frz2 (.ptr id off)).run s = fboxE (s.h id) id off := frz1_ptr id off
theorem frzX_tup (vs : List AV) : (frzX (.tup vs)).run s = tupO ((frzM frz2 vs).run s) := by
  unfold frzX; rw [RM.run_bind]; cases (frzM frz2 vs).run s <;> rfl
theorem frzX_agg (cs : List AV) : (frzX (.agg cs)).run s = aggO ((frzM frz1 cs).run s) := frz2_agg cs
theorem frzX_fn (f : Fn) (fi ca : List AV) : (frzX (.fn f fi ca)).run s = fnO f ((frzM frz1 fi).run s) ((frzM frz1 ca).run s) := frz2_fn f fi ca
theorem frzX_row (id g off len : Nat) : (frzX (.row id g off len)).run s = frowE (s.h id) id g off len := frz1_row id g off len
theorem frzX_ptr (id off : Nat) : (frzX (.ptr id off)).run s = fboxE (s.h id) id off := frz1_ptr id off
theorem frz1_bool (b : Bool) : (frz1 (.bool b)).run s = some (.bool b, []) := frz1_flat rfl
theorem frz1_int (k : IntKind) (b : Int) : (frz1 (.int k b)).run s = some (.int k b, []) := frz1_flat rfl
theorem frz1_str (b : List UInt8) : (frz1 (.str b)).run s = some (.str b, []) := frz1_flat rfl
theorem frz1_sl (m : Nat) (b : List (List AV)) : (frz1 (.sl m b)).run s = some (.sl m b, []) := frz1_flat rfl
theorem frz1_nils : (frz1 .nils).run s = some (.nils, []) := frz1_flat rfl
theorem frz1_nili : (frz1 .nili).run s = some (.nili, []) := frz1_flat rfl
theorem frz1_nilp : (frz1 .nilp).run s = some (.nilp, []) := frz1_flat rfl
theorem frz1_cp (cs : List AV) : (frz1 (.cp cs)).run s = some (.cp cs, []) := frz1_flat rfl
theorem frz2_bool (b : Bool) : (frz2 (.bool b)).run s = some (.bool b, []) := frz1_bool b
theorem frz2_int (k : IntKind) (b : Int) : (frz2 (.int k b)).run s = some (.int k b, []) := frz1_int k b
theorem frz2_str (b : List UInt8) : (frz2 (.str b)).run s = some (.str b, []) := frz1_str b
theorem frz2_sl (m : Nat) (b : List (List AV)) : (frz2 (.sl m b)).run s = some (.sl m b, []) := frz1_sl m b
theorem frz2_nils : (frz2 .nils).run s = some (.nils, []) := frz1_nils
theorem frz2_nili : (frz2 .nili).run s = some (.nili, []) := frz1_nili
theorem frzX_sl (m : Nat) (b : List (List AV)) : (frzX (.sl m b)).run s = some (.sl m b, []) := frz1_sl m b
theorem frzX_nils : (frzX .nils).run s = some (.nils, []) := frz1_nils

/-! ### what was looked at -/
theorem rd_move (x : Operand) : rdIds (.move x) s = [] := rfl
theorem rd_assign (x : Operand) : rdIds (.assign x) s = [] := rfl
theorem rd_pick (x y c : Operand) : rdIds (.pick c x y) s = [] := rfl
theorem rd_alloc (e : TypeId) : rdIds (.alloc e) s = [] := rfl
theorem rd_box (e : TypeId) (x : Operand) : rdIds (.box e x) s = [] := rfl
theorem rd_build (t : TypeId) (ps : Array (Nat × Operand)) : rdIds (.build t ps) s = [] := rfl
theorem rd_buildSlice (t : TypeId) (k : Nat) (ps : Array (Nat × Operand)) : rdIds (.buildSlice t k ps) s = ps.toList.flatMap fun p => (ev s p.2).cells.flatMap ids1 := rfl
theorem rd_load (t : TypeId) (a : Operand) : rdIds (.load t a) s = ids1 (ev s a) := rfl
theorem rd_store (t : TypeId) (a x : Operand) : rdIds (.store t a x) s = ids1 (ev s a) := rfl
theorem rd_nilCheck (x : Operand) : rdIds (.nilCheck x) s = [] := rfl
theorem rd_binOp (o : BinOp) (t u : TypeId) (x y : Operand) : rdIds (.binOp o t x y u) s = [] := rfl
theorem rd_unOp (o : UnOp) (t : TypeId) (x : Operand) : rdIds (.unOp o t x) s = [] := rfl
theorem rd_convert (a b : TypeId) (x : Operand) : rdIds (.convert a b x) s = ids1 (ev s x) := rfl
theorem rd_makeFunc (f : Fn) (a b : Array Operand) : rdIds (.makeFunc f a b) s = [] := rfl
theorem rd_makeSlice (t : TypeId) (x y : Operand) : rdIds (.makeSlice t x y) s = [] := rfl
theorem rd_slice (t : TypeId) (x : Operand) (a b c : Option Operand) : rdIds (.slice t x a b c) s = ids1 (ev s x) := rfl
theorem rd_fieldAddr (t : TypeId) (x : Operand) (f : Nat) : rdIds (.fieldAddr t x f) s = [] := rfl
theorem rd_field (t : TypeId) (x : Operand) (f : Nat) : rdIds (.field t x f) s = [] := rfl
theorem rd_indexAddr (t : TypeId) (x i : Operand) : rdIds (.indexAddr t x i) s = ids1 (ev s x) := rfl
theorem rd_index (t : TypeId) (x i : Operand) : rdIds (.index t x i) s = [] := rfl
theorem rd_extract (x : Operand) (i : Nat) : rdIds (.extract x i) s = [] := rfl
theorem rd_len (a : Array Operand) (t : Array TypeId) : rdIds (.call { callee := .builtin .len, args := a, argTypes := t }) s = [] := rfl
theorem rd_append (a : Array Operand) (t : Array TypeId) : rdIds (.call { callee := .builtin .append, args := a, argTypes := t }) s = a.toList.flatMap fun x => ids1 (ev s x) := rfl
theorem rd_copy (a : Array Operand) (t : Array TypeId) : rdIds (.call { callee := .builtin .copy, args := a, argTypes := t }) s = a.toList.flatMap fun x => ids1 (ev s x) := rfl
theorem rd_min (a : Array Operand) (t : Array TypeId) : rdIds (.call { callee := .builtin .min, args := a, argTypes := t }) s = a.toList.flatMap fun x => ids1 (ev s x) := rfl
theorem rd_max (a : Array Operand) (t : Array TypeId) : rdIds (.call { callee := .builtin .max, args := a, argTypes := t }) s = a.toList.flatMap fun x => ids1 (ev s x) := rfl

/-! ### the code's steps -/
section
variable {nt b f : Nat} {z : List Nat} {Q : AEx → AS → Prop} {ks : List Kt} {t : Nat → AV} {h : Nat → AObj}
theorem go_skip : go P nt b z Q (f + 1) .skip ks s = norm (go P nt b z Q f) Q ks s := rfl
theorem go_label (l : Nat) : go P nt b z Q (f + 1) (.label l) ks s = norm (go P nt b z Q f) Q ks s := rfl
theorem go_region (id : Nat) (ops : Array Oper) : go P nt b z Q (f + 1) (.region id ops false) ks s = wpL P z ops (norm (go P nt b z Q f) Q ks) ops.toList s := rfl
theorem go_drawn (id : Nat) (ops : Array Oper) : go P nt b z Q (f + 1) (.region id ops true) ks s = wpD P z ops (okK ops (go P nt b z Q f) Q ks) ops.toList [] s := rfl
theorem go_seq (x y : Code) : go P nt b z Q (f + 1) (.seq x y) ks s = go P nt b z Q f x (.seq y :: ks) s := rfl
theorem go_cond (c : Operand) (x y : Code) : go P nt b z Q (f + 1) (.cond c x y) ks s = condG (ev s c) (go P nt b z Q f) x y ks s := rfl
theorem go_block (id : Nat) (x : Code) : go P nt b z Q (f + 1) (.block id x) ks s = go P nt b z Q f x (.blk id :: ks) s := rfl
theorem go_ret : go P nt b z Q (f + 1) .ret ks s = Q .ret s := rfl
theorem go_exit (id : Nat) : go P nt b z Q (f + 1) (.exit id) ks s = exitK (go P nt b z Q f) Q id ks s := rfl
theorem go_loop (x : Code) : go P nt b z Q (f + 1) (.loop x) ks s = LoopG P nt b z Q (.loop x) ks s := rfl
variable {g : Code → List Kt → AS → Prop}
theorem norm_nil : norm g Q [] s = Q .normal s := rfl
theorem norm_seq (c : Code) : norm g Q (.seq c :: ks) s = g c ks s := rfl
theorem norm_blk (id : Nat) : norm g Q (.blk id :: ks) s = norm g Q ks s := rfl
theorem norm_fin (R : AS → Prop) : norm g Q (.fin R :: ks) s = R s := rfl
theorem exit_nil (id : Nat) : exitK g Q id [] s = Q (.exit id) s := rfl
theorem exit_seq (id : Nat) (c : Code) : exitK g Q id (.seq c :: ks) s = exitK g Q id ks s := rfl
theorem exit_fin (id : Nat) (R : AS → Prop) : exitK g Q id (.fin R :: ks) s = exitK g Q id ks s := rfl
theorem exit_blk (id i : Nat) : exitK g Q id (.blk i :: ks) s = if id = i then norm g Q ks s else exitK g Q id ks s := rfl
theorem condG_t (x y : Code) : condG (.bool true) g x y ks s = g x ks s := by simp [condG]
theorem condG_f (x y : Code) : condG (.bool false) g x y ks s = g y ks s := by simp [condG]
theorem condG_of {t : Bool} {x y : Code} (h1 : t = true → g x ks s) (h2 : t = false → g y ks s) : condG (.bool t) g x y ks s := ⟨h1, h2⟩
theorem okK_of {ops : Array Oper} {acc : List Rec} (h1 : okD ops acc = true) (h2 : norm g Q ks s) : okK ops g Q ks acc s := ⟨h1, h2⟩
end
theorem bodyQ_ret (rs : Array ResultVar) (Q : AV → (Nat → AObj) → Nat → Prop) : bodyQ P rs Q .ret s = resK (ares P s rs.toList) Q s := rfl
theorem bodyQ_norm (rs : Array ResultVar) (Q : AV → (Nat → AObj) → Nat → Prop) : bodyQ P rs Q .normal s = resK (ares P s rs.toList) Q s := rfl
def rcons (a : Option AV) (b : Option (List AV)) : Option (List AV) := match a, b with | some v, some vs => some (v :: vs) | _, _ => none
theorem rcons_some (v : AV) (vs : List AV) : rcons (some v) (some vs) = some (v :: vs) := rfl
theorem ares_nil : ares P s [] = some [] := rfl
theorem ares_tmp (t : Nat) (xs : List ResultVar) : ares P s (.tmp t :: xs) = rcons (some (s.t t)) (ares P s xs) := rfl
def fstO (r : Option (AV × List W)) : Option AV := r.map (·.1)
theorem fstO_some (v : AV) (ws : List W) : fstO (some (v, ws)) = some v := rfl
theorem ares_cell (a : Nat) (t : TypeId) (xs : List ResultVar) : ares P s (.cell a t :: xs) = rcons (fstO ((aload P t (s.t a)).run s)) (ares P s xs) := rfl
theorem mk_1 (v : AV) : mkRes [v] = v := rfl
theorem mk_0 : mkRes [] = .tup [] := rfl
theorem mk_2 (v w : AV) (vs : List AV) : mkRes (v :: w :: vs) = .tup (v :: w :: vs) := rfl
theorem resK_some (vs : List AV) (Q : AV → (Nat → AObj) → Nat → Prop) (t : Nat → AV) (h : Nat → AObj) : resK (some vs) Q ⟨t, h, n⟩ = Q (mkRes vs) h n := rfl
theorem app_nil (s : AS) : s.app [] = s := rfl
theorem app_h (t : Nat → AV) (h : Nat → AObj) (i : Nat) (o : AObj) (ws : List W) : AS.app ⟨t, h, n⟩ (.h i o :: ws) = AS.app ⟨t, upd h i o, n⟩ ws := rfl
theorem whs_nil : whs [] = [] := rfl
theorem whs_h (i : Nat) (o : AObj) (ws : List W) : whs (.h i o :: ws) = i :: whs ws := rfl
theorem hwB_nil : hwB [] = true := rfl
theorem hwB_h (i : Nat) (o : AObj) (ws : List W) : hwB (.h i o :: ws) = hwB ws := rfl
theorem zf_nil (d : Option Tmp) : zf [] d = false := by cases d <;> rfl
theorem zf_none (z : List Nat) : zf z none = false := rfl
theorem zf_some (z : List Nat) (d : Tmp) : zf z (some d) = z.contains d := rfl

theorem alen_str (t : TypeId) (l : List UInt8) : alen P t (.str l) = if tStr P t then some l.length else none := rfl
theorem alen_nils (t : TypeId) : alen P t .nils = if (tSl P t).isSome then some 0 else none := rfl
theorem alen_sl (t : TypeId) (sz : Nat) (xs : List (List AV)) : alen P t (.sl sz xs) = if (tSl P t).isSome then some xs.length else none := rfl
theorem alen_row (t : TypeId) (id g off len : Nat) : alen P t (.row id g off len) = if (tSl P t).isSome then some len else none := rfl
theorem alen_bsl (t : TypeId) (id off len cap : Nat) : alen P t (.bsl id off len cap) = if (tSl P t).isSome then some len else none := rfl
theorem alen_agg (t : TypeId) (cs : List AV) : alen P t (.agg cs) = (tArr P t).map (·.1) := rfl

theorem isNilC_tmp (t : Nat) : isNilC (.tmp t) = false := rfl
theorem isNilC_global (t : Nat) : isNilC (.global t) = false := rfl
theorem isNilC_func (t : Nat) : isNilC (.func t) = false := rfl
theorem isNilC_int (k : IntKind) (n : Int) : isNilC (.const (.int k n)) = false := rfl
theorem isNilC_bool (b : Bool) : isNilC (.const (.bool b)) = false := rfl
theorem isNilC_str (b : ByteArray) : isNilC (.const (.string b)) = false := rfl
theorem isNilC_ptr (a : Option Addr) : isNilC (.const (.pointer a)) = false := rfl
theorem isNilC_nf : isNilC (.const .nilFunc) = false := rfl
theorem isNilC_ni : isNilC (.const .nilIface) = true := rfl
theorem isNilC_sl (a : Option Addr) (l c : Nat) : isNilC (.const (.slice a l c)) = false := rfl
theorem isNilC_map (a : Option Nat) : isNilC (.const (.map a)) = false := rfl
theorem abinN_f (op : BinOp) (t : TypeId) (x y : AV) : abinN P op t false x y = abinT P op t x y := rfl
theorem abinN_t (op : BinOp) (t : TypeId) (x y : AV) : abinN P op t true x y = abinNil P op t x := rfl
theorem abinNil_n (op : BinOp) (t : TypeId) : abinNil P op t .nili = if tIface P t then eqOp op true else none := rfl
theorem abinNil_i (op : BinOp) (t u : TypeId) (v : AV) : abinNil P op t (.iface u v) = if tIface P t then eqOp op false else none := rfl
theorem bT_int (op : BinOp) (t : TypeId) (k k' : IntKind) (a b : Int) : abinT P op t (.int k a) (.int k' b) = abin op (.int k a) (.int k' b) := rfl
theorem bT_str (op : BinOp) (t : TypeId) (a b : List UInt8) : abinT P op t (.str a) (.str b) = abin op (.str a) (.str b) := rfl
theorem bT_bool (op : BinOp) (t : TypeId) (a b : Bool) : abinT P op t (.bool a) (.bool b) = if tBool P t then abin op (.bool a) (.bool b) else none := rfl
theorem bT_agg (op : BinOp) (t : TypeId) (a b : List AV) : abinT P op t (.agg a) (.agg b) = if tEqOk P t = true ∧ tAgg P t = some true then (aeqIn P 5 t a b).bind (eqOp op) else none := rfl
theorem bT_nilnil (op : BinOp) (t : TypeId) : abinT P op t .nilp .nilp = if tPtr P t then eqOp op true else none := rfl
theorem bT_ifn (op : BinOp) (t u : TypeId) (v : AV) : abinT P op t (.iface u v) .nili = if tIface P t then eqOp op false else none := rfl
theorem bT_nif (op : BinOp) (t u : TypeId) (v : AV) : abinT P op t .nili (.iface u v) = if tIface P t then eqOp op false else none := rfl
theorem bT_ptr (op : BinOp) (t : TypeId) (id o : Nat) : abinT P op t (.ptr id o) .nilp = if tPtr P t && true then eqOp op false else none := rfl
theorem bT_cp (op : BinOp) (t : TypeId) (cs : List AV) : abinT P op t (.cp cs) .nilp = if tPtr P t && true then eqOp op false else none := rfl
theorem b_add (k : IntKind) (a b : Int) : abin .add (.int k a) (.int k b) = some (.int k (k.wrap (a + b))) := by simp [abin]
theorem b_sub (k : IntKind) (a b : Int) : abin .sub (.int k a) (.int k b) = some (.int k (k.wrap (a - b))) := by simp [abin]
theorem b_mul (k : IntKind) (a b : Int) : abin .mul (.int k a) (.int k b) = some (.int k (k.wrap (a * b))) := by simp [abin]
theorem b_quo (k : IntKind) (a b : Int) (h : b ≠ 0) : abin .quo (.int k a) (.int k b) = some (.int k (k.wrap (a.tdiv b))) := by simp [abin, h]
theorem b_rem (k : IntKind) (a b : Int) (h : b ≠ 0) : abin .rem (.int k a) (.int k b) = some (.int k (a.tmod b)) := by simp [abin, h]
theorem b_and (k : IntKind) (a b : Int) : abin .and (.int k a) (.int k b) = some (.int k (k.wrap (BitVec.ofInt k.bits a &&& BitVec.ofInt k.bits b).toNat)) := by simp [abin]
theorem b_or (k : IntKind) (a b : Int) : abin .or (.int k a) (.int k b) = some (.int k (k.wrap (BitVec.ofInt k.bits a ||| BitVec.ofInt k.bits b).toNat)) := by simp [abin]
theorem b_xor (k : IntKind) (a b : Int) : abin .xor (.int k a) (.int k b) = some (.int k (k.wrap (BitVec.ofInt k.bits a ^^^ BitVec.ofInt k.bits b).toNat)) := by simp [abin]
theorem b_eql (k : IntKind) (a b : Int) : abin .eql (.int k a) (.int k b) = some (.bool (decide (a = b))) := by simp [abin]
theorem b_neq (k : IntKind) (a b : Int) : abin .neq (.int k a) (.int k b) = some (.bool (!decide (a = b))) := by simp [abin]
theorem b_lss (k : IntKind) (a b : Int) : abin .lss (.int k a) (.int k b) = some (.bool (decide (a < b))) := by simp [abin]
theorem b_leq (k : IntKind) (a b : Int) : abin .leq (.int k a) (.int k b) = some (.bool (decide (a ≤ b))) := by simp [abin]
theorem b_gtr (k : IntKind) (a b : Int) : abin .gtr (.int k a) (.int k b) = some (.bool (decide (b < a))) := by simp [abin]
theorem b_geq (k : IntKind) (a b : Int) : abin .geq (.int k a) (.int k b) = some (.bool (decide (b ≤ a))) := by simp [abin]
theorem b_shl (k k' : IntKind) (a b : Int) (h : 0 ≤ b) : abin .shl (.int k a) (.int k' b) = some (.int k (k.wrap (a * 2 ^ (min b.toNat k.bits)))) := by simp [abin, h]
theorem b_shr (k k' : IntKind) (a b : Int) (h : 0 ≤ b) : abin .shr (.int k a) (.int k' b) = some (.int k (a.fdiv (2 ^ (min b.toNat k.bits)))) := by simp [abin, h]
theorem b_cat (a b : List UInt8) (h : ((a.length + b.length : Nat) : Int) ≤ 9223372036854775807) : abin .add (.str a) (.str b) = some (.str (a ++ b)) := by simp only [abin]; rw [if_pos h]
theorem b_seq (a b : List UInt8) : abin .eql (.str a) (.str b) = some (.bool (decide (a = b))) := rfl
theorem b_sne (a b : List UInt8) : abin .neq (.str a) (.str b) = some (.bool (!decide (a = b))) := rfl
theorem b_slt (a b : List UInt8) : abin .lss (.str a) (.str b) = some (.bool (Op.bytesLess a b)) := rfl
theorem b_sgt (a b : List UInt8) : abin .gtr (.str a) (.str b) = some (.bool (!(Op.bytesLess a b || decide (a = b)))) := rfl
theorem b_sle (a b : List UInt8) : abin .leq (.str a) (.str b) = some (.bool (Op.bytesLess a b || decide (a = b))) := rfl
theorem b_sge (a b : List UInt8) : abin .geq (.str a) (.str b) = some (.bool (!Op.bytesLess a b)) := rfl
theorem b_beq (a b : Bool) : abin .eql (.bool a) (.bool b) = some (.bool (a == b)) := rfl
theorem b_bne (a b : Bool) : abin .neq (.bool a) (.bool b) = some (.bool (!(a == b))) := rfl
theorem eqOp_e (b : Bool) : eqOp .eql b = some (.bool b) := rfl
theorem eqOp_n (b : Bool) : eqOp .neq b = some (.bool !b) := rfl
theorem u_not (b : Bool) : aun .not (.bool b) = some (.bool !b) := rfl
theorem u_neg (k : IntKind) (a : Int) : aun .neg (.int k a) = some (.int k (k.wrap (0 - a))) := rfl
theorem u_xor (k : IntKind) (a : Int) : aun .xor (.int k a) = some (.int k (k.wrap (BitVec.ofInt k.bits (if k.signed then -1 else k.max) ^^^ BitVec.ofInt k.bits a).toNat)) := rfl
theorem cells_agg (cs : List AV) : (AV.agg cs).cells = cs := rfl
theorem argT_0 (a : AV) (l : List AV) : argT (a :: l) 0 = a := rfl
theorem argT_s (a : AV) (l : List AV) (k : Nat) : argT (a :: l) (k + 1) = argT l k := rfl
theorem argT_1 (a b : AV) (l : List AV) : argT (a :: b :: l) 1 = b := rfl
theorem argT_2 (a b c : AV) (l : List AV) : argT (a :: b :: c :: l) 2 = c := rfl
theorem argT_3 (a b c d : AV) (l : List AV) : argT (a :: b :: c :: d :: l) 3 = d := rfl
theorem argT_4 (a b c d e : AV) (l : List AV) : argT (a :: b :: c :: d :: e :: l) 4 = e := rfl
theorem argT_5 (a b c d e f : AV) (l : List AV) : argT (a :: b :: c :: d :: e :: f :: l) 5 = f := rfl

end Go.Ab
