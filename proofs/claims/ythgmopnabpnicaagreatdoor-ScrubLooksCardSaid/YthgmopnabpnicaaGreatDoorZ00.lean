import Derived.WalkKit
import Derived.Orders
set_option linter.all false
namespace Go.Ab
open Go

/-- Abstract values. -/
inductive AV where
  | bot
  | bool (b : Bool)
  | int (k : IntKind) (n : Int)
  | str (l : List UInt8)
  | nilp
  | ptr (id off : Nat)
  | rptr (id g i j : Nat)
  | cp (cells : List AV)
  | gp (a off : Nat)
  | nils
  | sl (sz : Nat) (xs : List (List AV))
  | row (id g off len : Nat)
  | bsl (id off len cap : Nat)
  | fn (f : Fn) (first captured : List AV)
  | nilf
  | iface (t : TypeId) (v : AV)
  | nili
  | agg (cells : List AV)
  | tup (vs : List AV)
  | nilm
  | mp (id : Nat)
  deriving Inhabited

inductive AObj where
  | dead
  | box (cells : List AV)
  | fbox (cells : List AV)
  | row (sz g : Nat) (xs : List (List AV))
  | frow (sz g : Nat) (xs : List (List AV))
  | map (es : List (List AV × List AV))
  deriving Inhabited

inductive Plc where
  | nil
  | at (b sz cap : Nat)
  deriving DecidableEq, Inhabited

abbrev Pm := Nat → Nat → Option Plc
def pm0 : Pm := fun _ _ => none

def AV.cells : AV → List AV
  | .agg cs => cs
  | v => [v]

inductive Rel (w : World) (S : Nat → Prop) : Pm → AV → Value → Prop
  | bot {φ v} : Rel w S φ .bot v
  | bool {φ b} : Rel w S φ (.bool b) (.bool b)
  | int {φ k n} : Rel w S φ (.int k n) (.int k n)
  | str {φ l} : Rel w S φ (.str l) (.string ⟨l.toArray⟩)
  | nilp {φ} : Rel w S φ .nilp (.pointer none)
  | ptr {φ : Pm} {id off b sz cap} (h : φ id 0 = some (.at b sz cap)) : Rel w S φ (.ptr id off) (.pointer (some ⟨b, off, none⟩))
  | rptr {φ : Pm} {id g i j b sz cap} (h : φ id g = some (.at b sz cap)) : Rel w S φ (.rptr id g i j) (.pointer (some ⟨b, i * sz + j, none⟩))
  | cp {φ : Pm} {cells : List AV} {b off : Nat} (V : Nat → Value) (hs : S b) (hc : ∀ j, j < cells.length → w.cell? ⟨b, off + j, none⟩ = some (V j))
      (ho : ∀ j, j < cells.length → (V j).oneCell' = true)
      (hr : ∀ j (h : j < cells.length), Rel w S pm0 cells[j] (V j)) :
      Rel w S φ (.cp cells) (.pointer (some ⟨b, off, none⟩))
  | gp {φ a off} : Rel w S φ (.gp a off) (.pointer (some ⟨a, off, none⟩))
  | nils {φ} : Rel w S φ .nils (.slice none 0 0)
  | slnil {φ sz} : Rel w S φ (.sl sz []) (.slice none 0 0)
  | sl {φ : Pm} {xs : List (List AV)} {b off sz cap : Nat} (V : Nat → Nat → Value) (hs : S b) (hcap : xs.length ≤ cap)
      (hsz : ∀ l, l ∈ xs → l.length = sz)
      (hc : ∀ i j, i < xs.length → j < sz → w.cell? ⟨b, off + i * sz + j, none⟩ = some (V i j))
      (ho : ∀ i j, i < xs.length → j < sz → (V i j).oneCell' = true)
      (hr : ∀ i j (hi : i < xs.length) (hj : j < (xs[i]'hi).length), Rel w S pm0 ((xs[i]'hi)[j]'hj) (V i j)) :
      Rel w S φ (.sl sz xs) (.slice (some ⟨b, off, none⟩) xs.length cap)
  | rownil {φ : Pm} {id g} (h : φ id g = some .nil) : Rel w S φ (.row id g 0 0) (.slice none 0 0)
  | row {φ : Pm} {id g off len b sz cap o} (h : φ id g = some (.at b sz cap)) (hl : off + len ≤ cap) (ho : o = off * sz ∨ (off = cap ∧ 0 < off)) :
      Rel w S φ (.row id g off len) (.slice (some ⟨b, o, none⟩) len (cap - off))
  | bsl {φ : Pm} {id off len cap b sz n} (h : φ id 0 = some (.at b sz n)) : Rel w S φ (.bsl id off len cap) (.slice (some ⟨b, off, none⟩) len cap)
  | fn {φ : Pm} {f : Fn} {fi ca : List AV} {vs us : Array Value} (h1 : fi.length = vs.size) (h2 : ∀ i (h : i < fi.length) (h' : i < vs.size), Rel w S φ fi[i] vs[i])
      (h3 : ca.length = us.size) (h4 : ∀ i (h : i < ca.length) (h' : i < us.size), Rel w S φ ca[i] us[i]) : Rel w S φ (.fn f fi ca) (.func f vs us)
  | nilf {φ} : Rel w S φ .nilf .nilFunc
  | iface {φ t v x} (h : Rel w S φ v x) : Rel w S φ (.iface t v) (.iface t x)
  | nili {φ} : Rel w S φ .nili .nilIface
  | agg {φ : Pm} {cells : List AV} {vs : Array Value} (h1 : cells.length = vs.size) (h2 : ∀ i (h : i < cells.length) (h' : i < vs.size), Rel w S φ cells[i] vs[i]) :
      Rel w S φ (.agg cells) (.agg vs)
  | tup {φ : Pm} {cells : List AV} {vs : Array Value} (h1 : cells.length = vs.size) (h2 : ∀ i (h : i < cells.length) (h' : i < vs.size), Rel w S φ cells[i] vs[i]) :
      Rel w S φ (.tup cells) (.tuple vs)
  | nilm {φ} : Rel w S φ .nilm (.map none)
  | mp {φ : Pm} {id b sz cap} (h : φ id 0 = some (.at b sz cap)) : Rel w S φ (.mp id) (.map (some b))

def Pm.le (φ φ' : Pm) : Prop := ∀ id g p, φ id g = some p → φ' id g = some p
theorem Pm.le_refl (φ : Pm) : φ.le φ := fun _ _ _ h => h
theorem Pm.le_trans {a b c : Pm} (h : a.le b) (h' : b.le c) : a.le c := fun i g p e => h' i g p (h i g p e)
theorem pm0_le (φ : Pm) : pm0.le φ := fun _ _ _ h => by cases h

theorem cell_of_block {w w' : World} {a : Addr} (h : w'.heap[a.block]? = w.heap[a.block]?) : w'.cell? a = w.cell? a := by
  simp only [World.cell?, h]

theorem Rel.mono {w w' : World} {S S' : Nat → Prop} {φ φ' : Pm} {x : AV} {v : Value} (h : Rel w S φ x v)
    (hw : ∀ b, S b → w'.heap[b]? = w.heap[b]?) (hS : ∀ b, S b → S' b) (hφ : φ.le φ') : Rel w' S' φ' x v := by
  induction h generalizing φ' with
  | bot => exact .bot
  | bool => exact .bool
  | int => exact .int
  | str => exact .str
  | nilp => exact .nilp
  | ptr h => exact .ptr (hφ _ _ _ h)
  | rptr h => exact .rptr (hφ _ _ _ h)
  | cp V hs hc ho _ ih =>
    exact .cp V (hS _ hs) (fun j hj => by rw [cell_of_block (hw _ hs)]; exact hc j hj) ho (fun j hj => ih j hj (pm0_le _))
  | gp => exact .gp
  | nils => exact .nils
  | slnil => exact .slnil
  | sl V hs hcap hsz hc ho _ ih =>
    exact .sl V (hS _ hs) hcap hsz (fun i j hi hj => by rw [cell_of_block (hw _ hs)]; exact hc i j hi hj) ho (fun i j hi hj => ih i j hi hj (pm0_le _))
  | rownil h => exact .rownil (hφ _ _ _ h)
  | row h hl ho => exact .row (hφ _ _ _ h) hl ho
  | bsl h => exact .bsl (hφ _ _ _ h)
  | fn h1 _ h3 _ ih1 ih2 => exact .fn h1 (fun i h h' => ih1 i h h' hφ) h3 (fun i h h' => ih2 i h h' hφ)
  | nilf => exact .nilf
  | iface _ ih => exact .iface (ih hφ)
  | nili => exact .nili
  | agg h1 _ ih => exact .agg h1 (fun i h h' => ih i h h' hφ)
  | tup h1 _ ih => exact .tup h1 (fun i h h' => ih i h h' hφ)
  | nilm => exact .nilm
  | mp h => exact .mp (hφ _ _ _ h)

/-- what is held of the package-level variables: they are never written -/
class Glob where
  inv : World → (Nat → Prop) → Prop
  mono : ∀ {w w' : World} {S S' : Nat → Prop}, inv w S → (∀ b, S b → w'.heap[b]? = w.heap[b]?) → (∀ b, S b → S' b) → inv w' S'
  cells : Nat → Option (List AV)
  look : ∀ {w : World} {S : Nat → Prop} {g : Nat} {cs : List AV}, inv w S → cells g = some cs → ∀ j (h : j < cs.length), ∃ v, w.cell? ⟨g, j, none⟩ = some v ∧ v.oneCell' = true ∧ Rel w S pm0 cs[j] v

end Go.Ab
namespace Go.Ab
open Go
variable [Glob]

structure AS where
  t : Nat → AV
  h : Nat → AObj
  n : Nat

inductive Loc where
  | t (n : Nat)
  | h (n : Nat)
  deriving DecidableEq

inductive W where
  | t (n : Nat) (v : AV)
  | h (n : Nat) (o : AObj)

def W.loc : W → Loc
  | .t n _ => .t n
  | .h n _ => .h n

def upd {α : Type} (f : Nat → α) (k : Nat) (v : α) : Nat → α := fun i => if i = k then v else f i

def AS.app1 (s : AS) : W → AS
  | .t n v => { s with t := upd s.t n v }
  | .h n o => { s with h := upd s.h n o }
def AS.app (s : AS) : List W → AS
  | [] => s
  | x :: ws => (s.app1 x).app ws

/-- A reader: what an operation looks at, step by step. -/
inductive RM (α : Type) where
  | ret (a : α)
  | fail
  | t (n : Nat) (k : AV → RM α)
  | h (n : Nat) (k : AObj → RM α)

def RM.bind {α β : Type} : RM α → (α → RM β) → RM β
  | .ret a, f => f a
  | .fail, _ => .fail
  | .t n k, f => .t n fun v => (k v).bind f
  | .h n k, f => .h n fun v => (k v).bind f
def RM.run {α : Type} : RM α → AS → Option α
  | .ret a, _ => some a
  | .fail, _ => none
  | .t n k, s => (k (s.t n)).run s
  | .h n k, s => (k (s.h n)).run s
def RM.reads {α : Type} : RM α → AS → List Loc
  | .ret _, _ => []
  | .fail, _ => []
  | .t n k, s => .t n :: (k (s.t n)).reads s
  | .h n k, s => .h n :: (k (s.h n)).reads s
def RM.of {α : Type} : Option α → RM α
  | some a => .ret a
  | none => .fail

/-! ### types -/
def tSize (P : Program) (t : TypeId) : Option Nat := (P.info? t).map (·.size)
def tBytes (P : Program) (t : TypeId) : Option Nat := (P.info? t).map (·.bytes)
def tAgg (P : Program) (t : TypeId) : Option Bool := (P.underlying t).map fun | .struct _ | .array _ _ => true | _ => false
/-- a struct's field: offset, size, is it an aggregate -/
def tFld (P : Program) (t : TypeId) (f : Nat) : Option (Nat × Nat × Bool) :=
  match P.underlying t with
  | some (.struct fs) => match fs[f]? with
    | some fd => match tSize P fd.type, tAgg P fd.type with
      | some n, some g => some (fd.offset, n, g)
      | _, _ => none
    | none => none
  | _ => none
/-- an array: length, element's size, is the element an aggregate -/
def tArr (P : Program) (t : TypeId) : Option (Nat × Nat × Bool) :=
  match P.underlying t with
  | some (.array n e) => match tSize P e, tAgg P e with
    | some m, some g => some (n, m, g)
    | _, _ => none
  | _ => none
/-- a slice: element's type, size, is the element an aggregate -/
def tSl (P : Program) (t : TypeId) : Option (TypeId × Nat × Bool) :=
  match P.underlying t with
  | some (.slice e) => match tSize P e, tAgg P e with
    | some m, some g => some (e, m, g)
    | _, _ => none
  | _ => none
def tInt (P : Program) (t : TypeId) : Option IntKind := match P.underlying t with | some (.int k) => some k | _ => none
def tStr (P : Program) (t : TypeId) : Bool := match P.underlying t with | some .string => true | _ => false

def ofV1 : Value → AV
  | .bool b => .bool b
  | .int k n => .int k n
  | .string s => .str s.data.toList
  | .pointer none => .nilp
  | .slice none 0 0 => .nils
  | .nilFunc => .nilf
  | .nilIface => .nili
  | .map none => .nilm
  | _ => .bot
def ofV : Value → AV
  | .agg cs => .agg (cs.toList.map ofV1)
  | v => ofV1 v
def tZero (P : Program) (t : TypeId) : Option (List AV) := (P.info? t).bind fun i => i.zero.map fun v => (v.cells.toList.map ofV1)

def setL (cs : List AV) (off : Nat) : List AV → List AV
  | [] => cs
  | v :: vs => setL (cs.set off v) (off + 1) vs

def aev : Operand → RM AV
  | .tmp t => .t t .ret
  | .const v => .ret (ofV v)
  | .global g => .ret (.gp g 0)
  | .func f => .ret (.fn (.func f) [] [])

def AV.isBot : AV → Bool
  | .bot => true
  | _ => false

/-- surely one cell -/
def AV.one : AV → Bool
  | .bot | .agg _ | .tup _ => false
  | _ => true

def guardA {α : Type} (c : Prop) [Decidable c] (x : RM α) : RM α := if c then x else .fail

/-- cells as a value: one cell alone, or an aggregate -/
def mkV (g : Bool) (cs : List AV) : Option AV :=
  match g, cs with
  | true, cs => some (.agg cs)
  | false, [c] => some c
  | false, _ => none

def cut (cs : List AV) (off n : Nat) : List AV := (cs.drop off).take n

abbrev Res := RM (AV × List W)
def val (v : AV) : Res := .ret (v, [])
def valO (v : Option AV) : Res := match v with | some v => .ret (v, []) | none => .fail

/-! ### the operations -/
def aload (P : Program) (t : TypeId) (a : AV) : Res :=
  match tSize P t, tAgg P t with
  | some n, some g =>
    match a with
    | .ptr id off => .h id fun
      | .box cs => guardA (off + n ≤ cs.length) (valO (mkV g (cut cs off n)))
      | .fbox cs => guardA (off + n ≤ cs.length) (valO (mkV g (cut cs off n)))
      | _ => .fail
    | .rptr id gen i j => .h id fun
      | .row sz gen' xs => guardA (gen = gen' ∧ i < xs.length ∧ j + n ≤ sz) (valO (mkV g (cut (xs.getD i []) j n)))
      | .frow sz gen' xs => guardA (gen = gen' ∧ i < xs.length ∧ j + n ≤ sz) (valO (mkV g (cut (xs.getD i []) j n)))
      | _ => .fail
    | .cp cs => guardA (n ≤ cs.length) (valO (mkV g (cut cs 0 n)))
    | .gp a off => match Glob.cells a with
      | some cs => guardA (off + n ≤ cs.length) (valO (mkV g (cut cs off n)))
      | none => .fail
    | _ => .fail
  | _, _ => .fail

mutual
/-- may a value go into a row? it must lead to no block of the call's own -/
def AV.flat : AV → Bool
  | .bool _ | .int _ _ | .str _ | .nilp | .cp _ | .gp _ _ | .nils | .sl _ _ | .nilf | .nili | .nilm => true
  | .fn _ fi ca => flatL fi && flatL ca
  | .iface _ v => v.flat
  | _ => false
def flatL : List AV → Bool
  | [] => true
  | x :: xs => x.flat && flatL xs
end
theorem flatL_get : ∀ {xs : List AV}, flatL xs = true → ∀ i (h : i < xs.length), (xs[i]).flat = true
  | x :: xs, hl, 0, _ => by rw [flatL, Bool.and_eq_true] at hl; exact hl.1
  | x :: xs, hl, i + 1, h => by rw [flatL, Bool.and_eq_true] at hl; exact flatL_get hl.2 i (by simpa using h)

/-- what a value is once nothing writes to it any more, and the writes that say so -/
def frz (x : AV) : RM (AV × List W) :=
  match x with
  | .row id g off len => .h id fun
    | .row sz g' xs => guardA (g = g' ∧ off + len ≤ xs.length) (.ret (.sl sz ((xs.drop off).take len), [.h id (.frow sz g' xs)]))
    | .frow sz g' xs => guardA (g = g' ∧ off + len ≤ xs.length) (.ret (.sl sz ((xs.drop off).take len), []))
    | _ => .fail
  | x => guardA (x.flat = true) (.ret (x, []))
def frzL : List AV → RM (List AV × List W)
  | [] => .ret ([], [])
  | x :: xs => (frz x).bind fun (y, ws) => (frzL xs).bind fun (ys, us) => .ret (y :: ys, ws ++ us)
def frzV (x : AV) : RM (AV × List W) :=
  match x with
  | .agg cs => (frzL cs).bind fun (ys, ws) => .ret (.agg ys, ws)
  | x => frz x

def astore (P : Program) (t : TypeId) (a x : AV) : Res :=
  match tSize P t with
  | some n =>
    match a with
    | .ptr id off => .h id fun
      | .box cs => guardA (x.cells.length = n ∧ off + n ≤ cs.length ∧ x.cells.all AV.one = true) (.ret (.bot, [.h id (.box (setL cs off x.cells))]))
      | _ => .fail
    | .rptr id gen i j => .h id fun
      | .row sz gen' xs => guardA (gen = gen' ∧ i < xs.length ∧ j + n ≤ sz ∧ x.cells.length = n ∧ x.cells.all AV.flat = true)
          (.ret (.bot, [.h id (.row sz gen' (xs.set i (setL (xs.getD i []) j x.cells)))]))
      | _ => .fail
    | _ => .fail
  | none => .fail

def abin (op : BinOp) (x y : AV) : Option AV :=
  match x, y with
  | .int k a, .int k' c =>
    match op with
    | .shl => if 0 ≤ c then some (.int k (k.wrap (a * 2 ^ (min c.toNat k.bits)))) else none
    | .shr => if 0 ≤ c then some (.int k (a.fdiv (2 ^ (min c.toNat k.bits)))) else none
    | op => if k = k' then
      match op with
      | .add => some (.int k (k.wrap (a + c)))
      | .sub => some (.int k (k.wrap (a - c)))
      | .mul => some (.int k (k.wrap (a * c)))
      | .quo => if c = 0 then none else some (.int k (k.wrap (a.tdiv c)))
      | .rem => if c = 0 then none else some (.int k (a.tmod c))
      | .and => some (.int k (k.wrap (BitVec.ofInt k.bits a &&& BitVec.ofInt k.bits c).toNat))
      | .or => some (.int k (k.wrap (BitVec.ofInt k.bits a ||| BitVec.ofInt k.bits c).toNat))
      | .xor => some (.int k (k.wrap (BitVec.ofInt k.bits a ^^^ BitVec.ofInt k.bits c).toNat))
      | .andNot => some (.int k (k.wrap (BitVec.ofInt k.bits a &&& ~~~ BitVec.ofInt k.bits c).toNat))
      | .eql => some (.bool (decide (a = c)))
      | .neq => some (.bool (!decide (a = c)))
      | .lss => some (.bool (decide (a < c)))
      | .leq => some (.bool (decide (a ≤ c)))
      | .gtr => some (.bool (decide (c < a)))
      | .geq => some (.bool (decide (c ≤ a)))
      | _ => none
      else none
  | .str a, .str c =>
    match op with
    | .add => if ((a.length + c.length : Nat) : Int) ≤ 9223372036854775807 then some (.str (a ++ c)) else none
    | .eql => some (.bool (decide (a = c)))
    | .neq => some (.bool (!decide (a = c)))
    | .lss => some (.bool (Op.bytesLess a c))
    | .leq => some (.bool (Op.bytesLess a c || decide (a = c)))
    | .gtr => some (.bool (!(Op.bytesLess a c || decide (a = c))))
    | .geq => some (.bool (!Op.bytesLess a c))
    | _ => none
  | .bool a, .bool c =>
    match op with
    | .eql => some (.bool (a == c))
    | .neq => some (.bool (!(a == c)))
    | _ => none
  | _, _ => none

def aun (op : UnOp) (x : AV) : Option AV :=
  match op, x with
  | .neg, .int k n => some (.int k (k.wrap (0 - n)))
  | .xor, .int k n => some (.int k (k.wrap (BitVec.ofInt k.bits (if k.signed then -1 else k.max) ^^^ BitVec.ofInt k.bits n).toNat))
  | .not, .bool b => some (.bool !b)
  | _, _ => none

/-- do all values lead to no block of the call's own? -/
def flatLB (l : List AV) : Bool := l.all AV.flat

def afill (places : Nat → Option (Nat × Nat)) (cells : List AV) : List (Nat × AV) → Option (List AV)
  | [] => some cells
  | (i, v) :: rest =>
    match places i with
    | none => none
    | some (off, size) => if v.cells.length = size ∧ off + size ≤ cells.length then afill places (setL cells off v.cells) rest else none

def aevL : List (Nat × Operand) → RM (List (Nat × AV))
  | [] => .ret []
  | (i, x) :: r => (aev x).bind fun v => (aevL r).bind fun vs => .ret ((i, v) :: vs)
def aevs : List Operand → RM (List AV)
  | [] => .ret []
  | x :: r => (aev x).bind fun v => (aevs r).bind fun vs => .ret (v :: vs)

/-- a struct's fields: offset and size -/
def tPlaces (P : Program) (t : TypeId) : Option (List (Nat × Nat)) :=
  match P.underlying t with
  | some (.struct fs) => fs.toList.mapM fun f => (tSize P f.type).map fun n => (f.offset, n)
  | _ => none

def abuild (P : Program) (t : TypeId) (parts : List (Nat × AV)) : Option AV :=
  match tZero P t with
  | none => none
  | some zero =>
    match tPlaces P t with
    | some l => (afill (fun i => l[i]?) zero parts).map .agg
    | none => match tArr P t with
      | some (_, m, _) => (afill (fun i => some (i * m, m)) zero parts).map .agg
      | none => none

/-- rows of so many cells, one behind the other -/
def chunks (sz : Nat) : Nat → List AV → List (List AV)
  | 0, _ => []
  | n + 1, cs => cs.take sz :: chunks sz n (cs.drop sz)

def sliceLo (x : Option AV) : Option Nat := match x with | none => some 0 | some (.int _ i) => if 0 ≤ i then some i.toNat else none | _ => none
def sliceHi (len : Nat) (x : Option AV) : Option Nat := match x with | none => some len | some (.int _ i) => if 0 ≤ i then some i.toNat else none | _ => none
def aslice (P : Program) (t : TypeId) (x : AV) (lo hi : Option AV) : Res :=
  match sliceLo lo with
  | none => .fail
  | some l =>
    match x with
    | .str s =>
      match sliceHi s.length hi with
      | some h => guardA (tStr P t = true ∧ l ≤ h ∧ h ≤ s.length) (val (.str ((s.take h).drop l)))
      | none => .fail
    | .sl sz xs =>
      match tSl P t with
      | some (_, m, _) =>
        match sliceHi xs.length hi with
        | some h => guardA (sz = m ∧ l ≤ h ∧ h ≤ xs.length) (val (.sl sz ((xs.take h).drop l)))
        | none => .fail
      | none => .fail
    | .row id g off len =>
      match tSl P t with
      | some (_, m, _) =>
        match sliceHi len hi with
        | some h => .h id fun
          | .row sz g' xs => guardA (sz = m ∧ g = g' ∧ l ≤ h ∧ h ≤ len ∧ off + len ≤ xs.length) (val (.row id g (off + l) (h - l)))
          | .frow sz g' xs => guardA (sz = m ∧ g = g' ∧ l ≤ h ∧ h ≤ len ∧ off + len ≤ xs.length) (val (.row id g (off + l) (h - l)))
          | _ => .fail
        | none => .fail
      | none => .fail
    | .ptr id off =>
      match tArr P t with
      | some (n, m, _) =>
        match sliceHi n hi with
        | some h => guardA (m = 1 ∧ l ≤ h ∧ h ≤ n ∧ l < n) (val (.bsl id (off + l) (h - l) (n - l)))
        | none => .fail
      | none => .fail
    | _ => .fail

def aindexAddr (P : Program) (t : TypeId) (x i : AV) : Res :=
  match i with
  | .int _ i =>
    match x with
    | .ptr id off => match tArr P t with
      | some (n, m, _) => guardA (0 ≤ i ∧ i < n) (val (.ptr id (off + i.toNat * m)))
      | none => .fail
    | .rptr id g a b => match tArr P t with
      | some (n, m, _) => guardA (0 ≤ i ∧ i < n) (val (.rptr id g a (b + i.toNat * m)))
      | none => .fail
    | .cp cs => match tArr P t with
      | some (n, m, _) => guardA (0 ≤ i ∧ i < n) (val (.cp (cs.drop (i.toNat * m))))
      | none => .fail
    | .gp a off => match tArr P t with
      | some (n, m, _) => guardA (0 ≤ i ∧ i < n) (val (.gp a (off + i.toNat * m)))
      | none => .fail
    | .sl sz xs => match tSl P t with
      | some (_, m, _) => guardA (sz = m ∧ 0 ≤ i ∧ i < (xs.length : Int)) (val (.cp (xs.getD i.toNat [])))
      | none => .fail
    | .row id g off len => match tSl P t with
      | some (_, m, _) => .h id fun
        | .row sz g' xs => guardA (sz = m ∧ g = g' ∧ 0 ≤ i ∧ i < (len : Int) ∧ off + len ≤ xs.length) (val (.rptr id g (off + i.toNat) 0))
        | .frow sz g' xs => guardA (sz = m ∧ g = g' ∧ 0 ≤ i ∧ i < (len : Int) ∧ off + len ≤ xs.length) (val (.rptr id g (off + i.toNat) 0))
        | _ => .fail
      | none => .fail
    | .bsl id off len _ => match tSl P t with
      | some (_, m, _) => guardA (m = 1 ∧ 0 ≤ i ∧ i < (len : Int)) (val (.ptr id (off + i.toNat)))
      | none => .fail
    | _ => .fail
  | _ => .fail

def aindex (P : Program) (t : TypeId) (x i : AV) : Res :=
  match i with
  | .int _ i =>
    match x with
    | .str s => guardA (tStr P t = true ∧ 0 ≤ i ∧ i < (s.length : Int)) (val (.int .u8 ((s.getD i.toNat 0).toNat : Nat)))
    | .agg cs => match tArr P t with
      | some (n, m, g) => guardA (0 ≤ i ∧ i < n ∧ i.toNat * m + m ≤ cs.length) (valO (mkV g (cut cs (i.toNat * m) m)))
      | none => .fail
    | _ => .fail
  | _ => .fail

def byteOf (x : List AV) : Option UInt8 := match x with | [.int .u8 n] => some (UInt8.ofNat n.toNat) | _ => none
def bytesOf : List (List AV) → Option (List UInt8)
  | [] => some []
  | x :: xs => match byteOf x, bytesOf xs with | some b, some bs => some (b :: bs) | _, _ => none
/-- a string's bytes as a slice's elements -/
def encB (l : List UInt8) : List (List AV) := l.map fun b => [.int .u8 (b.toNat : Nat)]

/-- a slice's content -/
def content (m : Nat) (x : AV) : RM (List (List AV)) :=
  match x with
  | .nils => .ret []
  | .sl sz xs => guardA (sz = m) (.ret xs)
  | .row id g off len => .h id fun
    | .row sz g' xs => guardA (sz = m ∧ g = g' ∧ off + len ≤ xs.length) (.ret ((xs.drop off).take len))
    | .frow sz g' xs => guardA (sz = m ∧ g = g' ∧ off + len ≤ xs.length) (.ret ((xs.drop off).take len))
    | _ => .fail
  | .bsl id off len _ => .h id fun
    | .box cs => guardA (m = 1 ∧ off + len ≤ cs.length ∧ (cut cs off len).all AV.flat = true) (.ret ((cut cs off len).map fun c => [c]))
    | .fbox cs => guardA (m = 1 ∧ off + len ≤ cs.length ∧ (cut cs off len).all AV.flat = true) (.ret ((cut cs off len).map fun c => [c]))
    | _ => .fail
  | _ => .fail

def aconvert (P : Program) (b : Nat) (src dst : TypeId) (x : AV) : Res :=
  match x with
  | .int _ n => match tInt P dst, tInt P src with | some k, some _ => val (.int k (k.wrap n)) | _, _ => .fail
  | .str s =>
    if tStr P src && tStr P dst then val x
    else match tStr P src, tSl P dst with
      | true, some (e, _, _) => match tInt P e with
        | some .u8 => .ret (.row b 0 0 s.length, [.h b (.row 1 0 (encB s))])
        | _ => .fail
      | _, _ => .fail
  | x => match tSl P src, tStr P dst with
    | some (e, _, _), true => match tInt P e with
      | some .u8 => (content 1 x).bind fun xs => match bytesOf xs with | some l => val (.str l) | none => .fail
      | _ => .fail
    | _, _ => .fail

def alen (P : Program) (t : TypeId) (x : AV) : Option Nat :=
  match x with
  | .str s => if tStr P t then some s.length else none
  | .nils => if (tSl P t).isSome then some 0 else none
  | .sl _ xs => if (tSl P t).isSome then some xs.length else none
  | .row _ _ _ len => if (tSl P t).isSome then some len else none
  | .bsl _ _ len _ => if (tSl P t).isSome then some len else none
  | .agg _ => (tArr P t).map (·.1)
  | _ => none

/-- what append adds: a slice's elements, or a string's bytes -/
def addend (m : Nat) (x : AV) : RM (List (List AV)) :=
  match x with
  | .str s => guardA (m = 1) (.ret (encB s))
  | x => content m x

/-- append's types: the element's size and bytes -/
def tAp (P : Program) (t t' : TypeId) : Option (Nat × Nat) :=
  match tSl P t with
  | some (e, m, _) => match tBytes P e, tZero P e with
    | some by_, some z => if (P.underlying t').isSome = true ∧ tInt P t' = none ∧ 0 < by_ ∧ z.length = m then some (m, by_) else none
    | _, _ => none
  | none => none
def apRow (id g off len m by_ : Nat) (ys : List (List AV)) : AObj → Res
  | .row sz g' xs => guardA (sz = m ∧ g = g' ∧ off = 0 ∧ len = xs.length ∧ (2 * (len + ys.length) + 512) * by_ ≤ 2 ^ 47)
      (.ret (.row id (g + 1) 0 (len + ys.length), [.h id (.row sz (g + 1) (xs ++ ys))]))
  | _ => .fail
def aappend (P : Program) (b : Nat) (t t' : TypeId) (s x : AV) : Res :=
  match tAp P t t' with
  | some p =>
    (addend p.1 x).bind fun ys =>
    match s with
    | .nils => guardA ((2 * ys.length + 512) * p.2 ≤ 2 ^ 47) (.ret (.row b 0 0 ys.length, [.h b (.row p.1 0 ys)]))
    | .row id g off len => .h id (apRow id g off len p.1 p.2 ys)
    | _ => .fail
  | none => .fail

/-- copy into a row of the call's own, or into an array's cells -/
def acopy (P : Program) (t : TypeId) (d x : AV) : Res :=
  match tSl P t with
  | some (_, m, _) =>
    (addend m x).bind fun ys =>
    match d with
    | .row id g off len => .h id fun
      | .row sz g' xs => guardA (sz = m ∧ g = g' ∧ off + len ≤ xs.length)
          (.ret (.int .i64 ((min ys.length len : Nat) : Int), [.h id (.row sz g' (xs.take off ++ ys.take len ++ xs.drop (off + min ys.length len)))]))
      | _ => .fail
    | .bsl id off len _ => .h id fun
      | .box cs => guardA (m = 1 ∧ off + len ≤ cs.length)
          (.ret (.int .i64 ((min ys.length len : Nat) : Int), [.h id (.box (cs.take off ++ ((ys.take len).map fun y => y.headD .bot) ++ cs.drop (off + min ys.length len)))]))
      | _ => .fail
    | _ => .fail
  | none => .fail

def aminmax (lt : Int → Int → Bool) : List AV → Option AV
  | [] => none
  | [.int k a] => some (.int k a)
  | .int k a :: .int k' b :: r => if k = k' then aminmax lt (.int k (if lt b a then b else a) :: r) else none
  | _ => none
termination_by l => l.length

def abuiltin (P : Program) (b : Nat) (f : Builtin) (ts : List TypeId) (args : List AV) : Res :=
  match f, ts, args with
  | .len, t :: _, [x] => valO ((alen P t x).map fun n : Nat => AV.int .i64 (n : Int))
  | .append, t :: t' :: _, [s, x] => aappend P b t t' s x
  | .copy, t :: _, [d, x] => acopy P t d x
  | .min, _, args => valO (aminmax (fun x y => decide (x < y)) args)
  | .max, _, args => valO (aminmax (fun x y => decide (y < x)) args)
  | _, _, _ => .fail

def tBool (P : Program) (t : TypeId) : Bool := match P.underlying t with | some .bool => true | _ => false
def tPtr (P : Program) (t : TypeId) : Bool := match P.underlying t with | some (.pointer _) => true | _ => false
def tIface (P : Program) (t : TypeId) : Bool := match P.underlying t with | some (.interface _) => true | _ => false
/-- a struct's fields: type, offset, size -/
def tFields (P : Program) (t : TypeId) : Option (List (TypeId × Nat × Nat)) :=
  match P.underlying t with
  | some (.struct fs) => if fs.toList.any (fun f => f.name == "_") || P.stoodInHeld t then none else
      fs.toList.mapM fun f => (tSize P f.type).map fun n => (f.type, f.offset, n)
  | _ => none
/-- an array of integers: its length -/
def tInts (P : Program) (t : TypeId) : Option Nat :=
  match P.underlying t with
  | some (.array n e) => match P.underlying e, tSize P e with | some (.int _), some 1 => some n | _, _ => none
  | _ => none
/-- two values of the type may be held against each other without a look at nil interfaces -/
def tEqOk (P : Program) (t : TypeId) : Bool := !P.eqGuardType P.depth t
def intsOf : List AV → Option (IntKind × List Int)
  | [] => some (.u8, [])
  | [.int k a] => some (k, [a])
  | .int k a :: r => match intsOf r with | some (k', l) => if k = k' then some (k, a :: l) else none | none => none
  | _ => none
def aeqFs (F : TypeId → List AV → List AV → Option Bool) (xs ys : List AV) : List (TypeId × Nat × Nat) → Option Bool
  | [] => some true
  | (t, off, m) :: r => if off + m ≤ xs.length ∧ off + m ≤ ys.length then
      match F t (cut xs off m) (cut ys off m), aeqFs F xs ys r with | some a, some b => some (a && b) | _, _ => none
    else none
def aeqIn (P : Program) : Nat → TypeId → List AV → List AV → Option Bool
  | 0, _, _, _ => none
  | d + 1, t, xs, ys =>
    match xs, ys with
    | [.bool a], [.bool c] => if tBool P t then some (a == c) else none
    | [.int k a], [.int k' c] => if k = k' ∧ (tInt P t).isSome then some (decide (a = c)) else none
    | [.str a], [.str c] => if tStr P t then some (decide (a = c)) else none
    | xs, ys =>
      match tFields P t with
      | some fs => aeqFs (aeqIn P d) xs ys fs
      | none => none

/-- may it be read through? -/
def AV.isAddr : AV → Bool
  | .ptr _ _ | .rptr _ _ _ _ | .cp _ | .gp _ _ => true
  | _ => false
def eqOp (op : BinOp) (b : Bool) : Option AV := match op with | .eql => some (.bool b) | .neq => some (.bool !b) | _ => none
def abinT (P : Program) (op : BinOp) (t : TypeId) (x y : AV) : Option AV :=
  match x, y with
  | .bool _, .bool _ => if tBool P t then abin op x y else none
  | .agg xs, .agg ys => if tEqOk P t = true ∧ tAgg P t = some true then (aeqIn P 5 t xs ys).bind (eqOp op) else none
  | .nilp, .nilp => if tPtr P t then eqOp op true else none
  | .nilp, y => if tPtr P t && y.isAddr then eqOp op false else none
  | x, .nilp => if tPtr P t && x.isAddr then eqOp op false else none
  | .iface _ _, .nili => if tIface P t then eqOp op false else none
  | .nili, .iface _ _ => if tIface P t then eqOp op false else none
  | x, y => abin op x y

/-- is it the nil of an interface, written out? -/
def isNilV : Value → Bool
  | .nilIface => true
  | _ => false
def isNilC : Operand → Bool
  | .const v => isNilV v
  | _ => false
def abinNil (P : Program) (op : BinOp) (t : TypeId) (x : AV) : Option AV :=
  match x with
  | .nili => if tIface P t then eqOp op true else none
  | x => abinT P op t x .nili
def abinN (P : Program) (op : BinOp) (t : TypeId) (b : Bool) (x y : AV) : Option AV :=
  match b with
  | true => abinNil P op t x
  | false => abinT P op t x y

/-- an operation: the value that it yields, and the writes to memory -/
def aopV (P : Program) (b : Nat) : Op → Res
  | .move x | .assign x => (aev x).bind val
  | .pick c x y => (aev c).bind fun
    | .bool t => (aev x).bind fun vx => (aev y).bind fun vy => val (if t then vx else vy)
    | _ => .fail
  | .alloc e => match tZero P e with | some z => .ret (.ptr b 0, [.h b (.box z)]) | none => .fail
  | .box _ x => (aev x).bind fun v => guardA (v.isBot = false) (.ret (.ptr b 0, [.h b (.box v.cells)]))
  | .build t ps => (aevL ps.toList).bind fun vs => guardA (vs.all (fun p => !p.2.isBot) = true) (valO (abuild P t vs))
  | .buildSlice t n ps => (aevL ps.toList).bind fun vs =>
    match tSl P t with
    | some (e, m, _) => match tZero P e with
      | some z => match afill (fun i => some (i * m, m)) ((List.replicate n z).flatten) vs with
        | some cs => guardA (z.length = m ∧ n * m ≤ 2 ^ 24 ∧ vs.all (fun p => !p.2.isBot) = true) ((frzL cs).bind fun (ys, ws) => .ret (.row b 0 0 n, ws ++ [.h b (.row m 0 (chunks m n ys))]))
        | none => .fail
      | none => .fail
    | none => .fail
  | .load t a => (aev a).bind (aload P t)
  | .store t a x => (aev a).bind fun a => (aev x).bind fun x => astore P t a x
  | .nilCheck x => (aev x).bind fun v => match v with
    | .ptr _ _ | .rptr _ _ _ _ | .cp _ | .gp _ _ => val v
    | .fn (.func _) _ _ => val v
    | _ => .fail
  | .binOp op t xo yo _ => (aev xo).bind fun x => (aev yo).bind fun y => valO (abinN P op t (isNilC yo) x y)
  | .unOp op _ x => (aev x).bind fun x => valO (aun op x)
  | .convert s d x => (aev x).bind (aconvert P b s d)
  | .makeFunc f fi ca => (aevs fi.toList).bind fun vs => (aevs ca.toList).bind fun us => val (.fn f vs us)
  | .makeSlice t l c => (aev l).bind fun l => (aev c).bind fun c =>
    match l, c, tSl P t with
    | .int _ l, .int _ c, some (e, m, _) => match tZero P e, tBytes P e with
      | some z, some by_ => guardA (l = c ∧ 0 ≤ l ∧ l ≤ 2 ^ 47 ∧ l * by_ ≤ 2 ^ 47 ∧ z.length = m ∧ flatLB z = true) (.ret (.row b 0 0 l.toNat, [.h b (.row m 0 (List.replicate l.toNat z))]))
      | _, _ => .fail
    | _, _, _ => .fail
  | .slice t x lo hi none => (aev x).bind fun x =>
    match lo, hi with
    | none, none => aslice P t x none none
    | some lo, none => (aev lo).bind fun lo => aslice P t x (some lo) none
    | none, some hi => (aev hi).bind fun hi => aslice P t x none (some hi)
    | some lo, some hi => (aev lo).bind fun lo => (aev hi).bind fun hi => aslice P t x (some lo) (some hi)
  | .fieldAddr t x f => (aev x).bind fun x => match tFld P t f with
    | some (off, n, _) => guardA (0 < n) (match x with
      | .ptr id o => val (.ptr id (o + off))
      | .rptr id g i j => val (.rptr id g i (j + off))
      | .cp cs => val (.cp (cs.drop off))
      | .gp a o => val (.gp a (o + off))
      | _ => .fail)
    | none => .fail
  | .field t x f => (aev x).bind fun x => match tFld P t f, x with
    | some (off, n, g), .agg cs => guardA (off + n ≤ cs.length) (valO (mkV g (cut cs off n)))
    | _, _ => .fail
  | .indexAddr t x i => (aev x).bind fun x => (aev i).bind fun i => aindexAddr P t x i
  | .index t x i => (aev x).bind fun x => (aev i).bind fun i => aindex P t x i
  | .extract x i => (aev x).bind fun
    | .tup vs => valO (vs[i]?)
    | _ => .fail
  | .call { callee := .builtin f, args, argTypes } => (aevs args.toList).bind (abuiltin P b f argTypes.toList)
  | _ => .fail

end Go.Ab
namespace Go.Ab
open Go
variable [Glob]

def upd2 (φ : Pm) (id g : Nat) (p : Plc) : Pm := fun i g' => if i = id ∧ g' = g then some p else φ i g'

def RowAt (w : World) (b : Nat) (cs : Array Value) : Prop :=
  ∃ ty fz, w.heap[b]? = some (.cells cs ty fz) ∧ ∀ off, off < cs.size → ¬ (fz.1 ≤ off ∧ off < fz.2)

theorem RowAt.lt {w : World} {b : Nat} {cs : Array Value} (h : RowAt w b cs) : b < w.heap.size := by
  obtain ⟨ty, fz, h, _⟩ := h
  rcases Nat.lt_or_ge b w.heap.size with h' | h'
  · exact h'
  · simp [Array.getElem?_eq_none h'] at h
theorem RowAt.mono {w w' : World} {b : Nat} {cs : Array Value} (h : RowAt w b cs) (e : w'.heap[b]? = w.heap[b]?) : RowAt w' b cs := by
  obtain ⟨ty, fz, h1, h2⟩ := h
  exact ⟨ty, fz, e.trans h1, h2⟩
theorem RowAt.cell {w : World} {b off : Nat} {cs : Array Value} (h : RowAt w b cs) : w.cell? ⟨b, off, none⟩ = cs[off]? := by
  obtain ⟨ty, fz, h1, h2⟩ := h
  simp [World.cell?, h1]
theorem RowAt.frozen {w : World} {b off : Nat} {cs : Array Value} (h : RowAt w b cs) (ho : off < cs.size) : w.frozen? ⟨b, off, none⟩ = false := by
  obtain ⟨ty, fz, h1, h2⟩ := h
  have := h2 off ho
  simp only [World.frozen?, h1]
  simp only [Bool.and_eq_false_iff, decide_eq_false_iff_not]
  by_cases h : fz.1 ≤ off
  · exact .inr fun h' => this ⟨h, h'⟩
  · exact .inl h
theorem RowAt.uniq {w : World} {b : Nat} {cs cs' : Array Value} (h : RowAt w b cs) (h' : RowAt w b cs') : cs = cs' := by
  obtain ⟨ty, fz, h1, _⟩ := h
  obtain ⟨ty', fz', h1', _⟩ := h'
  rw [h1] at h1'
  simp at h1'
  exact h1'.1

def AObj.live : AObj → Option Nat
  | .box _ => some 0
  | .row _ g _ => some g
  | .map _ => some 0
  | _ => none

def BoxRel (w : World) (S : Nat → Prop) (φ : Pm) (cells : List AV) (cs : Array Value) : Prop :=
  cells.length = cs.size ∧ ∀ j (h : j < cells.length) (h' : j < cs.size), Rel w S φ cells[j] cs[j]
def RowRel (w : World) (S : Nat → Prop) (sz : Nat) (xs : List (List AV)) (cs : Array Value) : Prop :=
  (∀ l, l ∈ xs → l.length = sz) ∧ ∀ i j (hi : i < xs.length) (hj : j < (xs[i]'hi).length), ∃ v, cs[i * sz + j]? = some v ∧ v.oneCell' = true ∧ Rel w S pm0 ((xs[i]'hi)[j]'hj) v

def ObjRel (w : World) (S : Nat → Prop) (φ : Pm) (id : Nat) : AObj → Prop
  | .dead => True
  | .box cells => ∃ b cs, φ id 0 = some (.at b 1 cells.length) ∧ RowAt w b cs ∧ BoxRel w S φ cells cs
  | .fbox cells => ∃ b cs, φ id 0 = some (.at b 1 cells.length) ∧ RowAt w b cs ∧ BoxRel w S pm0 cells cs ∧ S b
  | .row sz g xs => (∀ g', g < g' → φ id g' = none) ∧ ((φ id g = some .nil ∧ xs = []) ∨
      ∃ b cap cs, φ id g = some (.at b sz cap) ∧ RowAt w b cs ∧ cs.size = cap * sz ∧ xs.length ≤ cap ∧ RowRel w S sz xs cs)
  | .frow sz g xs => ((φ id g = some .nil ∧ xs = []) ∨
      ∃ b cap cs, φ id g = some (.at b sz cap) ∧ RowAt w b cs ∧ cs.size = cap * sz ∧ xs.length ≤ cap ∧ RowRel w S sz xs cs ∧ S b)
  | .map _ => False

def LiveAt (φ : Pm) (h : Nat → AObj) (id b : Nat) : Prop := ∃ g sz cap, (h id).live = some g ∧ φ id g = some (.at b sz cap)

theorem BoxRel.mono {w w' : World} {S S' : Nat → Prop} {φ φ' : Pm} {cells : List AV} {cs : Array Value} (h : BoxRel w S φ cells cs)
    (hw : ∀ b, S b → w'.heap[b]? = w.heap[b]?) (hS : ∀ b, S b → S' b) (hφ : φ.le φ') : BoxRel w' S' φ' cells cs :=
  ⟨h.1, fun j h1 h2 => (h.2 j h1 h2).mono hw hS hφ⟩
theorem RowRel.mono {w w' : World} {S S' : Nat → Prop} {sz : Nat} {xs : List (List AV)} {cs : Array Value} (h : RowRel w S sz xs cs)
    (hw : ∀ b, S b → w'.heap[b]? = w.heap[b]?) (hS : ∀ b, S b → S' b) : RowRel w' S' sz xs cs :=
  ⟨h.1, fun i j hi hj => let ⟨v, h1, h0, h2⟩ := h.2 i j hi hj; ⟨v, h1, h0, h2.mono hw hS (Pm.le_refl _)⟩⟩

theorem ObjRel.mono {w w' : World} {S S' : Nat → Prop} {φ φ' : Pm} {id : Nat} {o : AObj} (h : ObjRel w S φ id o)
    (hw : ∀ b, S b → w'.heap[b]? = w.heap[b]?) (hS : ∀ b, S b → S' b) (hφ : φ.le φ') (hid : ∀ g, φ' id g = φ id g)
    (hl : ∀ g b sz cap, o.live = some g → φ id g = some (.at b sz cap) → w'.heap[b]? = w.heap[b]?) : ObjRel w' S' φ' id o := by
  cases o with
  | dead => trivial
  | box cells =>
    obtain ⟨b, cs, h1, h2, h3⟩ := h
    exact ⟨b, cs, (hid _).trans h1, h2.mono (hl _ _ _ _ rfl h1), h3.mono hw hS hφ⟩
  | fbox cells =>
    obtain ⟨b, cs, h1, h2, h3, h4⟩ := h
    exact ⟨b, cs, (hid _).trans h1, h2.mono (hw _ h4), h3.mono hw hS (pm0_le _), hS _ h4⟩
  | row sz g xs =>
    obtain ⟨h0, h⟩ := h
    refine ⟨fun g' hg => (hid g').trans (h0 g' hg), ?_⟩
    rcases h with h | ⟨b, cap, cs, h1, h2, h3, h4, h5⟩
    · exact .inl ⟨(hid _).trans h.1, h.2⟩
    · exact .inr ⟨b, cap, cs, (hid _).trans h1, h2.mono (hl _ _ _ _ rfl h1), h3, h4, h5.mono hw hS⟩
  | frow sz g xs =>
    rcases h with h | ⟨b, cap, cs, h1, h2, h3, h4, h5, h6⟩
    · exact .inl ⟨(hid _).trans h.1, h.2⟩
    · exact .inr ⟨b, cap, cs, (hid _).trans h1, h2.mono (hw _ h6), h3, h4, h5.mono hw hS, hS _ h6⟩
  | map es => exact h

theorem ObjRel.live_lt {w : World} {S : Nat → Prop} {φ : Pm} {id : Nat} {o : AObj} (h : ObjRel w S φ id o) {g b sz cap : Nat}
    (hl : o.live = some g) (hp : φ id g = some (.at b sz cap)) : b < w.heap.size := by
  cases o with
  | dead => cases hl
  | box cells =>
    obtain ⟨b', cs, h1, h2, h3⟩ := h
    cases hl
    rw [h1] at hp; cases hp
    exact h2.lt
  | fbox => cases hl
  | row sz' g' xs =>
    cases hl
    rcases h.2 with h | ⟨b', cap', cs, h1, h2, h3, h4, h5⟩
    · rw [h.1] at hp; cases hp
    · rw [h1] at hp; cases hp; exact h2.lt
  | frow => cases hl
  | map es => exact h.elim

structure HeapOK (w : World) (S : Nat → Prop) (φ : Pm) (h : Nat → AObj) (n : Nat) : Prop where
  obj : ∀ id, ObjRel w S φ id (h id)
  inj : ∀ id id' b, LiveAt φ h id b → LiveAt φ h id' b → id = id'
  sep : ∀ id b, LiveAt φ h id b → ¬ S b
  bnd : ∀ b, S b → b < w.heap.size
  new : ∀ id, n ≤ id → h id = .dead ∧ ∀ g, φ id g = none
  glob : Glob.inv w S

theorem HeapOK.live_lt {w : World} {S : Nat → Prop} {φ : Pm} {h : Nat → AObj} {n id b : Nat} (H : HeapOK w S φ h n) (hl : LiveAt φ h id b) : b < w.heap.size := by
  obtain ⟨g, sz, cap, h1, h2⟩ := hl
  exact (H.obj id).live_lt h1 h2

/-- a number that names nothing yet -/
def Fr (φ : Pm) (h : Nat → AObj) (i : Nat) : Prop := h i = .dead ∧ ∀ g, φ i g = none
/-- nothing dies, and only what lives is given a place -/
def Tame (φ : Pm) (h : Nat → AObj) (φ' : Pm) (h' : Nat → AObj) : Prop :=
  (∀ id, h' id = .dead → h id = .dead) ∧ ∀ id g, φ id g = none → h' id = .dead → φ' id g = none
theorem Tame.trans {φ φ' φ'' : Pm} {h h' h'' : Nat → AObj} (a : Tame φ h φ' h') (b : Tame φ' h' φ'' h'') : Tame φ h φ'' h'' :=
  ⟨fun id e => a.1 id (b.1 id e), fun id g e1 e2 => b.2 id g (a.2 id g e1 (b.1 id e2)) e2⟩
theorem Tame.fr {φ φ' : Pm} {h h' : Nat → AObj} (a : Tame φ h φ' h') {i : Nat} (f : Fr φ h i) (e : h' i = .dead) : Fr φ' h' i :=
  ⟨e, fun g => a.2 i g (f.2 g) e⟩

structure GStep (w : World) (S : Nat → Prop) (φ : Pm) (h : Nat → AObj) (w' : World) (S' : Nat → Prop) (φ' : Pm) (h' : Nat → AObj) : Prop where
  os : w'.os = w.os
  tape : w'.tape = w.tape
  out : w'.output = w.output
  size : w.heap.size ≤ w'.heap.size
  sub : ∀ b, S b → S' b
  le : φ.le φ'
  keep : ∀ k, k < w.heap.size → (∀ id, ¬ LiveAt φ h id k) → w'.heap[k]? = w.heap[k]?
  from_ : ∀ k, S' k → S k ∨ (∃ id, LiveAt φ h id k) ∨ w.heap.size ≤ k
  live : ∀ id k, LiveAt φ' h' id k → (∃ id', LiveAt φ h id' k) ∨ w.heap.size ≤ k

theorem GStep.refl (w : World) (S : Nat → Prop) (φ : Pm) (h : Nat → AObj) : GStep w S φ h w S φ h :=
  ⟨rfl, rfl, rfl, Nat.le_refl _, fun _ h => h, Pm.le_refl _, fun _ _ _ => rfl, fun _ h => .inl h, fun id _ h => .inl ⟨id, h⟩⟩
theorem GStep.trans {w w' w'' : World} {S S' S'' : Nat → Prop} {φ φ' φ'' : Pm} {h h' h'' : Nat → AObj}
    (a : GStep w S φ h w' S' φ' h') (b : GStep w' S' φ' h' w'' S'' φ'' h'') : GStep w S φ h w'' S'' φ'' h'' := by
  refine ⟨b.os.trans a.os, b.tape.trans a.tape, b.out.trans a.out, Nat.le_trans a.size b.size, fun x hx => b.sub x (a.sub x hx), Pm.le_trans a.le b.le, ?_, ?_, ?_⟩
  · intro k hk hn
    rw [b.keep k (Nat.lt_of_lt_of_le hk a.size) ?_, a.keep k hk hn]
    intro id hl
    rcases a.live id k hl with ⟨id', h'⟩ | h'
    · exact hn id' h'
    · omega
  · intro k hk
    rcases b.from_ k hk with h1 | ⟨id, h1⟩ | h1
    · exact a.from_ k h1
    · rcases a.live id k h1 with h2 | h2
      · exact .inr (.inl h2)
      · exact .inr (.inr h2)
    · exact .inr (.inr (Nat.le_trans a.size h1))
  · intro id k hk
    rcases b.live id k hk with ⟨id', h1⟩ | h1
    · exact a.live id' k h1
    · exact .inr (Nat.le_trans a.size h1)

/-- Values that were told keep being so. -/
theorem GStep.rel {w w' : World} {S S' : Nat → Prop} {φ φ' : Pm} {h h' : Nat → AObj} {n : Nat} (a : GStep w S φ h w' S' φ' h') (H : HeapOK w S φ h n)
    {x : AV} {v : Value} (r : Rel w S φ x v) : Rel w' S' φ' x v :=
  r.mono (fun b hb => a.keep b (H.bnd b hb) fun id hl => H.sep id b hl hb) a.sub a.le

structure Step (w : World) (S : Nat → Prop) (φ : Pm) (h : Nat → AObj) (w' : World) (S' : Nat → Prop) (φ' : Pm) (h' : Nat → AObj) : Prop where
  os : w'.os = w.os
  tape : w'.tape = w.tape
  out : w'.output = w.output
  size : w.heap.size ≤ w'.heap.size
  sub : ∀ b, S b → S' b
  le : φ.le φ'
  keep : ∀ k, k < w.heap.size → (∀ id, ¬ LiveAt φ h id k) → w'.heap[k]? = w.heap[k]?
  from_ : ∀ k, S' k → S k ∨ (∃ id, LiveAt φ h id k) ∨ w.heap.size ≤ k
  live : ∀ id k, LiveAt φ' h' id k → (∃ id', LiveAt φ h id' k) ∨ w.heap.size ≤ k
  tame : Tame φ h φ' h'

theorem Step.g {w w' : World} {S S' : Nat → Prop} {φ φ' : Pm} {h h' : Nat → AObj} (a : Step w S φ h w' S' φ' h') : GStep w S φ h w' S' φ' h' :=
  ⟨a.os, a.tape, a.out, a.size, a.sub, a.le, a.keep, a.from_, a.live⟩

theorem Step.refl (w : World) (S : Nat → Prop) (φ : Pm) (h : Nat → AObj) : Step w S φ h w S φ h :=
  ⟨rfl, rfl, rfl, Nat.le_refl _, fun _ h => h, Pm.le_refl _, fun _ _ _ => rfl, fun _ h => .inl h, fun id _ h => .inl ⟨id, h⟩, fun _ e => e, fun _ _ e _ => e⟩
theorem Step.trans {w w' w'' : World} {S S' S'' : Nat → Prop} {φ φ' φ'' : Pm} {h h' h'' : Nat → AObj}
    (a : Step w S φ h w' S' φ' h') (b : Step w' S' φ' h' w'' S'' φ'' h'') : Step w S φ h w'' S'' φ'' h'' :=
  have c := a.g.trans b.g
  ⟨c.os, c.tape, c.out, c.size, c.sub, c.le, c.keep, c.from_, c.live, a.tame.trans b.tame⟩

/-- Values that were told keep being so. -/
theorem Step.rel {w w' : World} {S S' : Nat → Prop} {φ φ' : Pm} {h h' : Nat → AObj} {n : Nat} (a : Step w S φ h w' S' φ' h') (H : HeapOK w S φ h n)
    {x : AV} {v : Value} (r : Rel w S φ x v) : Rel w' S' φ' x v :=
  r.mono (fun b hb => a.keep b (H.bnd b hb) fun id hl => H.sep id b hl hb) a.sub a.le

/-- One object turns; the others stay. -/
theorem HeapOK.turn {w w' : World} {S S' : Nat → Prop} {φ φ' : Pm} {h h' : Nat → AObj} {n n' : Nat} (H : HeapOK w S φ h n) (i : Nat)
    (hh : ∀ id, id ≠ i → h' id = h id) (hφ : ∀ id g, id ≠ i → φ' id g = φ id g) (hle : φ.le φ')
    (hos : w'.os = w.os) (htape : w'.tape = w.tape) (hout : w'.output = w.output) (hsize : w.heap.size ≤ w'.heap.size)
    (hS : ∀ b, S b → S' b)
    (hkeep : ∀ k, k < w.heap.size → ¬ LiveAt φ h i k → w'.heap[k]? = w.heap[k]?)
    (hobj : ObjRel w' S' φ' i (h' i))
    (hlive : ∀ b, LiveAt φ' h' i b → LiveAt φ h i b ∨ w.heap.size ≤ b)
    (hfrom : ∀ b, S' b → S b ∨ ((LiveAt φ h i b ∨ w.heap.size ≤ b) ∧ b < w'.heap.size))
    (hsep : ∀ b, LiveAt φ' h' i b → ¬ S' b)
    (hn : n ≤ n') (hi : i < n') (hdd : h' i ≠ .dead) : HeapOK w' S' φ' h' n' ∧ Step w S φ h w' S' φ' h' := by
  have old : ∀ id, id ≠ i → ∀ b, LiveAt φ' h' id b ↔ LiveAt φ h id b := fun id hid b => by
    unfold LiveAt
    rw [hh id hid]
    simp only [hφ id _ hid]
  have hSk : ∀ b, S b → w'.heap[b]? = w.heap[b]? := fun b hb => hkeep b (H.bnd b hb) fun hl => H.sep i b hl hb
  refine ⟨⟨?_, ?_, ?_, ?_, ?_, Glob.mono H.glob hSk hS⟩, ⟨hos, htape, hout, hsize, hS, hle, ?_, ?_, ?_, ?_⟩⟩
  · intro id
    by_cases hid : id = i
    · subst hid; exact hobj
    · rw [hh id hid]
      refine (H.obj id).mono hSk hS hle (fun g => hφ id g hid) fun g b sz cap hl hp => ?_
      refine hkeep b ((H.obj id).live_lt hl hp) fun hl' => hid (H.inj id i b ⟨g, sz, cap, hl, hp⟩ hl')
  · intro id id' b h1 h2
    by_cases e1 : id = i
    · by_cases e2 : id' = i
      · rw [e1, e2]
      · rw [old id' e2] at h2
        subst e1
        rcases hlive b h1 with h3 | h3
        · exact H.inj _ _ b h3 h2
        · have := H.live_lt h2; omega
    · rw [old id e1] at h1
      by_cases e2 : id' = i
      · subst e2
        rcases hlive b h2 with h3 | h3
        · exact H.inj _ _ b h1 h3
        · have := H.live_lt h1; omega
      · rw [old id' e2] at h2
        exact H.inj _ _ b h1 h2
  · intro id b h1 h2
    by_cases e : id = i
    · subst e; exact hsep b h1 h2
    · rw [old id e] at h1
      rcases hfrom b h2 with h3 | ⟨h3 | h3, _⟩
      · exact H.sep id b h1 h3
      · exact e (H.inj id i b h1 h3)
      · have := H.live_lt h1; omega
  · intro b hb
    rcases hfrom b hb with h1 | ⟨_, h1⟩
    · exact Nat.lt_of_lt_of_le (H.bnd b h1) hsize
    · exact h1
  · intro id hid
    have e : id ≠ i := by omega
    obtain ⟨h1, h2⟩ := H.new id (by omega)
    exact ⟨by rw [hh id e]; exact h1, fun g => by rw [hφ id g e]; exact h2 g⟩
  · intro k hk hn
    exact hkeep k hk (hn i)
  · intro k hk
    rcases hfrom k hk with h1 | ⟨h1 | h1, _⟩
    · exact .inl h1
    · exact .inr (.inl ⟨i, h1⟩)
    · exact .inr (.inr h1)
  · intro id k hk
    by_cases e : id = i
    · subst e
      rcases hlive k hk with h1 | h1
      · exact .inl ⟨id, h1⟩
      · exact .inr h1
    · rw [old id e] at hk
      exact .inl ⟨id, hk⟩
  · refine ⟨fun id e => ?_, fun id g e1 e2 => ?_⟩
    · have ne : id ≠ i := fun h => hdd (h ▸ e)
      rw [hh id ne] at e; exact e
    · have ne : id ≠ i := fun h => hdd (h ▸ e2)
      rw [hφ id g ne]; exact e1

theorem heap_push_lt (w : World) (o : Obj) (k : Nat) (h : k < w.heap.size) : (w.heap.push o)[k]? = w.heap[k]? := by
  rw [Array.getElem?_push, if_neg (by omega)]
theorem heap_push_at (w : World) (o : Obj) : (w.heap.push o)[w.heap.size]? = some o := by
  rw [Array.getElem?_push, if_pos rfl]

theorem upd_same {α : Type} (f : Nat → α) (k : Nat) (v : α) : upd f k v k = v := by simp [upd]
theorem upd_ne {α : Type} (f : Nat → α) {k i : Nat} (v : α) (h : i ≠ k) : upd f k v i = f i := by simp [upd, h]

theorem upd2_le {φ : Pm} {i g : Nat} {p : Plc} (h : φ i g = none) : φ.le (upd2 φ i g p) := by
  intro i' g' p' h'
  unfold upd2
  split
  · rename_i e; rw [e.1, e.2, h] at h'; cases h'
  · exact h'

/-- A new block, as a box. -/
theorem HeapOK.newBox {w : World} {S : Nat → Prop} {φ : Pm} {h : Nat → AObj} {n : Nat} (H : HeapOK w S φ h n) (i : Nat) {n' : Nat} (hi : Fr φ h i ∧ n ≤ n') (hn' : i < n')
    (cells : List AV) (cs : Array Value) (ty : TypeId) (hr : BoxRel w S φ cells cs) :
    ∃ φ', HeapOK (w.alloc (.cells cs ty)) S φ' (upd h i (.box cells)) n' ∧ Step w S φ h (w.alloc (.cells cs ty)) S φ' (upd h i (.box cells)) ∧
      φ' i 0 = some (.at w.heap.size 1 cells.length) := by
  obtain ⟨⟨hd, hnone⟩, hnn⟩ := hi
  have hle : φ.le (upd2 φ i 0 (.at w.heap.size 1 cells.length)) := upd2_le (hnone 0)
  have hh : (w.alloc (.cells cs ty)).heap = w.heap.push (.cells cs ty) := rfl
  have hks : ∀ b, S b → (w.alloc (.cells cs ty)).heap[b]? = w.heap[b]? := fun b hb => by rw [hh]; exact heap_push_lt w _ b (H.bnd b hb)
  have hnl : ∀ b, ¬ LiveAt φ h i b := fun b ⟨g, sz, cap, h1, _⟩ => by rw [hd] at h1; cases h1
  have := H.turn (w' := w.alloc (.cells cs ty)) (S' := S) (φ' := upd2 φ i 0 (.at w.heap.size 1 cells.length)) (h' := upd h i (.box cells)) (n' := n') i
    (fun id hid => upd_ne _ _ hid) (fun id g hid => by simp [upd2, hid]) hle rfl rfl rfl (by rw [hh]; simp) (fun _ h => h)
    (fun k hk _ => by rw [hh]; exact heap_push_lt w _ k hk)
    (by
      rw [upd_same]
      exact ⟨w.heap.size, cs, by simp [upd2], ⟨ty, (0, 0), by rw [hh]; exact heap_push_at w _, fun off _ hf => by simp at hf⟩, hr.mono hks (fun _ h => h) hle⟩)
    (fun b ⟨g, sz, cap, h1, h2⟩ => by
      rw [upd_same] at h1; cases h1
      simp [upd2] at h2; exact .inr (by omega))
    (fun b hb => .inl hb)
    (fun b ⟨g, sz, cap, h1, h2⟩ hb => by
      rw [upd_same] at h1; cases h1
      simp [upd2] at h2
      have := H.bnd b hb; omega)
    hnn hn' (by rw [upd_same]; intro h; cases h)
  exact ⟨_, this.1, this.2, by simp [upd2]⟩

/-- A new block, as a row. -/
theorem HeapOK.newRow {w : World} {S : Nat → Prop} {φ : Pm} {h : Nat → AObj} {n : Nat} (H : HeapOK w S φ h n) (i : Nat) {n' : Nat} (hi : Fr φ h i ∧ n ≤ n') (hn' : i < n')
    (sz cap : Nat) (xs : List (List AV)) (cs : Array Value) (ty : TypeId) (fz : Nat × Nat) (hsz : cs.size = cap * sz) (hcap : xs.length ≤ cap) (hr : RowRel w S sz xs cs)
    (hfz : ∀ off, off < cs.size → ¬ (fz.1 ≤ off ∧ off < fz.2)) (w' : World) (hw' : w'.heap = w.heap.push (.cells cs ty fz))
    (hos : w'.os = w.os) (htape : w'.tape = w.tape) (hout : w'.output = w.output) :
    ∃ φ', HeapOK w' S φ' (upd h i (.row sz 0 xs)) n' ∧ Step w S φ h w' S φ' (upd h i (.row sz 0 xs)) ∧
      φ' i 0 = some (.at w.heap.size sz cap) := by
  obtain ⟨⟨hd, hnone⟩, hnn⟩ := hi
  have hle : φ.le (upd2 φ i 0 (.at w.heap.size sz cap)) := upd2_le (hnone 0)
  have hks : ∀ b, S b → w'.heap[b]? = w.heap[b]? := fun b hb => by rw [hw']; exact heap_push_lt w _ b (H.bnd b hb)
  have := H.turn (w' := w') (S' := S) (φ' := upd2 φ i 0 (.at w.heap.size sz cap)) (h' := upd h i (.row sz 0 xs)) (n' := n') i
    (fun id hid => upd_ne _ _ hid) (fun id g hid => by simp [upd2, hid]) hle hos htape hout (by rw [hw']; simp) (fun _ h => h)
    (fun k hk _ => by rw [hw']; exact heap_push_lt w _ k hk)
    (by
      rw [upd_same]
      refine ⟨fun g' hg => ?_, .inr ⟨w.heap.size, cap, cs, by simp [upd2], ⟨ty, fz, by rw [hw']; exact heap_push_at w _, hfz⟩, hsz, hcap, hr.mono hks (fun _ h => h)⟩⟩
      have : g' ≠ 0 := by omega
      simp [upd2, this, hnone])
    (fun b ⟨g, sz, cap, h1, h2⟩ => by
      rw [upd_same] at h1; cases h1
      simp [upd2] at h2; exact .inr (by omega))
    (fun b hb => .inl hb)
    (fun b ⟨g, sz, cap, h1, h2⟩ hb => by
      rw [upd_same] at h1; cases h1
      simp [upd2] at h2
      have := H.bnd b hb; omega)
    hnn hn' (by rw [upd_same]; intro h; cases h)
  exact ⟨_, this.1, this.2, by simp [upd2]⟩

end Go.Ab
