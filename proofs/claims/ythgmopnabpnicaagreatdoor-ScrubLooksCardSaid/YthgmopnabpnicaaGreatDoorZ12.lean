import Derived.Test.YthgmopnabpnicaaGreatDoorZ11
set_option linter.all false
namespace Go.Ab
open Go Go.Proofs
variable [Glob]
set_option maxHeartbeats 400000

def fateS (s : Shelf) : Shelf × Int := match s.fates with | [] => (s, 0) | f :: r => (⟨s.objs, r⟩, if f < 0 ∨ 4 < f then 0 else f)
theorem fate_c (s : Shelf) (h1 : s.objs.length < 2^40) (h2 : s.fates.length < 2^40) : APure Tryz.prog 115 [.agg s.av] (.tup [.agg (fateS s).1.av, .int .i64 (fateS s).2]) := by
  refine apure_fin mixed [] 400 Tryz.func115 Tryz.ntmps115 Tryz.results115 rfl rfl (by simp) rfl ?_
  obtain ⟨objs, fates⟩ := s
  cases fates with
  | nil =>
    simp (disch := first | omega | (simp only [ZL] <;> omega)) only [Z, Op.callOf, bslE, nilE, mslE, fadE, AV.cells, AV.isBot, AV.one, AV.flat, flatL, ids1, ids2, idsX, AV.lt, ltL, AObj.lt, finE, sevalprocAttr, Shelf.av, encI, List.map_nil]
    simp only [fateS, Shelf.av, encI, List.map_nil]
    repeat' first | exact Sub.rfl' _ | exact sub_nils _ | exact SubL.nil | refine sub_tup ?_ | refine sub_agg ?_ | refine SubL.cons ?_ ?_
  | cons f r =>
    have e : ¬ ((r.length + 1 : Nat) : Int) = 0 := by omega
    simp only [fateS]
    have et : List.take r.length (List.map (fun n => [AV.int IntKind.i64 n]) r) = List.map (fun n => [AV.int IntKind.i64 n]) r := List.take_of_length_le (by simp)
    by_cases e1 : f < 0
    · simp (disch := first | omega | (simp only [ZL] <;> omega)) only [Z, Op.callOf, bslE, nilE, mslE, fadE, AV.cells, AV.isBot, AV.one, AV.flat, flatL, ids1, ids2, idsX, AV.lt, ltL, AObj.lt, finE, sevalprocAttr, Shelf.av, encI, List.map_cons, e, e1, et, true_or]
      repeat' first | exact Sub.rfl' _ | exact sub_nils _ | exact SubL.nil | refine sub_tup ?_ | refine sub_agg ?_ | refine SubL.cons ?_ ?_
    · by_cases e2 : 4 < f
      · simp (disch := first | omega | (simp only [ZL] <;> omega)) only [Z, Op.callOf, bslE, nilE, mslE, fadE, AV.cells, AV.isBot, AV.one, AV.flat, flatL, ids1, ids2, idsX, AV.lt, ltL, AObj.lt, finE, sevalprocAttr, Shelf.av, encI, List.map_cons, e, e1, e2, et, or_true]
        repeat' first | exact Sub.rfl' _ | exact sub_nils _ | exact SubL.nil | refine sub_tup ?_ | refine sub_agg ?_ | refine SubL.cons ?_ ?_
      · simp (disch := first | omega | (simp only [ZL] <;> omega)) only [Z, Op.callOf, bslE, nilE, mslE, fadE, AV.cells, AV.isBot, AV.one, AV.flat, flatL, ids1, ids2, idsX, AV.lt, ltL, AObj.lt, finE, sevalprocAttr, Shelf.av, encI, List.map_cons, e, e1, e2, et, or_self]
        repeat' first | exact Sub.rfl' _ | exact sub_nils _ | exact SubL.nil | refine sub_tup ?_ | refine sub_agg ?_ | refine SubL.cons ?_ ?_

def Obj.z : Obj := ⟨[], [], [], false⟩
def findS (objs : List Obj) (name : List UInt8) : Option Obj := objs.find? (fun o => decide (o.name = name))
theorem find36_c (s : Shelf) (name : List UInt8) (h1 : s.objs.length < 2^40) : APure Tryz.prog 116 [.agg s.av, .str name]
    (.tup [.agg ((findS s.objs name).getD Obj.z).av, .bool (findS s.objs name).isSome]) := by
  refine apure_fin mixed [] 400 Tryz.func116 Tryz.ntmps116 Tryz.results116 rfl rfl (by simp) rfl ?_
  simp (disch := first | omega | (simp only [ZL] <;> omega)) only [Z, Op.callOf, bslE, nilE, mslE, fadE, AV.cells, AV.isBot, AV.one, AV.flat, flatL, ids1, ids2, idsX, AV.lt, ltL, AObj.lt, finE, sevalprocAttr, Shelf.av]
  refine loopF mixed (fun k : Nat => mk [(1, .str name), (2, .ptr 0 0), (4, .ptr 1 0), (9, .int .i64 s.objs.length), (10, .int .i64 k)] [(0, .box s.av), (1, .box Obj.z.av)] 2)
    (fun k => k ≤ s.objs.length ∧ findS (s.objs.drop k) name = findS s.objs name) (fun k => s.objs.length - k) 0 400 rfl rfl ⟨by omega, by simp⟩ ?_ ?_
  · refine less_mk (by simp) (by simp) ?_ ?_ <;> simp (disch := first | omega | (simp only [ZL] <;> omega)) only [Z, Op.callOf, bslE, nilE, mslE, fadE, AV.cells, AV.isBot, AV.one, AV.flat, flatL, ids1, ids2, idsX, AV.lt, ltL, AObj.lt, finE, sevalprocAttr, Shelf.av, Obj.z, Obj.av]
  rintro k ⟨hk, hJ⟩
  simp (disch := first | omega | (simp only [ZL] <;> omega)) only [Z, Op.callOf, bslE, nilE, mslE, fadE, AV.cells, AV.isBot, AV.one, AV.flat, flatL, ids1, ids2, idsX, AV.lt, ltL, AObj.lt, finE, sevalprocAttr, Shelf.av, Obj.z]
  refine condG_p (fun e => ?_) (fun e => ?_)
  · have hk' : k < s.objs.length := by omega
    rw [List.drop_eq_getElem_cons hk', findS, List.find?_cons] at hJ
    simp (disch := first | omega | (simp only [ZL] <;> omega)) only [Z, Op.callOf, bslE, nilE, mslE, fadE, AV.cells, AV.isBot, AV.one, AV.flat, flatL, ids1, ids2, idsX, AV.lt, ltL, AObj.lt, finE, sevalprocAttr, Obj.av]
    refine condG_p (fun e1 => ?_) (fun e1 => ?_)
    · simp (disch := first | omega | (simp only [ZL] <;> omega)) only [Z, Op.callOf, bslE, nilE, mslE, fadE, AV.cells, AV.isBot, AV.one, AV.flat, flatL, ids1, ids2, idsX, AV.lt, ltL, AObj.lt, finE, sevalprocAttr, e1, Obj.av]
      simp only [e1, decide_true] at hJ
      rw [← hJ]
      simp only [Option.getD_some, Option.isSome_some, Obj.av, e1]
      repeat' first | exact Sub.rfl' _ | exact sub_nils _ | exact SubL.nil | refine sub_tup ?_ | refine sub_agg ?_ | refine SubL.cons ?_ ?_
    · simp (disch := first | omega | (simp only [ZL] <;> omega)) only [Z, Op.callOf, bslE, nilE, mslE, fadE, AV.cells, AV.isBot, AV.one, AV.flat, flatL, ids1, ids2, idsX, AV.lt, ltL, AObj.lt, finE, sevalprocAttr, e1]
      simp only [e1, decide_false] at hJ
      refine finR_of (k + 1) ⟨by omega, hJ⟩ (by omega) ?_
      refine less_mk (by simp) (by simp) ?_ ?_ <;> simp (disch := first | omega | (simp only [ZL] <;> omega)) only [Z, Op.callOf, bslE, nilE, mslE, fadE, AV.cells, AV.isBot, AV.one, AV.flat, flatL, ids1, ids2, idsX, AV.lt, ltL, AObj.lt, finE, sevalprocAttr, Shelf.av, Obj.z, Obj.av, i64_add1]
  · have : k = s.objs.length := by omega
    subst this
    rw [List.drop_length] at hJ
    simp (disch := first | omega | (simp only [ZL] <;> omega)) only [Z, Op.callOf, bslE, nilE, mslE, fadE, AV.cells, AV.isBot, AV.one, AV.flat, flatL, ids1, ids2, idsX, AV.lt, ltL, AObj.lt, finE, sevalprocAttr, Obj.av]
    rw [← hJ]
    repeat' first | exact Sub.rfl' _ | exact sub_nils _ | exact SubL.nil | refine sub_tup ?_ | refine sub_agg ?_ | refine SubL.cons ?_ ?_

def getS (s : Shelf) (name : List UInt8) : Shelf × List UInt8 × Int :=
  if chkS none s.objs ≠ 0 then (s, [], chkS none s.objs) else if namedS name = false then (s, [], 7) else
  let p := fateS s
  if p.2 = 4 then (p.1, [], 17) else
  match findS s.objs name with
  | none => (p.1, [], 9)
  | some x => if p.2 = 1 then (p.1, [], 9) else if p.2 = 3 then (if x.had then (p.1, x.was, 0) else (p.1, [], 9)) else if p.2 = 2 then (p.1, flipS x.data, 0) else (p.1, x.data, 0)

theorem fateS_objs (s : Shelf) : (fateS s).1.objs = s.objs := by
  obtain ⟨objs, fates⟩ := s
  cases fates <;> rfl

/-! ### the program's own way -/
def lowerS (objs : List Obj) (name : List UInt8) : Nat := (objs.takeWhile (fun o => Op.bytesLess o.name name)).length
variable [LibC]
theorem find1_c (x : Obj) (name : List UInt8) : APure Tryz.prog 113 [.agg x.av, .str name] (.int .i64 (cmpS x.name name)) := by
  refine apure_fin mixed [] 400 Tryz.func113 Tryz.ntmps113 Tryz.results113 rfl rfl (by simp) rfl ?_
  simp (disch := first | omega | (simp only [ZL] <;> omega)) only [Z, Op.callOf, bslE, nilE, mslE, fadE, AV.cells, AV.isBot, AV.one, AV.flat, flatL, ids1, ids2, idsX, AV.lt, ltL, AObj.lt, finE, sevalprocAttr, Obj.av]
  refine callL_pure (LibC.cmp _ _) (by simp [ltL, AV.lt]) rfl ?_
  simp (disch := first | omega | (simp only [ZL] <;> omega)) only [Z, Op.callOf, bslE, nilE, mslE, fadE, AV.cells, AV.isBot, AV.one, AV.flat, flatL, ids1, ids2, idsX, AV.lt, ltL, AObj.lt, finE, sevalprocAttr]
  repeat' first | exact Sub.rfl' _ | exact sub_nils _ | exact SubL.nil | refine sub_tup ?_ | refine sub_agg ?_ | refine SubL.cons ?_ ?_
theorem mid_c (i j : Nat) (h : i + j < 4611686018427387904) : IntKind.i64.wrap ((IntKind.u64.wrap ((i : Int) + (j : Int))).fdiv (2 ^ min 1 IntKind.u64.bits)) = (((i + j) / 2 : Nat) : Int) := by
  have e1 : IntKind.u64.wrap ((i : Int) + (j : Int)) = ((i + j : Nat) : Int) := by rw [IntKind.wrap_u64]; omega
  have e2 : (2 : Int) ^ min 1 IntKind.u64.bits = 2 := by decide
  rw [e1, e2, Int.fdiv_eq_ediv_of_nonneg _ (by decide), IntKind.wrap_i64]
  omega
theorem cmpS_lt (a b : List UInt8) : decide (cmpS a b < 0) = Op.bytesLess a b := by
  unfold cmpS; split <;> rename_i h
  · simp [h]
  · split <;> simp [h]
theorem cmpS_eq (a b : List UInt8) : decide (cmpS a b = 0) = decide (a = b) := by
  unfold cmpS; split <;> rename_i h
  · have : a ≠ b := by
      rintro rfl
      have := bl_gt a a
      rw [h] at this
      simp at this
    simp [this]
  · split <;> rename_i h' <;> simp [h']
def below (name : List UInt8) (o : Obj) : Bool := Op.bytesLess o.name name
theorem bsearch_c (objs : List Obj) (name : List UInt8) (h1 : objs.length < 2^40) (lo : Nat) (hlo : lo ≤ objs.length) (ha : ∀ i (h : i < objs.length), below name objs[i] = decide (i < lo)) :
    APure Tryz.prog 112 [.sl 4 (objs.map Obj.av), .str name, .fn (.func 113) [] []] (.tup [.int .i64 lo, .bool (decide (objs[lo]?.map Obj.name = some name))]) := by
  refine apure_fin mixed [] 400 Tryz.func112 Tryz.ntmps112 Tryz.results112 rfl rfl (by simp) rfl ?_
  simp (disch := first | omega | (simp only [ZL] <;> omega)) only [Z, Op.callOf, bslE, nilE, mslE, fadE, AV.cells, AV.isBot, AV.one, AV.flat, flatL, ids1, ids2, idsX, AV.lt, ltL, AObj.lt, finE, sevalprocAttr]
  refine loopF mixed (fun p : Nat × Nat => mk [(0, .sl 4 (objs.map Obj.av)), (1, .str name), (2, .fn (.func 113) [] []), (8, .int .i64 objs.length), (9, .int .i64 p.1), (10, .int .i64 p.2)] [] 0)
    (fun p => p.1 ≤ lo ∧ lo ≤ p.2 ∧ p.2 ≤ objs.length) (fun p => p.2 - p.1) (0, objs.length) 400 rfl rfl ⟨by dsimp only; omega, by dsimp only; omega, by dsimp only; omega⟩ ?_ ?_
  · refine less_mk (by simp) (by simp) ?_ ?_ <;> simp (disch := first | omega | (simp only [ZL] <;> omega)) only [Z, Op.callOf, bslE, nilE, mslE, fadE, AV.cells, AV.isBot, AV.one, AV.flat, flatL, ids1, ids2, idsX, AV.lt, ltL, AObj.lt, finE, sevalprocAttr]
  rintro ⟨i, j⟩ ⟨k1, k2, k3⟩
  dsimp only at k1 k2 k3
  simp (disch := first | omega | (simp only [ZL] <;> omega)) only [Z, Op.callOf, bslE, nilE, mslE, fadE, AV.cells, AV.isBot, AV.one, AV.flat, flatL, ids1, ids2, idsX, AV.lt, ltL, AObj.lt, finE, sevalprocAttr]
  refine condG_p (fun e => ?_) (fun e => ?_)
  · have hm : (i + j) / 2 < objs.length := by omega
    have hc := cmpS_lt objs[(i + j) / 2].name name
    have hb := ha _ hm
    unfold below at hb
    rw [hb] at hc
    simp (disch := first | omega | (simp only [ZL] <;> omega)) only [Z, Op.callOf, bslE, nilE, mslE, fadE, AV.cells, AV.isBot, AV.one, AV.flat, flatL, ids1, ids2, idsX, AV.lt, ltL, AObj.lt, finE, sevalprocAttr, mid_c, Obj.av]
    refine callL_pure (find1_c _ _) (by simp [ltL, AV.lt]) rfl ?_
    simp (disch := first | omega | (simp only [ZL] <;> omega)) only [Z, Op.callOf, bslE, nilE, mslE, fadE, AV.cells, AV.isBot, AV.one, AV.flat, flatL, ids1, ids2, idsX, AV.lt, ltL, AObj.lt, finE, sevalprocAttr, hc]
    refine condG_p (fun e1 => ?_) (fun e1 => ?_)
    · simp (disch := first | omega | (simp only [ZL] <;> omega)) only [Z, Op.callOf, bslE, nilE, mslE, fadE, AV.cells, AV.isBot, AV.one, AV.flat, flatL, ids1, ids2, idsX, AV.lt, ltL, AObj.lt, finE, sevalprocAttr]
      refine finR_of ((i + j) / 2 + 1, j) ⟨by dsimp only; omega, by dsimp only; omega, by dsimp only; omega⟩ (by dsimp only; omega) ?_
      refine less_mk (by simp) (by simp) ?_ ?_ <;> simp (disch := first | omega | (simp only [ZL] <;> omega)) only [Z, Op.callOf, bslE, nilE, mslE, fadE, AV.cells, AV.isBot, AV.one, AV.flat, flatL, ids1, ids2, idsX, AV.lt, ltL, AObj.lt, finE, sevalprocAttr, i64_add1]
    · simp (disch := first | omega | (simp only [ZL] <;> omega)) only [Z, Op.callOf, bslE, nilE, mslE, fadE, AV.cells, AV.isBot, AV.one, AV.flat, flatL, ids1, ids2, idsX, AV.lt, ltL, AObj.lt, finE, sevalprocAttr]
      refine finR_of (i, (i + j) / 2) ⟨by dsimp only; omega, by dsimp only; omega, by dsimp only; omega⟩ (by dsimp only; omega) ?_
      refine less_mk (by simp) (by simp) ?_ ?_ <;> simp (disch := first | omega | (simp only [ZL] <;> omega)) only [Z, Op.callOf, bslE, nilE, mslE, fadE, AV.cells, AV.isBot, AV.one, AV.flat, flatL, ids1, ids2, idsX, AV.lt, ltL, AObj.lt, finE, sevalprocAttr]
  · have : i = j := by omega
    subst this
    have : i = lo := by omega
    subst this
    by_cases e1 : (i : Int) < objs.length
    · have hl : i < objs.length := by omega
      have hq := cmpS_eq objs[i].name name
      simp (disch := first | omega | (simp only [ZL] <;> omega)) only [Z, Op.callOf, bslE, nilE, mslE, fadE, AV.cells, AV.isBot, AV.one, AV.flat, flatL, ids1, ids2, idsX, AV.lt, ltL, AObj.lt, finE, sevalprocAttr, e1, Obj.av]
      refine callL_pure (find1_c _ _) (by simp [ltL, AV.lt]) rfl ?_
      simp (disch := first | omega | (simp only [ZL] <;> omega)) only [Z, Op.callOf, bslE, nilE, mslE, fadE, AV.cells, AV.isBot, AV.one, AV.flat, flatL, ids1, ids2, idsX, AV.lt, ltL, AObj.lt, finE, sevalprocAttr, hq]
      refine sub_tup (.cons (Sub.rfl' _) (.cons (sub_eq (congrArg AV.bool ?_)) .nil))
      simp [hl]
    · have hl : i = objs.length := by omega
      simp (disch := first | omega | (simp only [ZL] <;> omega)) only [Z, Op.callOf, bslE, nilE, mslE, fadE, AV.cells, AV.isBot, AV.one, AV.flat, flatL, ids1, ids2, idsX, AV.lt, ltL, AObj.lt, finE, sevalprocAttr, e1]
      refine sub_tup (.cons (Sub.rfl' _) (.cons (sub_eq (congrArg AV.bool ?_)) .nil))
      rw [hl]; simp

theorem bl_irr : ∀ a : List UInt8, Op.bytesLess a a = false
  | [] => rfl
  | x :: a => by simp [Op.bytesLess, bl_irr a]
theorem bl_trans : ∀ {a b c : List UInt8}, Op.bytesLess a b = true → Op.bytesLess b c = true → Op.bytesLess a c = true
  | _, [], _, h, _ => by simp [Op.bytesLess] at h
  | _, _ :: _, [], _, h => by simp [Op.bytesLess] at h
  | [], _ :: _, _ :: _, _, _ => rfl
  | x :: a, y :: b, z :: c, h1, h2 => by
    simp only [Op.bytesLess, Bool.or_eq_true, decide_eq_true_eq, Bool.and_eq_true, beq_iff_eq] at *
    rcases h1 with h1 | ⟨rfl, h1⟩
    · rcases h2 with h2 | ⟨rfl, h2⟩
      · exact .inl (by rw [UInt8.lt_iff_toNat_lt] at *; omega)
      · exact .inl h1
    · rcases h2 with h2 | ⟨rfl, h2⟩
      · exact .inl h2
      · exact .inr ⟨rfl, bl_trans h1 h2⟩
def Sorted (objs : List Obj) : Prop := objs.Pairwise fun x y => Op.bytesLess x.name y.name = true
theorem chk_sorted : ∀ (objs : List Obj) (p : Option Obj), chkS p objs = 0 → Sorted objs ∧ (∀ y, p = some y → ∀ o ∈ objs, Op.bytesLess y.name o.name = true) ∧
    ∀ o ∈ objs, namedS o.name = true ∧ o.data.length ≤ 65536 ∧ o.was.length ≤ 65536 ∧ (o.had = false → o.was = [])
  | [], p, _ => ⟨List.Pairwise.nil, fun _ _ _ h => by simp at h, fun _ h => by simp at h⟩
  | x :: r, p, h => by
    rw [chkS] at h
    split at h
    · cases h
    rename_i h1
    split at h
    · cases h
    rename_i h2
    split at h
    · cases h
    rename_i h3
    split at h
    · cases h
    rename_i h4
    split at h
    · cases h
    rename_i h5
    obtain ⟨a, b, c⟩ := chk_sorted r (some x) h
    have hx : ∀ y, p = some y → Op.bytesLess y.name x.name = true := by
      rintro y rfl
      simp only [Option.any_some, decide_eq_true_eq, Bool.not_eq_true] at h2 h3
      have := bl_gt x.name y.name
      rw [h3, Bool.false_or, decide_eq_false (fun e => h2 e.symm)] at this
      exact this.symm
    refine ⟨List.Pairwise.cons (b x rfl) a, fun y hy o ho => ?_, fun o ho => ?_⟩
    · rcases List.mem_cons.1 ho with rfl | ho
      · exact hx y hy
      · exact bl_trans (hx y hy) (b x rfl o ho)
    · rcases List.mem_cons.1 ho with rfl | ho
      · refine ⟨by simpa using h1, by omega, by omega, fun e => ?_⟩
        simp only [e, true_and, ne_eq, Decidable.not_not] at h5
        exact h5
      · exact c o ho
theorem lower_at (name : List UInt8) : ∀ (objs : List Obj), Sorted objs → ∀ i (h : i < objs.length), below name objs[i] = decide (i < (objs.takeWhile (below name)).length)
  | x :: r, hs, i, h => by
    obtain ⟨hx, hr⟩ := List.pairwise_cons.1 hs
    rw [List.takeWhile_cons]
    cases hb : below name x with
    | true =>
      cases i with
      | zero => simp [hb]
      | succ i => simp only [if_true, List.length_cons, List.getElem_cons_succ, Nat.add_lt_add_iff_right]; exact lower_at name r hr i (by simpa using h)
    | false =>
      simp only [Bool.false_eq_true, if_false, List.length_nil, Nat.not_lt_zero, decide_false]
      cases i with
      | zero => exact hb
      | succ i =>
        simp only [List.getElem_cons_succ]
        have hm : r[i]'(by simpa using h) ∈ r := List.getElem_mem _
        cases hq : below name (r[i]'(by simpa using h)) with
        | false => rfl
        | true => rw [show below name x = true from bl_trans (hx _ hm) hq] at hb; cases hb
theorem find_lower (name : List UInt8) : ∀ (objs : List Obj), Sorted objs → findS objs name = (objs[(objs.takeWhile (below name)).length]?).filter (fun o => decide (o.name = name))
  | [], _ => rfl
  | x :: r, hs => by
    obtain ⟨hx, hr⟩ := List.pairwise_cons.1 hs
    rw [findS, List.find?_cons, List.takeWhile_cons]
    by_cases e : x.name = name
    · have hb : below name x = false := by rw [below, e]; exact bl_irr _
      simp [e, hb, Option.filter]
    · simp only [e, decide_false]
      cases hb : below name x with
      | true => simpa [findS] using find_lower name r hr
      | false =>
        simp only [Bool.false_eq_true, if_false, List.length_nil, List.getElem?_cons_zero, Option.filter_some, e, decide_false]
        refine List.find?_eq_none.2 fun o ho hq => ?_
        have : o.name = name := by simpa using hq
        have h2 := hx o ho
        rw [this] at h2
        rw [below, h2] at hb
        cases hb
theorem get36_c (s : Shelf) (name : List UInt8) (h1 : s.objs.length < 2^40) (h2 : s.fates.length < 2^40) : APure Tryz.prog 86 [.agg s.av, .str name]
    (.tup [.agg (getS s name).1.av, .str (getS s name).2.1, .int .i64 (getS s name).2.2]) := by
  refine apure_fin mixed [] 400 Tryz.func86 Tryz.ntmps86 Tryz.results86 rfl rfl (by simp) rfl ?_
  simp (disch := first | omega | (simp only [ZL] <;> omega)) only [Z, Op.callOf, bslE, nilE, mslE, fadE, AV.cells, AV.isBot, AV.one, AV.flat, flatL, ids1, ids2, idsX, AV.lt, ltL, AObj.lt, finE, sevalprocAttr, Shelf.av]
  refine callL_pure (check36_c s h1) (by simp [ltL, AV.lt]) rfl ?_
  by_cases c1 : ¬ chkS none s.objs = 0
  · simp (disch := first | omega | (simp only [ZL] <;> omega)) only [Z, Op.callOf, bslE, nilE, mslE, fadE, AV.cells, AV.isBot, AV.one, AV.flat, flatL, ids1, ids2, idsX, AV.lt, ltL, AObj.lt, finE, sevalprocAttr, c1]
    simp only [getS, c1, ne_eq, not_false_eq_true, if_true, Shelf.av]
    repeat' first | exact Sub.rfl' _ | exact sub_nils _ | exact SubL.nil | refine sub_tup ?_ | refine sub_agg ?_ | refine SubL.cons ?_ ?_
  have c1 : chkS none s.objs = 0 := by simpa using c1
  simp (disch := first | omega | (simp only [ZL] <;> omega)) only [Z, Op.callOf, bslE, nilE, mslE, fadE, AV.cells, AV.isBot, AV.one, AV.flat, flatL, ids1, ids2, idsX, AV.lt, ltL, AObj.lt, finE, sevalprocAttr, c1]
  refine callL_pure (name36_c name) (by simp [ltL, AV.lt]) rfl ?_
  cases c2 : namedS name
  · simp (disch := first | omega | (simp only [ZL] <;> omega)) only [Z, Op.callOf, bslE, nilE, mslE, fadE, AV.cells, AV.isBot, AV.one, AV.flat, flatL, ids1, ids2, idsX, AV.lt, ltL, AObj.lt, finE, sevalprocAttr]
    simp only [getS, c1, ne_eq, not_true_eq_false, if_false, c2, if_true, Shelf.av]
    repeat' first | exact Sub.rfl' _ | exact sub_nils _ | exact SubL.nil | refine sub_tup ?_ | refine sub_agg ?_ | refine SubL.cons ?_ ?_
  simp (disch := first | omega | (simp only [ZL] <;> omega)) only [Z, Op.callOf, bslE, nilE, mslE, fadE, AV.cells, AV.isBot, AV.one, AV.flat, flatL, ids1, ids2, idsX, AV.lt, ltL, AObj.lt, finE, sevalprocAttr]
  refine callL_pure (fate_c s h1 h2) (by simp [ltL, AV.lt]) rfl ?_
  have hf := fateS_objs s
  obtain ⟨⟨s', f⟩, hp⟩ : ∃ p, fateS s = p := ⟨_, rfl⟩
  rw [hp] at hf ⊢
  dsimp only at hf ⊢
  simp (disch := first | omega | (simp only [ZL] <;> omega)) only [Z, Op.callOf, bslE, nilE, mslE, fadE, AV.cells, AV.isBot, AV.one, AV.flat, flatL, ids1, ids2, idsX, AV.lt, ltL, AObj.lt, finE, sevalprocAttr, Shelf.av]
  refine callL_pure (find36_c s' name (by rw [hf]; exact h1)) (by simp [ltL, AV.lt]) rfl ?_
  rw [hf]
  obtain ⟨_, _, hgood⟩ := chk_sorted _ _ c1
  cases hx : findS s.objs name with
  | none =>
    by_cases f4 : f = 4
    · subst f4
      simp (disch := first | omega | (simp only [ZL] <;> omega)) only [Z, Op.callOf, bslE, nilE, mslE, fadE, AV.cells, AV.isBot, AV.one, AV.flat, flatL, ids1, ids2, idsX, AV.lt, ltL, AObj.lt, finE, sevalprocAttr, Option.getD_none, Option.isSome_none, Obj.z, Obj.av]
      simp only [getS, c1, ne_eq, not_true_eq_false, if_false, c2, Bool.true_eq_false, hp, if_true, Shelf.av, hf]
      repeat' first | exact Sub.rfl' _ | exact sub_nils _ | exact SubL.nil | refine sub_tup ?_ | refine sub_agg ?_ | refine SubL.cons ?_ ?_
    · simp (disch := first | omega | (simp only [ZL] <;> omega)) only [Z, Op.callOf, bslE, nilE, mslE, fadE, AV.cells, AV.isBot, AV.one, AV.flat, flatL, ids1, ids2, idsX, AV.lt, ltL, AObj.lt, finE, sevalprocAttr, Option.getD_none, Option.isSome_none, Obj.z, Obj.av, f4]
      simp only [getS, c1, ne_eq, not_true_eq_false, if_false, c2, Bool.true_eq_false, hp, f4, hx, Shelf.av, hf]
      repeat' first | exact Sub.rfl' _ | exact sub_nils _ | exact SubL.nil | refine sub_tup ?_ | refine sub_agg ?_ | refine SubL.cons ?_ ?_
  | some x =>
    have hd : x.data.length < 2^40 := by have := (hgood x (List.mem_of_find?_eq_some hx)).2.1; omega
    by_cases f4 : f = 4
    · subst f4
      simp (disch := first | omega | (simp only [ZL] <;> omega)) only [Z, Op.callOf, bslE, nilE, mslE, fadE, AV.cells, AV.isBot, AV.one, AV.flat, flatL, ids1, ids2, idsX, AV.lt, ltL, AObj.lt, finE, sevalprocAttr, Option.getD_some, Option.isSome_some, Obj.av]
      simp only [getS, c1, ne_eq, not_true_eq_false, if_false, c2, Bool.true_eq_false, hp, if_true, Shelf.av, hf]
      repeat' first | exact Sub.rfl' _ | exact sub_nils _ | exact SubL.nil | refine sub_tup ?_ | refine sub_agg ?_ | refine SubL.cons ?_ ?_
    by_cases f1 : f = 1
    · subst f1
      simp (disch := first | omega | (simp only [ZL] <;> omega)) only [Z, Op.callOf, bslE, nilE, mslE, fadE, AV.cells, AV.isBot, AV.one, AV.flat, flatL, ids1, ids2, idsX, AV.lt, ltL, AObj.lt, finE, sevalprocAttr, Option.getD_some, Option.isSome_some, Obj.av]
      simp only [getS, c1, ne_eq, not_true_eq_false, if_false, c2, Bool.true_eq_false, hp, if_true, f4, hx, Shelf.av, hf]
      repeat' first | exact Sub.rfl' _ | exact sub_nils _ | exact SubL.nil | refine sub_tup ?_ | refine sub_agg ?_ | refine SubL.cons ?_ ?_
    by_cases f3 : f = 3
    · subst f3
      cases hh : x.had
      · simp (disch := first | omega | (simp only [ZL] <;> omega)) only [Z, Op.callOf, bslE, nilE, mslE, fadE, AV.cells, AV.isBot, AV.one, AV.flat, flatL, ids1, ids2, idsX, AV.lt, ltL, AObj.lt, finE, sevalprocAttr, Option.getD_some, Option.isSome_some, Obj.av, hh]
        simp only [getS, c1, ne_eq, not_true_eq_false, if_false, c2, Bool.true_eq_false, hp, if_true, f4, f1, hx, hh, Shelf.av, Bool.false_eq_true, hf]
        repeat' first | exact Sub.rfl' _ | exact sub_nils _ | exact SubL.nil | refine sub_tup ?_ | refine sub_agg ?_ | refine SubL.cons ?_ ?_
      · simp (disch := first | omega | (simp only [ZL] <;> omega)) only [Z, Op.callOf, bslE, nilE, mslE, fadE, AV.cells, AV.isBot, AV.one, AV.flat, flatL, ids1, ids2, idsX, AV.lt, ltL, AObj.lt, finE, sevalprocAttr, Option.getD_some, Option.isSome_some, Obj.av, hh]
        refine okK_of (by kernel_rfl) ?_
        simp (disch := first | omega | (simp only [ZL] <;> omega)) only [Z, Op.callOf, bslE, nilE, mslE, fadE, AV.cells, AV.isBot, AV.one, AV.flat, flatL, ids1, ids2, idsX, AV.lt, ltL, AObj.lt, finE, sevalprocAttr]
        simp only [getS, c1, ne_eq, not_true_eq_false, if_false, c2, Bool.true_eq_false, hp, if_true, f4, f1, hx, hh, Shelf.av, hf]
        repeat' first | exact Sub.rfl' _ | exact sub_nils _ | exact SubL.nil | refine sub_tup ?_ | refine sub_agg ?_ | refine SubL.cons ?_ ?_
    by_cases f2 : f = 2
    · subst f2
      simp (disch := first | omega | (simp only [ZL] <;> omega)) only [Z, Op.callOf, bslE, nilE, mslE, fadE, AV.cells, AV.isBot, AV.one, AV.flat, flatL, ids1, ids2, idsX, AV.lt, ltL, AObj.lt, finE, sevalprocAttr, Option.getD_some, Option.isSome_some, Obj.av]
      refine callD_pure (flip36_c _ hd) (by simp [ltL, AV.lt]) ?_
      simp (disch := first | omega | (simp only [ZL] <;> omega)) only [Z, Op.callOf, bslE, nilE, mslE, fadE, AV.cells, AV.isBot, AV.one, AV.flat, flatL, ids1, ids2, idsX, AV.lt, ltL, AObj.lt, finE, sevalprocAttr]
      refine okK_of (by kernel_rfl) ?_
      simp (disch := first | omega | (simp only [ZL] <;> omega)) only [Z, Op.callOf, bslE, nilE, mslE, fadE, AV.cells, AV.isBot, AV.one, AV.flat, flatL, ids1, ids2, idsX, AV.lt, ltL, AObj.lt, finE, sevalprocAttr]
      simp only [getS, c1, ne_eq, not_true_eq_false, if_false, c2, Bool.true_eq_false, hp, if_true, f4, f1, f3, hx, Shelf.av, hf]
      repeat' first | exact Sub.rfl' _ | exact sub_nils _ | exact SubL.nil | refine sub_tup ?_ | refine sub_agg ?_ | refine SubL.cons ?_ ?_
    · simp (disch := first | omega | (simp only [ZL] <;> omega)) only [Z, Op.callOf, bslE, nilE, mslE, fadE, AV.cells, AV.isBot, AV.one, AV.flat, flatL, ids1, ids2, idsX, AV.lt, ltL, AObj.lt, finE, sevalprocAttr, Option.getD_some, Option.isSome_some, Obj.av, f1, f2, f3, f4]
      refine okK_of (by kernel_rfl) ?_
      simp (disch := first | omega | (simp only [ZL] <;> omega)) only [Z, Op.callOf, bslE, nilE, mslE, fadE, AV.cells, AV.isBot, AV.one, AV.flat, flatL, ids1, ids2, idsX, AV.lt, ltL, AObj.lt, finE, sevalprocAttr]
      simp only [getS, c1, ne_eq, not_true_eq_false, if_false, c2, Bool.true_eq_false, hp, if_true, f4, f1, f3, f2, hx, Shelf.av, hf]
      repeat' first | exact Sub.rfl' _ | exact sub_nils _ | exact SubL.nil | refine sub_tup ?_ | refine sub_agg ?_ | refine SubL.cons ?_ ?_

theorem find_c (s : Shelf) (name : List UInt8) (h1 : s.objs.length < 2^40) (hs : Sorted s.objs) : APure Tryz.prog 84 [.agg s.av, .str name]
    (.tup [.int .i64 ((s.objs.takeWhile (below name)).length : Nat), .bool (findS s.objs name).isSome]) := by
  refine apure_fin mixed [] 400 Tryz.func84 Tryz.ntmps84 Tryz.results84 rfl rfl (by simp) rfl ?_
  simp (disch := first | omega | (simp only [ZL] <;> omega)) only [Z, Op.callOf, bslE, nilE, mslE, fadE, AV.cells, AV.isBot, AV.one, AV.flat, flatL, ids1, ids2, idsX, AV.lt, ltL, AObj.lt, finE, sevalprocAttr, Shelf.av]
  have hle : (s.objs.takeWhile (below name)).length ≤ s.objs.length := List.Sublist.length_le (List.takeWhile_sublist _)
  refine callL_pure (bsearch_c s.objs name h1 _ hle (lower_at name _ hs)) (by simp [ltL, AV.lt]) rfl ?_
  simp (disch := first | omega | (simp only [ZL] <;> omega)) only [Z, Op.callOf, bslE, nilE, mslE, fadE, AV.cells, AV.isBot, AV.one, AV.flat, flatL, ids1, ids2, idsX, AV.lt, ltL, AObj.lt, finE, sevalprocAttr]
  rw [find_lower name _ hs]
  refine sub_tup (.cons (Sub.rfl' _) (.cons (sub_eq (congrArg AV.bool ?_)) .nil))
  cases s.objs[(s.objs.takeWhile (below name)).length]? with
  | none => simp
  | some x => by_cases e : x.name = name <;> simp [e, Option.filter]
end Go.Ab
namespace Go.Ab
open Go Go.Proofs
variable [Glob] [LibC]
set_option maxHeartbeats 400000

theorem next_fate (s : Shelf) : (fateS s).1 = (nextFate s).1 ∧ (nextFate s).1.objs = s.objs ∧ (nextFate s).1.fates.length ≤ s.fates.length ∧
    (fateS s).2 = (if (nextFate s).2 < 0 ∨ 4 < (nextFate s).2 then 0 else (nextFate s).2) := by
  obtain ⟨objs, fates⟩ := s
  cases fates with
  | nil => simp [fateS, nextFate]
  | cons f r => exact ⟨rfl, rfl, by simp [nextFate], rfl⟩
theorem get_c (s : Shelf) (name : List UInt8) (h1 : s.objs.length < 2^40) (h2 : s.fates.length < 2^40) : APure Tryz.prog 46 [.agg s.av, .str name]
    (.tup [.agg (getS s name).1.av, .str (getS s name).2.1, .int .i64 (getS s name).2.2]) := by
  refine apure_fin mixed [] 400 Tryz.func46 Tryz.ntmps46 Tryz.results46 rfl rfl (by simp) rfl ?_
  simp (disch := first | omega | (simp only [ZL] <;> omega)) only [Z, Op.callOf, bslE, nilE, mslE, fadE, AV.cells, AV.isBot, AV.one, AV.flat, flatL, ids1, ids2, idsX, AV.lt, ltL, AObj.lt, finE, sevalprocAttr, Shelf.av]
  refine callL_pure (check_c s h1) (by simp [ltL, AV.lt]) rfl ?_
  by_cases c1 : ¬ chkS none s.objs = 0
  · simp (disch := first | omega | (simp only [ZL] <;> omega)) only [Z, Op.callOf, bslE, nilE, mslE, fadE, AV.cells, AV.isBot, AV.one, AV.flat, flatL, ids1, ids2, idsX, AV.lt, ltL, AObj.lt, finE, sevalprocAttr, c1, Shelf.av]
    refine callL_pure (same_c s h1 h2) (by simp [ltL, AV.lt]) rfl ?_
    simp (disch := first | omega | (simp only [ZL] <;> omega)) only [Z, Op.callOf, bslE, nilE, mslE, fadE, AV.cells, AV.isBot, AV.one, AV.flat, flatL, ids1, ids2, idsX, AV.lt, ltL, AObj.lt, finE, sevalprocAttr, Shelf.av]
    simp only [getS, c1, ne_eq, not_false_eq_true, if_true, Shelf.av]
    repeat' first | exact Sub.rfl' _ | exact sub_nils _ | exact SubL.nil | refine sub_tup ?_ | refine sub_agg ?_ | refine SubL.cons ?_ ?_
  have c1 : chkS none s.objs = 0 := by simpa using c1
  simp (disch := first | omega | (simp only [ZL] <;> omega)) only [Z, Op.callOf, bslE, nilE, mslE, fadE, AV.cells, AV.isBot, AV.one, AV.flat, flatL, ids1, ids2, idsX, AV.lt, ltL, AObj.lt, finE, sevalprocAttr, c1]
  refine callL_pure (named_c name) (by simp [ltL, AV.lt]) rfl ?_
  cases c2 : namedS name
  · simp (disch := first | omega | (simp only [ZL] <;> omega)) only [Z, Op.callOf, bslE, nilE, mslE, fadE, AV.cells, AV.isBot, AV.one, AV.flat, flatL, ids1, ids2, idsX, AV.lt, ltL, AObj.lt, finE, sevalprocAttr, Shelf.av]
    refine callL_pure (same_c s h1 h2) (by simp [ltL, AV.lt]) rfl ?_
    simp (disch := first | omega | (simp only [ZL] <;> omega)) only [Z, Op.callOf, bslE, nilE, mslE, fadE, AV.cells, AV.isBot, AV.one, AV.flat, flatL, ids1, ids2, idsX, AV.lt, ltL, AObj.lt, finE, sevalprocAttr, Shelf.av]
    simp only [getS, c1, ne_eq, not_true_eq_false, if_false, c2, if_true, Shelf.av]
    repeat' first | exact Sub.rfl' _ | exact sub_nils _ | exact SubL.nil | refine sub_tup ?_ | refine sub_agg ?_ | refine SubL.cons ?_ ?_
  simp (disch := first | omega | (simp only [ZL] <;> omega)) only [Z, Op.callOf, bslE, nilE, mslE, fadE, AV.cells, AV.isBot, AV.one, AV.flat, flatL, ids1, ids2, idsX, AV.lt, ltL, AObj.lt, finE, sevalprocAttr, Shelf.av]
  refine callL_pure (next_c s h1 h2) (by simp [ltL, AV.lt]) rfl ?_
  obtain ⟨n1, n2, n3, n4⟩ := next_fate s
  obtain ⟨⟨s', f⟩, hp⟩ : ∃ p, nextFate s = p := ⟨_, rfl⟩
  rw [hp] at n1 n2 n3 n4 ⊢
  dsimp only at n1 n2 n3 n4 ⊢
  obtain ⟨srt, _, hgood⟩ := chk_sorted _ _ c1
  simp (disch := first | omega | (simp only [ZL] <;> omega)) only [Z, Op.callOf, bslE, nilE, mslE, fadE, AV.cells, AV.isBot, AV.one, AV.flat, flatL, ids1, ids2, idsX, AV.lt, ltL, AObj.lt, finE, sevalprocAttr, Shelf.av]
  refine callL_pure (find_c s' name (by rw [n2]; exact h1) (by rw [n2]; exact srt)) (by simp [ltL, AV.lt]) rfl ?_
  rw [n2]
  have hfl := find_lower name s.objs srt
  by_cases f4 : f = 4
  · subst f4
    have hk : (fateS s).2 = 4 := by rw [n4]; rfl
    simp (disch := first | omega | (simp only [ZL] <;> omega)) only [Z, Op.callOf, bslE, nilE, mslE, fadE, AV.cells, AV.isBot, AV.one, AV.flat, flatL, ids1, ids2, idsX, AV.lt, ltL, AObj.lt, finE, sevalprocAttr]
    simp only [getS, c1, ne_eq, not_true_eq_false, if_false, c2, Bool.true_eq_false, n1, hk, if_true, Shelf.av, n2]
    repeat' first | exact Sub.rfl' _ | exact sub_nils _ | exact SubL.nil | refine sub_tup ?_ | refine sub_agg ?_ | refine SubL.cons ?_ ?_
  by_cases f1 : f = 1
  · subst f1
    have hk : (fateS s).2 = 1 := by rw [n4]; rfl
    simp (disch := first | omega | (simp only [ZL] <;> omega)) only [Z, Op.callOf, bslE, nilE, mslE, fadE, AV.cells, AV.isBot, AV.one, AV.flat, flatL, ids1, ids2, idsX, AV.lt, ltL, AObj.lt, finE, sevalprocAttr]
    cases hx : findS s.objs name with
    | none => 
      simp only [getS, c1, ne_eq, not_true_eq_false, if_false, c2, Bool.true_eq_false, n1, hk, f4, if_true, Shelf.av, n2, hx]
      repeat' first | exact Sub.rfl' _ | exact sub_nils _ | exact SubL.nil | refine sub_tup ?_ | refine sub_agg ?_ | refine SubL.cons ?_ ?_
    | some x =>
      simp only [getS, c1, ne_eq, not_true_eq_false, if_false, c2, Bool.true_eq_false, n1, hk, f4, if_true, Shelf.av, n2, hx]
      repeat' first | exact Sub.rfl' _ | exact sub_nils _ | exact SubL.nil | refine sub_tup ?_ | refine sub_agg ?_ | refine SubL.cons ?_ ?_
  have hk4 : ¬ (fateS s).2 = 4 := by rw [n4]; split <;> omega
  have hk1 : ¬ (fateS s).2 = 1 := by rw [n4]; split <;> omega
  cases hx : findS s.objs name with
  | none =>
    simp (disch := first | omega | (simp only [ZL] <;> omega)) only [Z, Op.callOf, bslE, nilE, mslE, fadE, AV.cells, AV.isBot, AV.one, AV.flat, flatL, ids1, ids2, idsX, AV.lt, ltL, AObj.lt, finE, sevalprocAttr, f4, f1, Option.isSome_none]
    simp only [getS, c1, ne_eq, not_true_eq_false, if_false, c2, Bool.true_eq_false, n1, hk4, hk1, Shelf.av, n2, hx]
    repeat' first | exact Sub.rfl' _ | exact sub_nils _ | exact SubL.nil | refine sub_tup ?_ | refine sub_agg ?_ | refine SubL.cons ?_ ?_
  | some x =>
    obtain ⟨lo, hlo⟩ : ∃ lo, (s.objs.takeWhile (below name)).length = lo := ⟨_, rfl⟩
    rw [hlo] at hfl ⊢
    rw [hx] at hfl
    have hl : lo < s.objs.length := by
      rcases Nat.lt_or_ge lo s.objs.length with h | h
      · exact h
      · rw [List.getElem?_eq_none h] at hfl; cases hfl
    have he : s.objs[lo] = x := by
      rw [List.getElem?_eq_getElem hl, Option.filter] at hfl
      split at hfl
      · exact (Option.some.inj hfl).symm
      · cases hfl
    have hd : x.data.length < 2^40 := by have := (hgood x (List.mem_of_find?_eq_some hx)).2.1; omega
    by_cases f3 : f = 3
    · subst f3
      have hk : (fateS s).2 = 3 := by rw [n4]; rfl
      cases hh : x.had
      · simp (disch := first | omega | (simp only [ZL] <;> omega)) only [Z, Op.callOf, bslE, nilE, mslE, fadE, AV.cells, AV.isBot, AV.one, AV.flat, flatL, ids1, ids2, idsX, AV.lt, ltL, AObj.lt, finE, sevalprocAttr, Option.isSome_some, he, Obj.av, hh]
        simp only [getS, c1, ne_eq, not_true_eq_false, if_false, c2, Bool.true_eq_false, n1, hk, f4, f1, if_true, Shelf.av, n2, hx, hh, Bool.false_eq_true]
        repeat' first | exact Sub.rfl' _ | exact sub_nils _ | exact SubL.nil | refine sub_tup ?_ | refine sub_agg ?_ | refine SubL.cons ?_ ?_
      · simp (disch := first | omega | (simp only [ZL] <;> omega)) only [Z, Op.callOf, bslE, nilE, mslE, fadE, AV.cells, AV.isBot, AV.one, AV.flat, flatL, ids1, ids2, idsX, AV.lt, ltL, AObj.lt, finE, sevalprocAttr, Option.isSome_some, he, Obj.av, hh]
        refine okK_of (by kernel_rfl) ?_
        simp (disch := first | omega | (simp only [ZL] <;> omega)) only [Z, Op.callOf, bslE, nilE, mslE, fadE, AV.cells, AV.isBot, AV.one, AV.flat, flatL, ids1, ids2, idsX, AV.lt, ltL, AObj.lt, finE, sevalprocAttr]
        simp only [getS, c1, ne_eq, not_true_eq_false, if_false, c2, Bool.true_eq_false, n1, hk, f4, f1, if_true, Shelf.av, n2, hx, hh]
        repeat' first | exact Sub.rfl' _ | exact sub_nils _ | exact SubL.nil | refine sub_tup ?_ | refine sub_agg ?_ | refine SubL.cons ?_ ?_
    have hk3 : ¬ (fateS s).2 = 3 := by rw [n4]; split <;> omega
    by_cases f2 : f = 2
    · subst f2
      have hk : (fateS s).2 = 2 := by rw [n4]; rfl
      simp (disch := first | omega | (simp only [ZL] <;> omega)) only [Z, Op.callOf, bslE, nilE, mslE, fadE, AV.cells, AV.isBot, AV.one, AV.flat, flatL, ids1, ids2, idsX, AV.lt, ltL, AObj.lt, finE, sevalprocAttr, Option.isSome_some, he, Obj.av]
      refine callD_pure (flip_c _ hd) (by simp [ltL, AV.lt]) ?_
      simp (disch := first | omega | (simp only [ZL] <;> omega)) only [Z, Op.callOf, bslE, nilE, mslE, fadE, AV.cells, AV.isBot, AV.one, AV.flat, flatL, ids1, ids2, idsX, AV.lt, ltL, AObj.lt, finE, sevalprocAttr]
      refine okK_of (by kernel_rfl) ?_
      simp (disch := first | omega | (simp only [ZL] <;> omega)) only [Z, Op.callOf, bslE, nilE, mslE, fadE, AV.cells, AV.isBot, AV.one, AV.flat, flatL, ids1, ids2, idsX, AV.lt, ltL, AObj.lt, finE, sevalprocAttr]
      simp only [getS, c1, ne_eq, not_true_eq_false, if_false, c2, Bool.true_eq_false, n1, hk, f4, f1, f3, if_true, Shelf.av, n2, hx]
      repeat' first | exact Sub.rfl' _ | exact sub_nils _ | exact SubL.nil | refine sub_tup ?_ | refine sub_agg ?_ | refine SubL.cons ?_ ?_
    · have hk2 : ¬ (fateS s).2 = 2 := by rw [n4]; split <;> omega
      simp (disch := first | omega | (simp only [ZL] <;> omega)) only [Z, Op.callOf, bslE, nilE, mslE, fadE, AV.cells, AV.isBot, AV.one, AV.flat, flatL, ids1, ids2, idsX, AV.lt, ltL, AObj.lt, finE, sevalprocAttr, Option.isSome_some, he, Obj.av, f1, f2, f3, f4]
      refine okK_of (by kernel_rfl) ?_
      simp (disch := first | omega | (simp only [ZL] <;> omega)) only [Z, Op.callOf, bslE, nilE, mslE, fadE, AV.cells, AV.isBot, AV.one, AV.flat, flatL, ids1, ids2, idsX, AV.lt, ltL, AObj.lt, finE, sevalprocAttr]
      simp only [getS, c1, ne_eq, not_true_eq_false, if_false, c2, Bool.true_eq_false, n1, hk4, hk1, hk3, hk2, Shelf.av, n2, hx]
      repeat' first | exact Sub.rfl' _ | exact sub_nils _ | exact SubL.nil | refine sub_tup ?_ | refine sub_agg ?_ | refine SubL.cons ?_ ?_

end Go.Ab
namespace Go.Ab
open Go Go.Proofs
/-! ### stores -/
structure Store where
  s0 : Shelf
  s1 : Shelf
  s2 : Shelf
  s3 : Shelf
  s4 : Shelf
  left : Int
def Store.av (s : Store) : List AV := s.s0.av ++ (s.s1.av ++ (s.s2.av ++ (s.s3.av ++ (s.s4.av ++ [.int .i64 s.left]))))
def Store.get (s : Store) : Nat → Shelf
  | 0 => s.s0
  | 1 => s.s1
  | 2 => s.s2
  | 3 => s.s3
  | _ => s.s4
def Store.set (s : Store) (k : Nat) (x : Shelf) : Store :=
  match k with
  | 0 => { s with s0 := x }
  | 1 => { s with s1 := x }
  | 2 => { s with s2 := x }
  | 3 => { s with s3 := x }
  | _ => { s with s4 := x }
theorem shelf_len (s : Shelf) : s.av.length = 2 := Eq.trans rfl rfl
theorem shelf_one (s : Shelf) : s.av.all AV.one = true := rfl
theorem shelf_flat (s : Shelf) : flatL s.av = true := rfl
theorem shelf_lt (s : Shelf) (n : Nat) : ltL n s.av = True := by simp [Shelf.av, ltL, AV.lt]
theorem store_len (s : Store) : s.av.length = 11 := Eq.trans rfl rfl
theorem store_one (s : Store) : s.av.all AV.one = true := rfl
theorem store_flat (s : Store) : flatL s.av = true := rfl
theorem store_lt (s : Store) (n : Nat) : ltL n s.av = True := by simp [Store.av, Shelf.av, ltL, AV.lt]
theorem store_left (s : Store) : (s.av.drop 10).take 1 = [.int .i64 s.left] := rfl
theorem store_setl (s : Store) (n : Int) : s.av.set 10 (.int .i64 n) = ({ s with left := n } : Store).av := rfl
theorem store_get (s : Store) (k : Nat) (h : k < 5) : (s.av.drop (k * 2)).take 2 = (s.get k).av := by
  match k, h with
  | 0, _ => rfl
  | 1, _ => rfl
  | 2, _ => rfl
  | 3, _ => rfl
  | 4, _ => rfl
theorem store_set (s : Store) (k : Nat) (x : Shelf) (h : k < 5) : setL s.av (k * 2) x.av = (s.set k x).av := by
  match k, h with
  | 0, _ => rfl
  | 1, _ => rfl
  | 2, _ => rfl
  | 3, _ => rfl
  | 4, _ => rfl
theorem shelf_take (s : Shelf) : s.av.take 2 = s.av := rfl
theorem store_take (s : Store) : s.av.take 11 = s.av := rfl
theorem setLc (cs : List AV) (off : Nat) (v : AV) (vs : List AV) : setL cs off (v :: vs) = setL (cs.set off v) (off + 1) vs := rfl
theorem setL_all : ∀ (v cs pre : List AV), cs.length = v.length → setL (pre ++ cs) pre.length v = pre ++ v
  | [], [], pre, _ => by simp [setL]
  | x :: v, c :: cs, pre, h => by
    rw [setLc]
    have e1 : (pre ++ c :: cs).set pre.length x = (pre ++ [x]) ++ cs := by simp
    have e2 : pre.length + 1 = (pre ++ [x]).length := by simp
    rw [e1, e2, setL_all v cs (pre ++ [x]) (by simpa using h)]
    simp
theorem setL_0 (v cs : List AV) (h : cs.length = v.length) : setL cs 0 v = v := by simpa using setL_all v cs [] h
theorem shelf_set0 (s : Shelf) (cs : List AV) (h : cs.length = 2) : setL cs 0 s.av = s.av := setL_0 _ _ h
theorem store_set0 (s : Store) (cs : List AV) (h : cs.length = 11) : setL cs 0 s.av = s.av := setL_0 _ _ h
theorem get_set_ne (s : Store) (i j : Nat) (x : Shelf) (hi : i < 5) (hj : j < 5) (h : i ≠ j) : (s.set i x).get j = s.get j := by
  match i, j, hi, hj with
  | 0, 0, _, _ => exact absurd rfl h
  | 0, 1, _, _ => rfl
  | 0, 2, _, _ => rfl
  | 0, 3, _, _ => rfl
  | 0, 4, _, _ => rfl
  | 1, 0, _, _ => rfl
  | 1, 1, _, _ => exact absurd rfl h
  | 1, 2, _, _ => rfl
  | 1, 3, _, _ => rfl
  | 1, 4, _, _ => rfl
  | 2, 0, _, _ => rfl
  | 2, 1, _, _ => rfl
  | 2, 2, _, _ => exact absurd rfl h
  | 2, 3, _, _ => rfl
  | 2, 4, _, _ => rfl
  | 3, 0, _, _ => rfl
  | 3, 1, _, _ => rfl
  | 3, 2, _, _ => rfl
  | 3, 3, _, _ => exact absurd rfl h
  | 3, 4, _, _ => rfl
  | 4, 0, _, _ => rfl
  | 4, 1, _, _ => rfl
  | 4, 2, _, _ => rfl
  | 4, 3, _, _ => rfl
  | 4, 4, _, _ => exact absurd rfl h

def powS (s : Store) : Store := if 0 < s.left then { s with left := s.left - 1 } else s
theorem powS_get (s : Store) (k : Nat) : (powS s).get k = s.get k := by
  unfold powS; split
  · match k with
    | 0 => rfl
    | 1 => rfl
    | 2 => rfl
    | 3 => rfl
    | _ + 4 => rfl
  · rfl
structure Told where
  data : List UInt8
  err : Int
  gone : Bool
def callF (f : Nat → Shelf → Shelf × List UInt8 × Int) (k : Nat) (s : Store) : Store × Told :=
  if s.left = 0 then (s, ⟨[], 17, true⟩) else ((powS s).set k (f k (s.get k)).1, ⟨(f k (s.get k)).2.1, (f k (s.get k)).2.2, false⟩)
def fiveR (f : Nat → Shelf → Shelf × List UInt8 × Int) : Nat → Nat → Store → List Told → Store × List Told
  | 0, _, s, l => (s, l)
  | n + 1, k, s, l => fiveR f n (k + 1) (callF f k s).1 (l ++ [(callF f k s).2])
def fiveS (f : Nat → Shelf → Shelf × List UInt8 × Int) (s : Store) : Store × List Told := fiveR f 5 0 s []

/-! lists of a width -/
section
variable {α : Type} (f : α → List AV) (m : Nat) (hm : ∀ a, (f a).length = m)
include hm
theorem fm_len : ∀ l : List α, (l.flatMap f).length = l.length * m
  | [] => by simp
  | x :: l => by simp only [List.flatMap_cons, List.length_append, hm, fm_len l, List.length_cons, Nat.add_mul, Nat.one_mul]; omega
theorem fm_get : ∀ (l : List α) (t : List AV) (k : Nat) (h : k < l.length), ((l.flatMap f ++ t).drop (k * m)).take m = f l[k]
  | x :: l, t, 0, _ => by simp [List.flatMap_cons, ← hm x]
  | x :: l, t, k + 1, h => by
    have e : (k + 1) * m = (f x).length + k * m := by rw [hm, Nat.add_mul]; omega
    rw [List.flatMap_cons, List.append_assoc, e, ← List.drop_drop, List.drop_left]
    simpa using fm_get l t k (by simpa using h)
theorem fm_set : ∀ (l : List α) (t : List AV) (k : Nat) (x : α) (h : k < l.length), setL (l.flatMap f ++ t) (k * m) (f x) = (l.set k x).flatMap f ++ t := by
  have key : ∀ (v : List AV) (a b c : List AV), b.length = v.length → setL (a ++ (b ++ c)) a.length v = a ++ (v ++ c) := by
    intro v
    induction v with
    | nil => intro a b c h; have : b = [] := by simpa using h
             subst this; simp [setL]
    | cons y v ih =>
      intro a b c h
      cases b with
      | nil => simp at h
      | cons z b =>
        rw [setLc]
        have e1 : (a ++ (z :: b ++ c)).set a.length y = (a ++ [y]) ++ (b ++ c) := by simp
        have e2 : a.length + 1 = (a ++ [y]).length := by simp
        rw [e1, e2, ih (a ++ [y]) b c (by simpa using h)]
        simp
  intro l t k x h
  have hk := fm_len f m hm (l.take k)
  have e : l = l.take k ++ l[k] :: l.drop (k + 1) := by simp
  have hl : (l.take k).length = k := by simp; omega
  have e3 : (l.take k ++ l[k] :: l.drop (k + 1)).set k x = l.take k ++ x :: l.drop (k + 1) := by
    rw [List.set_append_right _ _ (by omega), hl, Nat.sub_self, List.set_cons_zero]
  generalize hp : l.take k = p at *
  generalize hq : l.drop (k + 1) = q at *
  generalize hz : l[k] = z at *
  rw [e, e3]
  simp only [List.flatMap_append, List.flatMap_cons, List.append_assoc]
  have := key (f x) (p.flatMap f) (f z) (q.flatMap f ++ t) (by rw [hm, hm])
  rw [hk, hl] at this
  exact this
end

def Told.pav (t : Told) : List AV := [.str t.data, .nils, .int .i64 t.err]
def Told.rav (t : Told) : List AV := [.str t.data, .nils, .int .i64 t.err, .bool t.gone]

variable [Glob]
set_option maxHeartbeats 400000

theorem frzM_flat {s : AS} : ∀ {cs : List AV}, flatL cs = true → (frzM frz1 cs).run s = some (cs, [])
  | [], _ => rfl
  | c :: cs, h => by
    rw [flatL, Bool.and_eq_true] at h
    rw [frzM_cons, frz1_flat h.1, frzM_flat h.2]; rfl
theorem frzM_store {s : AS} (x : Store) : (frzM frz1 x.av).run s = some (x.av, []) := frzM_flat (store_flat x)
theorem frzM_shelf {s : AS} (x : Shelf) : (frzM frz1 x.av).run s = some (x.av, []) := frzM_flat (shelf_flat x)
theorem look_c (name : List UInt8) (n : Int) : APure Tryz.prog 36 [.str name, .int .i64 n] (.int .i64 (if namedS name = false then 7 else if 65536 < n then 6 else 0)) := by
  refine apure_fin mixed [] 400 Tryz.func36 Tryz.ntmps36 Tryz.results36 rfl rfl (by simp) rfl ?_
  by_cases e : name = []
  · subst e
    simp (disch := first | omega | (simp only [ZL] <;> omega)) only [Z, Op.callOf, bslE, nilE, mslE, fadE, AV.cells, AV.isBot, AV.one, AV.flat, flatL, ids1, ids2, idsX, AV.lt, ltL, AObj.lt, finE, sevalprocAttr]
    simp [namedS]; repeat' first | exact Sub.rfl' _ | exact sub_nils _ | exact SubL.nil | refine sub_tup ?_ | refine sub_agg ?_ | refine SubL.cons ?_ ?_
  have h0 : 0 < name.length := List.length_pos_iff.2 e
  by_cases e1 : (100 : Int) < name.length
  · simp (disch := first | omega | (simp only [ZL] <;> omega)) only [Z, Op.callOf, bslE, nilE, mslE, fadE, AV.cells, AV.isBot, AV.one, AV.flat, flatL, ids1, ids2, idsX, AV.lt, ltL, AObj.lt, finE, sevalprocAttr, e, e1]
    have : namedS name = false := by simp [namedS]; omega
    rw [this]; repeat' first | exact Sub.rfl' _ | exact sub_nils _ | exact SubL.nil | refine sub_tup ?_ | refine sub_agg ?_ | refine SubL.cons ?_ ?_
  have e2 : namedS name = true := by simp [namedS]; omega
  rw [e2]
  by_cases e3 : 65536 < n
  · simp (disch := first | omega | (simp only [ZL] <;> omega)) only [Z, Op.callOf, bslE, nilE, mslE, fadE, AV.cells, AV.isBot, AV.one, AV.flat, flatL, ids1, ids2, idsX, AV.lt, ltL, AObj.lt, finE, sevalprocAttr, e, e1, e3]; try simp only [e3, if_true, if_false, Bool.true_eq_false]
    repeat' first | exact Sub.rfl' _ | exact sub_nils _ | exact SubL.nil | refine sub_tup ?_ | refine sub_agg ?_ | refine SubL.cons ?_ ?_
  · simp (disch := first | omega | (simp only [ZL] <;> omega)) only [Z, Op.callOf, bslE, nilE, mslE, fadE, AV.cells, AV.isBot, AV.one, AV.flat, flatL, ids1, ids2, idsX, AV.lt, ltL, AObj.lt, finE, sevalprocAttr, e, e1, e3]; try simp only [e3, if_true, if_false, Bool.true_eq_false]
    repeat' first | exact Sub.rfl' _ | exact sub_nils _ | exact SubL.nil | refine sub_tup ?_ | refine sub_agg ?_ | refine SubL.cons ?_ ?_

theorem power_c (s : Store) (hl : -9223372036854775808 ≤ s.left ∧ s.left ≤ 9223372036854775807) : APure Tryz.prog 118 [.agg s.av] (.tup [.agg (if s.left = 0 then s else powS s).av, .bool (!decide (s.left = 0))]) := by
  refine apure_fin mixed [] 400 Tryz.func118 Tryz.ntmps118 Tryz.results118 rfl rfl (by simp) rfl ?_
  by_cases e : s.left = 0
  · simp (disch := first | omega | (simp only [ZL, store_len, shelf_len] <;> omega)) only [Z, Op.callOf, bslE, nilE, mslE, fadE, AV.cells, AV.isBot, AV.one, AV.flat, flatL, ids1, ids2, idsX, AV.lt, ltL, AObj.lt, finE, sevalprocAttr, frzM_store, frzM_shelf, shelf_len, shelf_one, shelf_flat, shelf_lt, shelf_take, shelf_set0, store_len, store_one, store_flat, store_lt, store_left, store_setl, store_get, store_set, store_take, store_set0, e]
    repeat' first | exact Sub.rfl' _ | exact sub_nils _ | exact SubL.nil | refine sub_tup ?_ | refine sub_agg ?_ | refine SubL.cons ?_ ?_
  · by_cases e1 : 0 < s.left
    · simp (disch := first | omega | (simp only [ZL, store_len, shelf_len] <;> omega)) only [Z, Op.callOf, bslE, nilE, mslE, fadE, AV.cells, AV.isBot, AV.one, AV.flat, flatL, ids1, ids2, idsX, AV.lt, ltL, AObj.lt, finE, sevalprocAttr, frzM_store, frzM_shelf, shelf_len, shelf_one, shelf_flat, shelf_lt, shelf_take, shelf_set0, store_len, store_one, store_flat, store_lt, store_left, store_setl, store_get, store_set, store_take, store_set0, e, e1]
      simp only [powS, e1, if_true]
      repeat' first | exact Sub.rfl' _ | exact sub_nils _ | exact SubL.nil | refine sub_tup ?_ | refine sub_agg ?_ | refine SubL.cons ?_ ?_
    · simp (disch := first | omega | (simp only [ZL, store_len, shelf_len] <;> omega)) only [Z, Op.callOf, bslE, nilE, mslE, fadE, AV.cells, AV.isBot, AV.one, AV.flat, flatL, ids1, ids2, idsX, AV.lt, ltL, AObj.lt, finE, sevalprocAttr, frzM_store, frzM_shelf, shelf_len, shelf_one, shelf_flat, shelf_lt, shelf_take, shelf_set0, store_len, store_one, store_flat, store_lt, store_left, store_setl, store_get, store_set, store_take, store_set0, e, e1]
      simp only [powS, e1, if_false]
      repeat' first | exact Sub.rfl' _ | exact sub_nils _ | exact SubL.nil | refine sub_tup ?_ | refine sub_agg ?_ | refine SubL.cons ?_ ?_

end Go.Ab
