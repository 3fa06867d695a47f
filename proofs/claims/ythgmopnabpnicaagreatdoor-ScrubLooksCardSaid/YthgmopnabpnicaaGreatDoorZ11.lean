import Derived.Test.YthgmopnabpnicaaGreatDoorZ09
import Derived.Test.YthgmopnabpnicaaGreatDoorZ10
set_option linter.all false
namespace Go.Ab
open Go Go.Proofs
variable [Glob]
set_option maxHeartbeats 400000

structure Obj where
  name : List UInt8
  data : List UInt8
  was : List UInt8
  had : Bool
def Obj.av (x : Obj) : List AV := [.str x.name, .str x.data, .str x.was, .bool x.had]
structure Shelf where
  objs : List Obj
  fates : List Int
def encI (l : List Int) : List (List AV) := l.map fun n => [.int .i64 n]
def Shelf.av (s : Shelf) : List AV := [.sl 4 (s.objs.map Obj.av), .sl 1 (encI s.fates)]

def namedS (s : List UInt8) : Bool := decide (1 ≤ s.length ∧ s.length ≤ 100)
theorem named_c (s : List UInt8) : APure Tryz.prog 82 [.str s] (.bool (namedS s)) := by
  refine apure_fin mixed [] 400 Tryz.func82 Tryz.ntmps82 Tryz.results82 rfl rfl (by simp) rfl ?_
  simp (disch := first | omega | (simp only [ZL] <;> omega)) only [Z, Op.callOf, bslE, nilE, mslE, fadE, AV.cells, AV.isBot, AV.one, AV.flat, flatL, ids1, ids2, idsX, AV.lt, ltL, AObj.lt, finE, sevalprocAttr]
  by_cases e : (1 : Int) ≤ s.length <;> simp (disch := first | omega | (simp only [ZL] <;> omega)) only [Z, Op.callOf, bslE, nilE, mslE, fadE, AV.cells, AV.isBot, AV.one, AV.flat, flatL, ids1, ids2, idsX, AV.lt, ltL, AObj.lt, finE, sevalprocAttr, e]
  · exact sub_eq (congrArg AV.bool (decide_eq_decide.2 (by omega)))
  · exact sub_eq (congrArg AV.bool (decide_eq_false (by omega)).symm)
theorem name36_c (s : List UInt8) : APure Tryz.prog 15 [.str s] (.bool (namedS s)) := by
  refine apure_fin mixed [] 400 Tryz.func15 Tryz.ntmps15 Tryz.results15 rfl rfl (by simp) rfl ?_
  simp (disch := first | omega | (simp only [ZL] <;> omega)) only [Z, Op.callOf, bslE, nilE, mslE, fadE, AV.cells, AV.isBot, AV.one, AV.flat, flatL, ids1, ids2, idsX, AV.lt, ltL, AObj.lt, finE, sevalprocAttr]
  by_cases e : (1 : Int) ≤ s.length <;> simp (disch := first | omega | (simp only [ZL] <;> omega)) only [Z, Op.callOf, bslE, nilE, mslE, fadE, AV.cells, AV.isBot, AV.one, AV.flat, flatL, ids1, ids2, idsX, AV.lt, ltL, AObj.lt, finE, sevalprocAttr, e]
  · exact sub_eq (congrArg AV.bool (decide_eq_decide.2 (by omega)))
  · exact sub_eq (congrArg AV.bool (decide_eq_false (by omega)).symm)

/-! ### why a shelf may not be -/
def chkS : Option Obj → List Obj → Int
  | _, [] => 0
  | p, x :: r => if namedS x.name = false then 7 else if p.any (fun y => decide (y.name = x.name)) then 8 else if p.any (fun y => Op.bytesLess x.name y.name) then 2
    else if x.data.length > 65536 ∨ x.was.length > 65536 then 6 else if x.had = false ∧ x.was ≠ [] then 3 else chkS (some x) r


theorem bl_gt : ∀ (a b : List UInt8), (!(Op.bytesLess a b || decide (a = b))) = Op.bytesLess b a
  | [], [] => rfl
  | [], _ :: _ => rfl
  | _ :: _, [] => rfl
  | x :: a, y :: b => by
    have ih := bl_gt a b
    simp only [Op.bytesLess]
    have hx : x < y ∨ x = y ∨ y < x := by
      rcases Nat.lt_trichotomy x.toNat y.toNat with h | h | h
      · exact .inl (UInt8.lt_iff_toNat_lt.2 h)
      · exact .inr (.inl (UInt8.toNat_inj.1 h))
      · exact .inr (.inr (UInt8.lt_iff_toNat_lt.2 h))
    rcases hx with h | h | h
    · have h1 : ¬ y < x := by rw [UInt8.lt_iff_toNat_lt] at *; omega
      have h2 : ¬ y = x := by intro e; subst e; exact h1 h
      simp [h, h1, h2]
    · subst h
      have h1 : ¬ x < x := by rw [UInt8.lt_iff_toNat_lt]; omega
      simp only [h1, decide_false, Bool.false_or, beq_self_eq_true, Bool.true_and, List.cons.injEq, true_and]
      exact ih
    · have h1 : ¬ x < y := by rw [UInt8.lt_iff_toNat_lt] at *; omega
      have h2 : ¬ x = y := by intro e; subst e; exact h1 h
      simp [h, h1, h2]
theorem dec_comm (a b : List UInt8) : decide (a = b) = decide (b = a) := by
  by_cases h : a = b
  · simp [h]
  · simp [h, Ne.symm h]

end Go.Ab
namespace Go.Ab
open Go Go.Proofs
variable [Glob]
set_option maxHeartbeats 400000

theorem check_c (s : Shelf) (hl : s.objs.length < 2^40) : APure Tryz.prog 80 [.agg s.av] (.int .i64 (chkS none s.objs)) := by
  refine apure_fin mixed [] 400 Tryz.func80 Tryz.ntmps80 Tryz.results80 rfl rfl (by simp) rfl ?_
  simp (disch := first | omega | (simp only [ZL] <;> omega)) only [Z, Op.callOf, bslE, nilE, mslE, fadE, AV.cells, AV.isBot, AV.one, AV.flat, flatL, ids1, ids2, idsX, AV.lt, ltL, AObj.lt, finE, sevalprocAttr, Shelf.av]
  refine loopF mixed (fun k : Nat => mk [(1, .ptr 0 0), (6, .sl 4 (s.objs.map Obj.av)), (7, .int .i64 s.objs.length), (8, .int .i64 k)] [(0, .box s.av)] 1)
    (fun k => k ≤ s.objs.length ∧ chkS (if k = 0 then none else s.objs[k-1]?) (s.objs.drop k) = chkS none s.objs) (fun k => s.objs.length - k) 0 400 rfl rfl ⟨by omega, by simp⟩ ?_ ?_
  · refine less_mk (by simp) (by simp) ?_ ?_ <;> simp (disch := first | omega | (simp only [ZL] <;> omega)) only [Z, Op.callOf, bslE, nilE, mslE, fadE, AV.cells, AV.isBot, AV.one, AV.flat, flatL, ids1, ids2, idsX, AV.lt, ltL, AObj.lt, finE, sevalprocAttr, Shelf.av]
  rintro k ⟨hk, hJ⟩
  simp (disch := first | omega | (simp only [ZL] <;> omega)) only [Z, Op.callOf, bslE, nilE, mslE, fadE, AV.cells, AV.isBot, AV.one, AV.flat, flatL, ids1, ids2, idsX, AV.lt, ltL, AObj.lt, finE, sevalprocAttr]
  refine condG_p (fun e => ?_) (fun e => ?_)
  · have hk' : k < s.objs.length := by omega
    rw [List.drop_eq_getElem_cons hk', chkS] at hJ
    simp (disch := first | omega | (simp only [ZL] <;> omega)) only [Z, Op.callOf, bslE, nilE, mslE, fadE, AV.cells, AV.isBot, AV.one, AV.flat, flatL, ids1, ids2, idsX, AV.lt, ltL, AObj.lt, finE, sevalprocAttr, Obj.av, Shelf.av]
    refine callL_pure (named_c _) (by simp [ltL, AV.lt]) rfl ?_
    simp (disch := first | omega | (simp only [ZL] <;> omega)) only [Z, Op.callOf, bslE, nilE, mslE, fadE, AV.cells, AV.isBot, AV.one, AV.flat, flatL, ids1, ids2, idsX, AV.lt, ltL, AObj.lt, finE, sevalprocAttr]
    refine condG_b (fun e1 => ?_) (fun e1 => ?_)
    · simp (disch := first | omega | (simp only [ZL] <;> omega)) only [Z, Op.callOf, bslE, nilE, mslE, fadE, AV.cells, AV.isBot, AV.one, AV.flat, flatL, ids1, ids2, idsX, AV.lt, ltL, AObj.lt, finE, sevalprocAttr]
      simp only [Bool.not_eq_true'] at e1
      simp only [e1, if_true] at hJ
      exact sub_eq (by rw [hJ])
    simp only [Bool.not_eq_false'] at e1
    simp only [e1, Bool.true_eq_false, if_false] at hJ
    rcases Nat.eq_zero_or_pos k with e2 | e2
    · subst e2
      simp (disch := first | omega | (simp only [ZL] <;> omega)) only [Z, Op.callOf, bslE, nilE, mslE, fadE, AV.cells, AV.isBot, AV.one, AV.flat, flatL, ids1, ids2, idsX, AV.lt, ltL, AObj.lt, finE, sevalprocAttr]
      refine okK_of (by kernel_rfl) ?_
      simp (disch := first | omega | (simp only [ZL] <;> omega)) only [Z, Op.callOf, bslE, nilE, mslE, fadE, AV.cells, AV.isBot, AV.one, AV.flat, flatL, ids1, ids2, idsX, AV.lt, ltL, AObj.lt, finE, sevalprocAttr]
      refine okK_of (by kernel_rfl) ?_
      simp only [if_true, Option.any_none, Bool.false_eq_true, if_false] at hJ
      by_cases f1 : (65536 : Int) < (s.objs[0].data.length : Int)
      · simp (disch := first | omega | (simp only [ZL] <;> omega)) only [Z, Op.callOf, bslE, nilE, mslE, fadE, AV.cells, AV.isBot, AV.one, AV.flat, flatL, ids1, ids2, idsX, AV.lt, ltL, AObj.lt, finE, sevalprocAttr, f1]
        simp only [show s.objs[0].data.length > 65536 by omega, true_or, if_true] at hJ
        exact sub_eq (by rw [hJ])
      by_cases f2 : (65536 : Int) < (s.objs[0].was.length : Int)
      · simp (disch := first | omega | (simp only [ZL] <;> omega)) only [Z, Op.callOf, bslE, nilE, mslE, fadE, AV.cells, AV.isBot, AV.one, AV.flat, flatL, ids1, ids2, idsX, AV.lt, ltL, AObj.lt, finE, sevalprocAttr, f1, f2]
        simp only [show s.objs[0].was.length > 65536 by omega, or_true, if_true] at hJ
        exact sub_eq (by rw [hJ])
      simp only [show ¬ (s.objs[0].data.length > 65536 ∨ s.objs[0].was.length > 65536) by omega, if_false] at hJ
      cases f4 : s.objs[0].had
      · by_cases f5 : s.objs[0].was = []
        · simp (disch := first | omega | (simp only [ZL] <;> omega)) only [Z, Op.callOf, bslE, nilE, mslE, fadE, AV.cells, AV.isBot, AV.one, AV.flat, flatL, ids1, ids2, idsX, AV.lt, ltL, AObj.lt, finE, sevalprocAttr, f1, f2, f4, f5]
          simp only [f4, f5, ne_eq, not_true_eq_false, and_false, if_false] at hJ
          refine finR_of (0 + 1) ⟨by omega, ?_⟩ (by omega) ?_
          · simp only [Nat.add_one_ne_zero, if_false, Nat.add_sub_cancel, List.getElem?_eq_getElem hk']
            exact hJ
          · refine less_mk (by simp) (by simp) ?_ ?_ <;> simp (disch := first | omega | (simp only [ZL] <;> omega)) only [Z, Op.callOf, bslE, nilE, mslE, fadE, AV.cells, AV.isBot, AV.one, AV.flat, flatL, ids1, ids2, idsX, AV.lt, ltL, AObj.lt, finE, sevalprocAttr, Shelf.av, i64_add1]
        · simp (disch := first | omega | (simp only [ZL] <;> omega)) only [Z, Op.callOf, bslE, nilE, mslE, fadE, AV.cells, AV.isBot, AV.one, AV.flat, flatL, ids1, ids2, idsX, AV.lt, ltL, AObj.lt, finE, sevalprocAttr, f1, f2, f4, f5]
          simp only [f4, f5, ne_eq, not_false_eq_true, and_self, if_true] at hJ
          exact sub_eq (by rw [hJ])
      · simp (disch := first | omega | (simp only [ZL] <;> omega)) only [Z, Op.callOf, bslE, nilE, mslE, fadE, AV.cells, AV.isBot, AV.one, AV.flat, flatL, ids1, ids2, idsX, AV.lt, ltL, AObj.lt, finE, sevalprocAttr, f1, f2, f4]
        simp only [f4, Bool.true_eq_false, false_and, if_false] at hJ
        refine finR_of (0 + 1) ⟨by omega, ?_⟩ (by omega) ?_
        · simp only [Nat.add_one_ne_zero, if_false, Nat.add_sub_cancel, List.getElem?_eq_getElem hk']
          exact hJ
        · refine less_mk (by simp) (by simp) ?_ ?_ <;> simp (disch := first | omega | (simp only [ZL] <;> omega)) only [Z, Op.callOf, bslE, nilE, mslE, fadE, AV.cells, AV.isBot, AV.one, AV.flat, flatL, ids1, ids2, idsX, AV.lt, ltL, AObj.lt, finE, sevalprocAttr, Shelf.av, i64_add1]
    · have e3 : (0 : Int) < k := by omega
      simp (disch := first | omega | (simp only [ZL] <;> omega)) only [Z, Op.callOf, bslE, nilE, mslE, fadE, AV.cells, AV.isBot, AV.one, AV.flat, flatL, ids1, ids2, idsX, AV.lt, ltL, AObj.lt, finE, sevalprocAttr, e3, i64_sub1, Obj.av]
      refine okK_of (by kernel_rfl) ?_
      have e4 : s.objs[k-1]? = some s.objs[k-1] := by simp
      simp only [show ¬ k = 0 by omega, if_false, e4, Option.any_some] at hJ
      simp (disch := first | omega | (simp only [ZL] <;> omega)) only [Z, Op.callOf, bslE, nilE, mslE, fadE, AV.cells, AV.isBot, AV.one, AV.flat, flatL, ids1, ids2, idsX, AV.lt, ltL, AObj.lt, finE, sevalprocAttr]
      refine condG_b (fun e5 => ?_) (fun e5 => ?_)
      · simp (disch := first | omega | (simp only [ZL] <;> omega)) only [Z, Op.callOf, bslE, nilE, mslE, fadE, AV.cells, AV.isBot, AV.one, AV.flat, flatL, ids1, ids2, idsX, AV.lt, ltL, AObj.lt, finE, sevalprocAttr]
        simp only [e5, if_true] at hJ
        exact sub_eq (by rw [hJ])
      simp only [e5, if_false, Bool.false_eq_true] at hJ
      simp (disch := first | omega | (simp only [ZL] <;> omega)) only [Z, Op.callOf, bslE, nilE, mslE, fadE, AV.cells, AV.isBot, AV.one, AV.flat, flatL, ids1, ids2, idsX, AV.lt, ltL, AObj.lt, finE, sevalprocAttr, e3, i64_sub1, Obj.av]
      refine okK_of (by kernel_rfl) ?_
      simp (disch := first | omega | (simp only [ZL] <;> omega)) only [Z, Op.callOf, bslE, nilE, mslE, fadE, AV.cells, AV.isBot, AV.one, AV.flat, flatL, ids1, ids2, idsX, AV.lt, ltL, AObj.lt, finE, sevalprocAttr]
      refine condG_b (fun e6 => ?_) (fun e6 => ?_)
      · simp (disch := first | omega | (simp only [ZL] <;> omega)) only [Z, Op.callOf, bslE, nilE, mslE, fadE, AV.cells, AV.isBot, AV.one, AV.flat, flatL, ids1, ids2, idsX, AV.lt, ltL, AObj.lt, finE, sevalprocAttr]
        simp only [(bl_gt _ _).symm.trans e6, if_true] at hJ
        exact sub_eq (by rw [hJ])
      simp only [(bl_gt _ _).symm.trans e6, if_false, Bool.false_eq_true] at hJ
      by_cases f1 : (65536 : Int) < (s.objs[k].data.length : Int)
      · simp (disch := first | omega | (simp only [ZL] <;> omega)) only [Z, Op.callOf, bslE, nilE, mslE, fadE, AV.cells, AV.isBot, AV.one, AV.flat, flatL, ids1, ids2, idsX, AV.lt, ltL, AObj.lt, finE, sevalprocAttr, f1]
        simp only [show s.objs[k].data.length > 65536 by omega, true_or, if_true] at hJ
        exact sub_eq (by rw [hJ])
      by_cases f2 : (65536 : Int) < (s.objs[k].was.length : Int)
      · simp (disch := first | omega | (simp only [ZL] <;> omega)) only [Z, Op.callOf, bslE, nilE, mslE, fadE, AV.cells, AV.isBot, AV.one, AV.flat, flatL, ids1, ids2, idsX, AV.lt, ltL, AObj.lt, finE, sevalprocAttr, f1, f2]
        simp only [show s.objs[k].was.length > 65536 by omega, or_true, if_true] at hJ
        exact sub_eq (by rw [hJ])
      simp only [show ¬ (s.objs[k].data.length > 65536 ∨ s.objs[k].was.length > 65536) by omega, if_false] at hJ
      cases f4 : s.objs[k].had
      · by_cases f5 : s.objs[k].was = []
        · simp (disch := first | omega | (simp only [ZL] <;> omega)) only [Z, Op.callOf, bslE, nilE, mslE, fadE, AV.cells, AV.isBot, AV.one, AV.flat, flatL, ids1, ids2, idsX, AV.lt, ltL, AObj.lt, finE, sevalprocAttr, f1, f2, f4, f5]
          simp only [f4, f5, ne_eq, not_true_eq_false, and_false, if_false] at hJ
          refine finR_of (k + 1) ⟨by omega, ?_⟩ (by omega) ?_
          · simp only [Nat.add_one_ne_zero, if_false, Nat.add_sub_cancel, List.getElem?_eq_getElem hk']
            exact hJ
          · refine less_mk (by simp) (by simp) ?_ ?_ <;> simp (disch := first | omega | (simp only [ZL] <;> omega)) only [Z, Op.callOf, bslE, nilE, mslE, fadE, AV.cells, AV.isBot, AV.one, AV.flat, flatL, ids1, ids2, idsX, AV.lt, ltL, AObj.lt, finE, sevalprocAttr, Shelf.av, i64_add1]
        · simp (disch := first | omega | (simp only [ZL] <;> omega)) only [Z, Op.callOf, bslE, nilE, mslE, fadE, AV.cells, AV.isBot, AV.one, AV.flat, flatL, ids1, ids2, idsX, AV.lt, ltL, AObj.lt, finE, sevalprocAttr, f1, f2, f4, f5]
          simp only [f4, f5, ne_eq, not_false_eq_true, and_self, if_true] at hJ
          exact sub_eq (by rw [hJ])
      · simp (disch := first | omega | (simp only [ZL] <;> omega)) only [Z, Op.callOf, bslE, nilE, mslE, fadE, AV.cells, AV.isBot, AV.one, AV.flat, flatL, ids1, ids2, idsX, AV.lt, ltL, AObj.lt, finE, sevalprocAttr, f1, f2, f4]
        simp only [f4, Bool.true_eq_false, false_and, if_false] at hJ
        refine finR_of (k + 1) ⟨by omega, ?_⟩ (by omega) ?_
        · simp only [Nat.add_one_ne_zero, if_false, Nat.add_sub_cancel, List.getElem?_eq_getElem hk']
          exact hJ
        · refine less_mk (by simp) (by simp) ?_ ?_ <;> simp (disch := first | omega | (simp only [ZL] <;> omega)) only [Z, Op.callOf, bslE, nilE, mslE, fadE, AV.cells, AV.isBot, AV.one, AV.flat, flatL, ids1, ids2, idsX, AV.lt, ltL, AObj.lt, finE, sevalprocAttr, Shelf.av, i64_add1]
  · have : k = s.objs.length := by omega
    subst this
    rw [List.drop_length, chkS] at hJ
    simp (disch := first | omega | (simp only [ZL] <;> omega)) only [Z, Op.callOf, bslE, nilE, mslE, fadE, AV.cells, AV.isBot, AV.one, AV.flat, flatL, ids1, ids2, idsX, AV.lt, ltL, AObj.lt, finE, sevalprocAttr]
    exact sub_eq (by rw [hJ])

theorem check36_c (s : Shelf) (hl : s.objs.length < 2^40) : APure Tryz.prog 20 [.agg s.av] (.int .i64 (chkS none s.objs)) := by
  refine apure_fin mixed [] 400 Tryz.func20 Tryz.ntmps20 Tryz.results20 rfl rfl (by simp) rfl ?_
  simp (disch := first | omega | (simp only [ZL] <;> omega)) only [Z, Op.callOf, bslE, nilE, mslE, fadE, AV.cells, AV.isBot, AV.one, AV.flat, flatL, ids1, ids2, idsX, AV.lt, ltL, AObj.lt, finE, sevalprocAttr, Shelf.av]
  refine loopF mixed (fun k : Nat => mk [(1, .ptr 0 0), (6, .sl 4 (s.objs.map Obj.av)), (7, .int .i64 s.objs.length), (8, .int .i64 k)] [(0, .box s.av)] 1)
    (fun k => k ≤ s.objs.length ∧ chkS (if k = 0 then none else s.objs[k-1]?) (s.objs.drop k) = chkS none s.objs) (fun k => s.objs.length - k) 0 400 rfl rfl ⟨by omega, by simp⟩ ?_ ?_
  · refine less_mk (by simp) (by simp) ?_ ?_ <;> simp (disch := first | omega | (simp only [ZL] <;> omega)) only [Z, Op.callOf, bslE, nilE, mslE, fadE, AV.cells, AV.isBot, AV.one, AV.flat, flatL, ids1, ids2, idsX, AV.lt, ltL, AObj.lt, finE, sevalprocAttr, Shelf.av]
  rintro k ⟨hk, hJ⟩
  simp (disch := first | omega | (simp only [ZL] <;> omega)) only [Z, Op.callOf, bslE, nilE, mslE, fadE, AV.cells, AV.isBot, AV.one, AV.flat, flatL, ids1, ids2, idsX, AV.lt, ltL, AObj.lt, finE, sevalprocAttr]
  refine condG_p (fun e => ?_) (fun e => ?_)
  · have hk' : k < s.objs.length := by omega
    rw [List.drop_eq_getElem_cons hk', chkS] at hJ
    simp (disch := first | omega | (simp only [ZL] <;> omega)) only [Z, Op.callOf, bslE, nilE, mslE, fadE, AV.cells, AV.isBot, AV.one, AV.flat, flatL, ids1, ids2, idsX, AV.lt, ltL, AObj.lt, finE, sevalprocAttr, Obj.av, Shelf.av]
    refine callL_pure (name36_c _) (by simp [ltL, AV.lt]) rfl ?_
    simp (disch := first | omega | (simp only [ZL] <;> omega)) only [Z, Op.callOf, bslE, nilE, mslE, fadE, AV.cells, AV.isBot, AV.one, AV.flat, flatL, ids1, ids2, idsX, AV.lt, ltL, AObj.lt, finE, sevalprocAttr]
    refine condG_b (fun e1 => ?_) (fun e1 => ?_)
    · simp (disch := first | omega | (simp only [ZL] <;> omega)) only [Z, Op.callOf, bslE, nilE, mslE, fadE, AV.cells, AV.isBot, AV.one, AV.flat, flatL, ids1, ids2, idsX, AV.lt, ltL, AObj.lt, finE, sevalprocAttr]
      simp only [Bool.not_eq_true'] at e1
      simp only [e1, if_true] at hJ
      exact sub_eq (by rw [hJ])
    simp only [Bool.not_eq_false'] at e1
    simp only [e1, Bool.true_eq_false, if_false] at hJ
    rcases Nat.eq_zero_or_pos k with e2 | e2
    · subst e2
      simp (disch := first | omega | (simp only [ZL] <;> omega)) only [Z, Op.callOf, bslE, nilE, mslE, fadE, AV.cells, AV.isBot, AV.one, AV.flat, flatL, ids1, ids2, idsX, AV.lt, ltL, AObj.lt, finE, sevalprocAttr]
      refine okK_of (by kernel_rfl) ?_
      simp (disch := first | omega | (simp only [ZL] <;> omega)) only [Z, Op.callOf, bslE, nilE, mslE, fadE, AV.cells, AV.isBot, AV.one, AV.flat, flatL, ids1, ids2, idsX, AV.lt, ltL, AObj.lt, finE, sevalprocAttr]
      refine okK_of (by kernel_rfl) ?_
      simp only [if_true, Option.any_none, Bool.false_eq_true, if_false] at hJ
      by_cases f1 : (65536 : Int) < (s.objs[0].data.length : Int)
      · simp (disch := first | omega | (simp only [ZL] <;> omega)) only [Z, Op.callOf, bslE, nilE, mslE, fadE, AV.cells, AV.isBot, AV.one, AV.flat, flatL, ids1, ids2, idsX, AV.lt, ltL, AObj.lt, finE, sevalprocAttr, f1]
        simp only [show s.objs[0].data.length > 65536 by omega, true_or, if_true] at hJ
        exact sub_eq (by rw [hJ])
      by_cases f2 : (65536 : Int) < (s.objs[0].was.length : Int)
      · simp (disch := first | omega | (simp only [ZL] <;> omega)) only [Z, Op.callOf, bslE, nilE, mslE, fadE, AV.cells, AV.isBot, AV.one, AV.flat, flatL, ids1, ids2, idsX, AV.lt, ltL, AObj.lt, finE, sevalprocAttr, f1, f2]
        simp only [show s.objs[0].was.length > 65536 by omega, or_true, if_true] at hJ
        exact sub_eq (by rw [hJ])
      simp only [show ¬ (s.objs[0].data.length > 65536 ∨ s.objs[0].was.length > 65536) by omega, if_false] at hJ
      cases f4 : s.objs[0].had
      · by_cases f5 : s.objs[0].was = []
        · simp (disch := first | omega | (simp only [ZL] <;> omega)) only [Z, Op.callOf, bslE, nilE, mslE, fadE, AV.cells, AV.isBot, AV.one, AV.flat, flatL, ids1, ids2, idsX, AV.lt, ltL, AObj.lt, finE, sevalprocAttr, f1, f2, f4, f5]
          simp only [f4, f5, ne_eq, not_true_eq_false, and_false, if_false] at hJ
          refine finR_of (0 + 1) ⟨by omega, ?_⟩ (by omega) ?_
          · simp only [Nat.add_one_ne_zero, if_false, Nat.add_sub_cancel, List.getElem?_eq_getElem hk']
            exact hJ
          · refine less_mk (by simp) (by simp) ?_ ?_ <;> simp (disch := first | omega | (simp only [ZL] <;> omega)) only [Z, Op.callOf, bslE, nilE, mslE, fadE, AV.cells, AV.isBot, AV.one, AV.flat, flatL, ids1, ids2, idsX, AV.lt, ltL, AObj.lt, finE, sevalprocAttr, Shelf.av, i64_add1]
        · simp (disch := first | omega | (simp only [ZL] <;> omega)) only [Z, Op.callOf, bslE, nilE, mslE, fadE, AV.cells, AV.isBot, AV.one, AV.flat, flatL, ids1, ids2, idsX, AV.lt, ltL, AObj.lt, finE, sevalprocAttr, f1, f2, f4, f5]
          simp only [f4, f5, ne_eq, not_false_eq_true, and_self, if_true] at hJ
          exact sub_eq (by rw [hJ])
      · simp (disch := first | omega | (simp only [ZL] <;> omega)) only [Z, Op.callOf, bslE, nilE, mslE, fadE, AV.cells, AV.isBot, AV.one, AV.flat, flatL, ids1, ids2, idsX, AV.lt, ltL, AObj.lt, finE, sevalprocAttr, f1, f2, f4]
        simp only [f4, Bool.true_eq_false, false_and, if_false] at hJ
        refine finR_of (0 + 1) ⟨by omega, ?_⟩ (by omega) ?_
        · simp only [Nat.add_one_ne_zero, if_false, Nat.add_sub_cancel, List.getElem?_eq_getElem hk']
          exact hJ
        · refine less_mk (by simp) (by simp) ?_ ?_ <;> simp (disch := first | omega | (simp only [ZL] <;> omega)) only [Z, Op.callOf, bslE, nilE, mslE, fadE, AV.cells, AV.isBot, AV.one, AV.flat, flatL, ids1, ids2, idsX, AV.lt, ltL, AObj.lt, finE, sevalprocAttr, Shelf.av, i64_add1]
    · have e3 : (0 : Int) < k := by omega
      simp (disch := first | omega | (simp only [ZL] <;> omega)) only [Z, Op.callOf, bslE, nilE, mslE, fadE, AV.cells, AV.isBot, AV.one, AV.flat, flatL, ids1, ids2, idsX, AV.lt, ltL, AObj.lt, finE, sevalprocAttr, e3, i64_sub1, Obj.av]
      refine okK_of (by kernel_rfl) ?_
      have e4 : s.objs[k-1]? = some s.objs[k-1] := by simp
      simp only [show ¬ k = 0 by omega, if_false, e4, Option.any_some] at hJ
      simp (disch := first | omega | (simp only [ZL] <;> omega)) only [Z, Op.callOf, bslE, nilE, mslE, fadE, AV.cells, AV.isBot, AV.one, AV.flat, flatL, ids1, ids2, idsX, AV.lt, ltL, AObj.lt, finE, sevalprocAttr]
      refine condG_b (fun e5 => ?_) (fun e5 => ?_)
      · simp (disch := first | omega | (simp only [ZL] <;> omega)) only [Z, Op.callOf, bslE, nilE, mslE, fadE, AV.cells, AV.isBot, AV.one, AV.flat, flatL, ids1, ids2, idsX, AV.lt, ltL, AObj.lt, finE, sevalprocAttr]
        simp only [(dec_comm _ _).trans e5, if_true] at hJ
        exact sub_eq (by rw [hJ])
      simp only [(dec_comm _ _).trans e5, if_false, Bool.false_eq_true] at hJ
      simp (disch := first | omega | (simp only [ZL] <;> omega)) only [Z, Op.callOf, bslE, nilE, mslE, fadE, AV.cells, AV.isBot, AV.one, AV.flat, flatL, ids1, ids2, idsX, AV.lt, ltL, AObj.lt, finE, sevalprocAttr, e3, i64_sub1, Obj.av]
      refine okK_of (by kernel_rfl) ?_
      simp (disch := first | omega | (simp only [ZL] <;> omega)) only [Z, Op.callOf, bslE, nilE, mslE, fadE, AV.cells, AV.isBot, AV.one, AV.flat, flatL, ids1, ids2, idsX, AV.lt, ltL, AObj.lt, finE, sevalprocAttr]
      refine condG_b (fun e6 => ?_) (fun e6 => ?_)
      · simp (disch := first | omega | (simp only [ZL] <;> omega)) only [Z, Op.callOf, bslE, nilE, mslE, fadE, AV.cells, AV.isBot, AV.one, AV.flat, flatL, ids1, ids2, idsX, AV.lt, ltL, AObj.lt, finE, sevalprocAttr]
        simp only [e6, if_true] at hJ
        exact sub_eq (by rw [hJ])
      simp only [e6, if_false, Bool.false_eq_true] at hJ
      by_cases f1 : (65536 : Int) < (s.objs[k].data.length : Int)
      · simp (disch := first | omega | (simp only [ZL] <;> omega)) only [Z, Op.callOf, bslE, nilE, mslE, fadE, AV.cells, AV.isBot, AV.one, AV.flat, flatL, ids1, ids2, idsX, AV.lt, ltL, AObj.lt, finE, sevalprocAttr, f1]
        simp only [show s.objs[k].data.length > 65536 by omega, true_or, if_true] at hJ
        exact sub_eq (by rw [hJ])
      by_cases f2 : (65536 : Int) < (s.objs[k].was.length : Int)
      · simp (disch := first | omega | (simp only [ZL] <;> omega)) only [Z, Op.callOf, bslE, nilE, mslE, fadE, AV.cells, AV.isBot, AV.one, AV.flat, flatL, ids1, ids2, idsX, AV.lt, ltL, AObj.lt, finE, sevalprocAttr, f1, f2]
        simp only [show s.objs[k].was.length > 65536 by omega, or_true, if_true] at hJ
        exact sub_eq (by rw [hJ])
      simp only [show ¬ (s.objs[k].data.length > 65536 ∨ s.objs[k].was.length > 65536) by omega, if_false] at hJ
      cases f4 : s.objs[k].had
      · by_cases f5 : s.objs[k].was = []
        · simp (disch := first | omega | (simp only [ZL] <;> omega)) only [Z, Op.callOf, bslE, nilE, mslE, fadE, AV.cells, AV.isBot, AV.one, AV.flat, flatL, ids1, ids2, idsX, AV.lt, ltL, AObj.lt, finE, sevalprocAttr, f1, f2, f4, f5]
          simp only [f4, f5, ne_eq, not_true_eq_false, and_false, if_false] at hJ
          refine finR_of (k + 1) ⟨by omega, ?_⟩ (by omega) ?_
          · simp only [Nat.add_one_ne_zero, if_false, Nat.add_sub_cancel, List.getElem?_eq_getElem hk']
            exact hJ
          · refine less_mk (by simp) (by simp) ?_ ?_ <;> simp (disch := first | omega | (simp only [ZL] <;> omega)) only [Z, Op.callOf, bslE, nilE, mslE, fadE, AV.cells, AV.isBot, AV.one, AV.flat, flatL, ids1, ids2, idsX, AV.lt, ltL, AObj.lt, finE, sevalprocAttr, Shelf.av, i64_add1]
        · simp (disch := first | omega | (simp only [ZL] <;> omega)) only [Z, Op.callOf, bslE, nilE, mslE, fadE, AV.cells, AV.isBot, AV.one, AV.flat, flatL, ids1, ids2, idsX, AV.lt, ltL, AObj.lt, finE, sevalprocAttr, f1, f2, f4, f5]
          simp only [f4, f5, ne_eq, not_false_eq_true, and_self, if_true] at hJ
          exact sub_eq (by rw [hJ])
      · simp (disch := first | omega | (simp only [ZL] <;> omega)) only [Z, Op.callOf, bslE, nilE, mslE, fadE, AV.cells, AV.isBot, AV.one, AV.flat, flatL, ids1, ids2, idsX, AV.lt, ltL, AObj.lt, finE, sevalprocAttr, f1, f2, f4]
        simp only [f4, Bool.true_eq_false, false_and, if_false] at hJ
        refine finR_of (k + 1) ⟨by omega, ?_⟩ (by omega) ?_
        · simp only [Nat.add_one_ne_zero, if_false, Nat.add_sub_cancel, List.getElem?_eq_getElem hk']
          exact hJ
        · refine less_mk (by simp) (by simp) ?_ ?_ <;> simp (disch := first | omega | (simp only [ZL] <;> omega)) only [Z, Op.callOf, bslE, nilE, mslE, fadE, AV.cells, AV.isBot, AV.one, AV.flat, flatL, ids1, ids2, idsX, AV.lt, ltL, AObj.lt, finE, sevalprocAttr, Shelf.av, i64_add1]
  · have : k = s.objs.length := by omega
    subst this
    rw [List.drop_length, chkS] at hJ
    simp (disch := first | omega | (simp only [ZL] <;> omega)) only [Z, Op.callOf, bslE, nilE, mslE, fadE, AV.cells, AV.isBot, AV.one, AV.flat, flatL, ids1, ids2, idsX, AV.lt, ltL, AObj.lt, finE, sevalprocAttr]
    exact sub_eq (by rw [hJ])

end Go.Ab
namespace Go.Ab
open Go Go.Proofs
variable [Glob]
set_option maxHeartbeats 400000

theorem cloneO_c (xs : List (List AV)) (hn : xs.length < 2^40) : APure Tryz.prog 110 [.sl 4 xs] (.sl 4 xs) := by
  refine ACall.fin (acall_body (P := Tryz.prog) (f := 110) Tryz.func110 rfl rfl (show 1 ≤ 8 by decide) ?_)
  refine awp_seq (awp_go mixed [] 400 rfl ?_)
  simp (disch := first | omega | (simp only [ZL] <;> omega)) only [Z, Op.callOf, bslE, nilE, mslE, fadE, AV.cells, AV.isBot, AV.one, AV.flat, flatL, ids1, ids2, idsX, AV.lt, ltL, AObj.lt, finE, sevalprocAttr, seqQ_n]
  refine awp_seq (awp_seq (awp_nilT (src := 0) (sz := 4) (xs := xs) rfl rfl rfl rfl rfl rfl (by simp only [STy]; rfl) rfl (by decide) (by decide) (fun he => ?_) ?_))
  · rw [seqQ_n]
    refine awp_go mixed [] 400 rfl ?_
    subst he
    simp (disch := first | omega | (simp only [ZL] <;> omega)) only [Z, Op.callOf, bslE, nilE, mslE, fadE, AV.cells, AV.isBot, AV.one, AV.flat, flatL, ids1, ids2, idsX, AV.lt, ltL, AObj.lt, finE, sevalprocAttr, seqQ_n, Tryz.f110]
    exact sub_nils _
  · rw [seqQ_n]
    refine awp_go mixed [] 400 rfl ?_
    simp (disch := first | omega | (simp only [ZL] <;> omega)) only [Z, Op.callOf, bslE, nilE, mslE, fadE, AV.cells, AV.isBot, AV.one, AV.flat, flatL, ids1, ids2, idsX, AV.lt, ltL, AObj.lt, finE, sevalprocAttr, seqQ_n, Tryz.f110]
    refine awp_go mixed [] 400 rfl ?_
    simp (disch := first | omega | (simp only [ZL] <;> omega)) only [Z, Op.callOf, bslE, nilE, mslE, fadE, AV.cells, AV.isBot, AV.one, AV.flat, flatL, ids1, ids2, idsX, AV.lt, ltL, AObj.lt, finE, sevalprocAttr, Tryz.f110]
    try simp only [List.take_length]
    exact Sub.rfl' _
theorem cloneI_c (xs : List (List AV)) (hn : xs.length < 2^40) : APure Tryz.prog 111 [.sl 1 xs] (.sl 1 xs) := by
  refine ACall.fin (acall_body (P := Tryz.prog) (f := 111) Tryz.func111 rfl rfl (show 1 ≤ 8 by decide) ?_)
  refine awp_seq (awp_go mixed [] 400 rfl ?_)
  simp (disch := first | omega | (simp only [ZL] <;> omega)) only [Z, Op.callOf, bslE, nilE, mslE, fadE, AV.cells, AV.isBot, AV.one, AV.flat, flatL, ids1, ids2, idsX, AV.lt, ltL, AObj.lt, finE, sevalprocAttr, seqQ_n]
  refine awp_seq (awp_seq (awp_nilT (src := 0) (sz := 1) (xs := xs) rfl rfl rfl rfl rfl rfl (by simp only [STy]; rfl) rfl (by decide) (by decide) (fun he => ?_) ?_))
  · rw [seqQ_n]
    refine awp_go mixed [] 400 rfl ?_
    subst he
    simp (disch := first | omega | (simp only [ZL] <;> omega)) only [Z, Op.callOf, bslE, nilE, mslE, fadE, AV.cells, AV.isBot, AV.one, AV.flat, flatL, ids1, ids2, idsX, AV.lt, ltL, AObj.lt, finE, sevalprocAttr, seqQ_n, Tryz.f111]
    exact sub_nils _
  · rw [seqQ_n]
    refine awp_go mixed [] 400 rfl ?_
    simp (disch := first | omega | (simp only [ZL] <;> omega)) only [Z, Op.callOf, bslE, nilE, mslE, fadE, AV.cells, AV.isBot, AV.one, AV.flat, flatL, ids1, ids2, idsX, AV.lt, ltL, AObj.lt, finE, sevalprocAttr, seqQ_n, Tryz.f111]
    refine awp_go mixed [] 400 rfl ?_
    simp (disch := first | omega | (simp only [ZL] <;> omega)) only [Z, Op.callOf, bslE, nilE, mslE, fadE, AV.cells, AV.isBot, AV.one, AV.flat, flatL, ids1, ids2, idsX, AV.lt, ltL, AObj.lt, finE, sevalprocAttr, Tryz.f111]
    try simp only [List.take_length]
    exact Sub.rfl' _

theorem encI_len (l : List Int) : (encI l).length = l.length := by simp [encI]
theorem same_c (s : Shelf) (h1 : s.objs.length < 2^40) (h2 : s.fates.length < 2^40) : APure Tryz.prog 81 [.agg s.av] (.agg s.av) := by
  refine apure_fin mixed [] 400 Tryz.func81 Tryz.ntmps81 Tryz.results81 rfl rfl (by simp) rfl ?_
  simp (disch := first | omega | (simp only [ZL] <;> omega)) only [Z, Op.callOf, bslE, nilE, mslE, fadE, AV.cells, AV.isBot, AV.one, AV.flat, flatL, ids1, ids2, idsX, AV.lt, ltL, AObj.lt, finE, sevalprocAttr, Shelf.av]
  refine callD_pure (cloneO_c _ (by simpa using h1)) (by simp [ltL, AV.lt]) ?_
  simp (disch := first | omega | (simp only [ZL] <;> omega)) only [Z, Op.callOf, bslE, nilE, mslE, fadE, AV.cells, AV.isBot, AV.one, AV.flat, flatL, ids1, ids2, idsX, AV.lt, ltL, AObj.lt, finE, sevalprocAttr]
  refine callD_pure (cloneI_c _ (by simpa [encI_len] using h2)) (by simp [ltL, AV.lt]) ?_
  simp (disch := first | omega | (simp only [ZL] <;> omega)) only [Z, Op.callOf, bslE, nilE, mslE, fadE, AV.cells, AV.isBot, AV.one, AV.flat, flatL, ids1, ids2, idsX, AV.lt, ltL, AObj.lt, finE, sevalprocAttr]
  refine okK_of (by kernel_rfl) ?_
  simp (disch := first | omega | (simp only [ZL] <;> omega)) only [Z, Op.callOf, bslE, nilE, mslE, fadE, AV.cells, AV.isBot, AV.one, AV.flat, flatL, ids1, ids2, idsX, AV.lt, ltL, AObj.lt, finE, sevalprocAttr]
  exact Sub.rfl' _

def nextFate (s : Shelf) : Shelf × Int := match s.fates with | [] => (s, 0) | f :: r => (⟨s.objs, r⟩, f)
theorem next_c (s : Shelf) (h1 : s.objs.length < 2^40) (h2 : s.fates.length < 2^40) : APure Tryz.prog 83 [.agg s.av] (.tup [.agg (nextFate s).1.av, .int .i64 (nextFate s).2]) := by
  refine apure_fin mixed [] 400 Tryz.func83 Tryz.ntmps83 Tryz.results83 rfl rfl (by simp) rfl ?_
  simp (disch := first | omega | (simp only [ZL] <;> omega)) only [Z, Op.callOf, bslE, nilE, mslE, fadE, AV.cells, AV.isBot, AV.one, AV.flat, flatL, ids1, ids2, idsX, AV.lt, ltL, AObj.lt, finE, sevalprocAttr, Shelf.av]
  refine callL_pure (cloneO_c _ (by simpa using h1)) (by simp [ltL, AV.lt]) rfl ?_
  obtain ⟨objs, fates⟩ := s
  cases fates with
  | nil =>
    simp (disch := first | omega | (simp only [ZL] <;> omega)) only [Z, Op.callOf, bslE, nilE, mslE, fadE, AV.cells, AV.isBot, AV.one, AV.flat, flatL, ids1, ids2, idsX, AV.lt, ltL, AObj.lt, finE, sevalprocAttr, encI, List.map_nil]
    simp only [nextFate, Shelf.av, encI, List.map_nil]
    repeat' first | exact Sub.rfl' _ | exact sub_nils _ | exact SubL.nil | refine sub_tup ?_ | refine sub_agg ?_ | refine SubL.cons ?_ ?_
  | cons f r =>
    have e : ¬ ((r.length + 1 : Nat) : Int) = 0 := by omega
    simp (disch := first | omega | (simp only [ZL] <;> omega)) only [Z, Op.callOf, bslE, nilE, mslE, fadE, AV.cells, AV.isBot, AV.one, AV.flat, flatL, ids1, ids2, idsX, AV.lt, ltL, AObj.lt, finE, sevalprocAttr, e, encI, List.map_cons]
    refine callL_pure (cloneI_c _ (by simp at h2 ⊢; omega)) (by simp [ltL, AV.lt]) rfl ?_
    simp (disch := first | omega | (simp only [ZL] <;> omega)) only [Z, Op.callOf, bslE, nilE, mslE, fadE, AV.cells, AV.isBot, AV.one, AV.flat, flatL, ids1, ids2, idsX, AV.lt, ltL, AObj.lt, finE, sevalprocAttr, e, encI, List.map_cons]
    refine okK_of (by kernel_rfl) ?_
    simp (disch := first | omega | (simp only [ZL] <;> omega)) only [Z, Op.callOf, bslE, nilE, mslE, fadE, AV.cells, AV.isBot, AV.one, AV.flat, flatL, ids1, ids2, idsX, AV.lt, ltL, AObj.lt, finE, sevalprocAttr]
    simp only [nextFate, Shelf.av, encI, List.drop_zero, Nat.add_sub_cancel, List.length_map, List.take_of_length_le (Nat.le_refl _), List.take_length]
    have : List.take r.length (List.map (fun n => [AV.int IntKind.i64 n]) r) = List.map (fun n => [AV.int IntKind.i64 n]) r := List.take_of_length_le (by simp)
    rw [this]
    repeat' first | exact Sub.rfl' _ | exact sub_nils _ | exact SubL.nil | refine sub_tup ?_ | refine sub_agg ?_ | refine SubL.cons ?_ ?_


def flipS (b : List UInt8) : List UInt8 := match b.reverse with | [] => [] | x :: r => ((x ^^^ 1) :: r).reverse
theorem flipS_app (l : List UInt8) (x : UInt8) : flipS (l ++ [x]) = l ++ [x ^^^ 1] := by simp [flipS]
theorem flip_c (b : List UInt8) (h1 : b.length < 2^40) : APure Tryz.prog 85 [.str b] (.str (flipS b)) := by
  refine apure_fin mixed [] 400 Tryz.func85 Tryz.ntmps85 Tryz.results85 rfl rfl (by simp) rfl ?_
  rcases List.eq_nil_or_concat b with e | ⟨l, x, e⟩
  · subst e
    simp (disch := first | omega | (simp only [ZL] <;> omega)) only [Z, Op.callOf, bslE, nilE, mslE, fadE, AV.cells, AV.isBot, AV.one, AV.flat, flatL, ids1, ids2, idsX, AV.lt, ltL, AObj.lt, finE, sevalprocAttr]
    repeat' first | exact Sub.rfl' _ | exact sub_nils _ | exact SubL.nil | refine sub_tup ?_ | refine sub_agg ?_ | refine SubL.cons ?_ ?_
  · have e : b = l ++ [x] := by simpa using e
    have h0 : b ≠ [] := by rw [e]; simp
    have h2 : b.length = l.length + 1 := by rw [e]; simp
    simp (disch := first | omega | (simp only [ZL] <;> omega)) only [Z, Op.callOf, bslE, nilE, mslE, fadE, AV.cells, AV.isBot, AV.one, AV.flat, flatL, ids1, ids2, idsX, AV.lt, ltL, AObj.lt, finE, sevalprocAttr, h0, h2, i64_sub1, Nat.add_sub_cancel]
    refine okK_of (by kernel_rfl) ?_
    simp (disch := first | omega | (simp only [ZL] <;> omega)) only [Z, Op.callOf, bslE, nilE, mslE, fadE, AV.cells, AV.isBot, AV.one, AV.flat, flatL, ids1, ids2, idsX, AV.lt, ltL, AObj.lt, finE, sevalprocAttr]
    refine sub_eq (congrArg AV.str ?_)
    subst e
    rw [flipS_app]
    simp

theorem u8_all {p : UInt8 → Prop} (h : ∀ n : Fin 256, p (UInt8.ofNat n.val)) (x : UInt8) : p x := by
  have := h ⟨x.toNat, x.toNat_lt⟩
  simpa using this
theorem flipB : ∀ x : UInt8, (if Int.tmod (x.toNat : Int) 2 = 1 then x - UInt8.ofNat 1 else x + UInt8.ofNat 1) = x ^^^ 1 := u8_all (by decide +kernel)
theorem flip36_c (b : List UInt8) (h1 : b.length < 2^40) : APure Tryz.prog 117 [.str b] (.str (flipS b)) := by
  refine apure_fin mixed [] 400 Tryz.func117 Tryz.ntmps117 Tryz.results117 rfl rfl (by simp) rfl ?_
  rcases List.eq_nil_or_concat b with e | ⟨l, x, e⟩
  · subst e
    simp (disch := first | omega | (simp only [ZL] <;> omega)) only [Z, Op.callOf, bslE, nilE, mslE, fadE, AV.cells, AV.isBot, AV.one, AV.flat, flatL, ids1, ids2, idsX, AV.lt, ltL, AObj.lt, finE, sevalprocAttr]
    repeat' first | exact Sub.rfl' _ | exact sub_nils _ | exact SubL.nil | refine sub_tup ?_ | refine sub_agg ?_ | refine SubL.cons ?_ ?_
  · have e : b = l ++ [x] := by simpa using e
    have h0 : b ≠ [] := by rw [e]; simp
    have h2 : b.length = l.length + 1 := by rw [e]; simp
    have h3 : b.getD l.length 0 = x := by rw [e]; simp
    have h4 : (if Int.tmod (x.toNat : Int) 2 = 1 then x - 1 else x + 1) = x ^^^ 1 := flipB x
    simp (disch := first | omega | (simp only [ZL] <;> omega)) only [Z, Op.callOf, bslE, nilE, mslE, fadE, AV.cells, AV.isBot, AV.one, AV.flat, flatL, ids1, ids2, idsX, AV.lt, ltL, AObj.lt, finE, sevalprocAttr, h0, h2, i64_sub1, Nat.add_sub_cancel, h3]
    refine condG_p (fun e2 => ?_) (fun e2 => ?_)
    all_goals simp only [e2, if_true, if_false] at h4
    all_goals simp (disch := first | omega | (simp only [ZL] <;> omega)) only [Z, Op.callOf, bslE, nilE, mslE, fadE, AV.cells, AV.isBot, AV.one, AV.flat, flatL, ids1, ids2, idsX, AV.lt, ltL, AObj.lt, finE, sevalprocAttr, h0, h2, i64_sub1, Nat.add_sub_cancel, h4]
    all_goals refine okK_of (by kernel_rfl) ?_
    all_goals simp (disch := first | omega | (simp only [ZL] <;> omega)) only [Z, Op.callOf, bslE, nilE, mslE, fadE, AV.cells, AV.isBot, AV.one, AV.flat, flatL, ids1, ids2, idsX, AV.lt, ltL, AObj.lt, finE, sevalprocAttr]
    all_goals refine sub_eq (congrArg AV.str ?_)
    all_goals subst e
    all_goals rw [flipS_app]
    all_goals simp
end Go.Ab
namespace Go.Ab
open Go Go.Proofs
def cmpS (a b : List UInt8) : Int := if Op.bytesLess a b then -1 else if a = b then 0 else 1
def ixS (s : List UInt8) (c : UInt8) : Int := match s.findIdx? (fun x => x == c) with | some i => (i : Int) | none => -1
def digB (n : Nat) : List UInt8 := if n < 10 then [UInt8.ofNat (48 + n)] else digB (n / 10) ++ [UInt8.ofNat (48 + n % 10)]
termination_by n
decreasing_by omega
def decB (n : Int) : List UInt8 := if n < 0 then 45 :: digB n.natAbs else digB n.natAbs
def i64ok (n : Int) : Prop := -9223372036854775808 ≤ n ∧ n ≤ 9223372036854775807
/-- what Go's library does, proved elsewhere -/
class LibC [Glob] : Prop where
  cmp : ∀ a b : List UInt8, APure Tryz.prog 114 [.str a, .str b] (.int .i64 (cmpS a b))
  pre : ∀ s p : List UInt8, APure Tryz.prog 51 [.str s, .str p] (.bool (p.isPrefixOf s))
  ixb : ∀ (s : List UInt8) (c : UInt8), APure Tryz.prog 162 [.str s, .int .u8 c.toNat] (.int .i64 (ixS s c))
  rep : ∀ n : Nat, n ≤ 1000 → APure Tryz.prog 108 [.str [0], .int .i64 n] (.str (List.replicate n 0))
  dec : ∀ n : Int, i64ok n → APure Tryz.prog 73 [.int .i64 n, .int .i64 10] (.str (decB n))
  pint : ∀ n : Int, i64ok n → APure Tryz.prog 131 [.str (decB n), .int .i64 10, .int .i64 64] (.tup [.int .i64 n, .nili])
  pany : ∀ s : List UInt8, s.length < 2^40 → ∃ (v : Int) (e : AV), i64ok v ∧ (e = .nili ∨ ∃ t, e = .iface t .bot) ∧ APure Tryz.prog 131 [.str s, .int .i64 10, .int .i64 64] (.tup [.int .i64 v, e])
end Go.Ab
