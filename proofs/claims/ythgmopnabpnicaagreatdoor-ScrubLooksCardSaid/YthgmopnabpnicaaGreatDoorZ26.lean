import Derived.Shelf.Abstract
import Derived.Test.YthgmopnabpnicaaGreatDoorZ10
import Derived.Test.YthgmopnabpnicaaGreatDoorZ15
import Derived.Test.YthgmopnabpnicaaGreatDoorZ25
set_option linter.all false
namespace Go.Ab
open Go Go.Proofs
def greatO (o : Obj) : Bool := decide (200 < o.name.length) || decide (500 < o.data.length) || decide (500 < o.was.length)
def greatX (x : Shelf) : Bool := decide (30 < x.objs.length) || decide (100 < x.fates.length) || x.objs.any greatO
def b2i (b : Bool) : Int := if b then 1 else 0
def grN (s : Store) : Nat → Nat
  | 0 => 0
  | n + 1 => grN s n + (if greatX (s.get n) then 1 else 0)
theorem grN_le (s : Store) : ∀ n, grN s n ≤ n
  | 0 => Nat.le_refl _
  | n + 1 => by have := grN_le s n; rw [grN]; split <;> omega
theorem grN_zero (s : Store) : ∀ n, grN s n = 0 → ∀ k, k < n → greatX (s.get k) = false
  | 0, _, k, h => by omega
  | n + 1, h0, k, h => by
    rw [grN] at h0
    by_cases e : k = n
    · subst e
      cases hg : greatX (s.get k)
      · rfl
      · rw [hg] at h0; simp at h0
    · exact grN_zero s n (by omega) k (by omega)
variable [Glob] [LibC]
set_option maxHeartbeats 4000000
theorem bnd_of_great {s : Store} (h : grN s 5 = 0) : Bnd s := by
  intro k hk
  have hg := grN_zero s 5 h k hk
  simp only [greatX, Bool.or_eq_false_iff, decide_eq_false_iff_not] at hg
  refine ⟨by omega, by omega, fun o ho => ?_⟩
  have := List.any_eq_false.1 hg.2 o ho
  simp only [greatO, Bool.or_eq_true, decide_eq_true_eq, not_or] at this
  omega

theorem same52_c (s : Store) (hs : Bnd s) : APure Tryz.prog 13 [.agg s.av, .agg s.av] (.bool true) := by
  refine apure_fin mixed [] 400 Tryz.func13 Tryz.ntmps13 Tryz.results13 rfl rfl (by simp) rfl ?_
  simp (disch := first | omega | (simp only [ZL, store_len, shelf_len] <;> omega)) only [Z, Op.callOf, bslE, nilE, mslE, fadE, AV.cells, AV.isBot, AV.one, AV.flat, flatL, ids1, ids2, idsX, AV.lt, ltL, AObj.lt, finE, sevalprocAttr, frzM_store, frzM_shelf, shelf_len, shelf_one, shelf_flat, shelf_lt, shelf_take, shelf_set0, store_len, store_one, store_flat, store_lt, store_left, store_setl, store_get, store_set, store_take, store_set0]
  refine loopF mixed (fun k : Nat => mk [(2, .ptr 0 0), (3, .ptr 1 0), (5, .int .i64 k)] [(0, .box s.av), (1, .box s.av)] 2) (fun k => k ≤ 5) (fun k => 5 - k) 0 400 rfl rfl (by omega) ?_ ?_
  · refine less_mk (by simp) (by simp) ?_ ?_ <;> simp (disch := first | omega | (simp only [ZL, store_len, shelf_len] <;> omega)) only [Z, Op.callOf, bslE, nilE, mslE, fadE, AV.cells, AV.isBot, AV.one, AV.flat, flatL, ids1, ids2, idsX, AV.lt, ltL, AObj.lt, finE, sevalprocAttr, frzM_store, frzM_shelf, shelf_len, shelf_one, shelf_flat, shelf_lt, shelf_take, shelf_set0, store_len, store_one, store_flat, store_lt, store_left, store_setl, store_get, store_set, store_take, store_set0]
  intro k hk
  simp (disch := first | omega | (simp only [ZL, store_len, shelf_len] <;> omega)) only [Z, Op.callOf, bslE, nilE, mslE, fadE, AV.cells, AV.isBot, AV.one, AV.flat, flatL, ids1, ids2, idsX, AV.lt, ltL, AObj.lt, finE, sevalprocAttr, frzM_store, frzM_shelf, shelf_len, shelf_one, shelf_flat, shelf_lt, shelf_take, shelf_set0, store_len, store_one, store_flat, store_lt, store_left, store_setl, store_get, store_set, store_take, store_set0]
  refine condG_p (fun e => ?_) (fun e => ?_)
  · have hk' : k < 5 := by omega
    simp (disch := first | omega | (simp only [ZL, store_len, shelf_len] <;> omega)) only [Z, Op.callOf, bslE, nilE, mslE, fadE, AV.cells, AV.isBot, AV.one, AV.flat, flatL, ids1, ids2, idsX, AV.lt, ltL, AObj.lt, finE, sevalprocAttr, frzM_store, frzM_shelf, shelf_len, shelf_one, shelf_flat, shelf_lt, shelf_take, shelf_set0, store_len, store_one, store_flat, store_lt, store_left, store_setl, store_get, store_set, store_take, store_set0]
    refine callD_pure (rsame_c (s.get k) (hs k hk').1 (hs k hk').2.1) (by simp [ltL, AV.lt, store_lt, shelf_lt]) ?_
    simp (disch := first | omega | (simp only [ZL, store_len, shelf_len] <;> omega)) only [Z, Op.callOf, bslE, nilE, mslE, fadE, AV.cells, AV.isBot, AV.one, AV.flat, flatL, ids1, ids2, idsX, AV.lt, ltL, AObj.lt, finE, sevalprocAttr, frzM_store, frzM_shelf, shelf_len, shelf_one, shelf_flat, shelf_lt, shelf_take, shelf_set0, store_len, store_one, store_flat, store_lt, store_left, store_setl, store_get, store_set, store_take, store_set0]
    refine okK_of (by kernel_rfl) ?_
    simp (disch := first | omega | (simp only [ZL, store_len, shelf_len] <;> omega)) only [Z, Op.callOf, bslE, nilE, mslE, fadE, AV.cells, AV.isBot, AV.one, AV.flat, flatL, ids1, ids2, idsX, AV.lt, ltL, AObj.lt, finE, sevalprocAttr, frzM_store, frzM_shelf, shelf_len, shelf_one, shelf_flat, shelf_lt, shelf_take, shelf_set0, store_len, store_one, store_flat, store_lt, store_left, store_setl, store_get, store_set, store_take, store_set0]
    refine finR_of (k + 1) (by omega) (by omega) ?_
    refine less_mk (by simp) (by simp) ?_ ?_ <;> simp (disch := first | omega | (simp only [ZL, store_len, shelf_len] <;> omega)) only [Z, Op.callOf, bslE, nilE, mslE, fadE, AV.cells, AV.isBot, AV.one, AV.flat, flatL, ids1, ids2, idsX, AV.lt, ltL, AObj.lt, finE, sevalprocAttr, i64_add1, frzM_store, frzM_shelf, shelf_len, shelf_one, shelf_flat, shelf_lt, shelf_take, shelf_set0, store_len, store_one, store_flat, store_lt, store_left, store_setl, store_get, store_set, store_take, store_set0]
  · simp (disch := first | omega | (simp only [ZL, store_len, shelf_len] <;> omega)) only [Z, Op.callOf, bslE, nilE, mslE, fadE, AV.cells, AV.isBot, AV.one, AV.flat, flatL, ids1, ids2, idsX, AV.lt, ltL, AObj.lt, finE, sevalprocAttr, frzM_store, frzM_shelf, shelf_len, shelf_one, shelf_flat, shelf_lt, shelf_take, shelf_set0, store_len, store_one, store_flat, store_lt, store_left, store_setl, store_get, store_set, store_take, store_set0]
    exact Sub.rfl' _
theorem great36_c (x : Shelf) : APure Tryz.prog 19 [.agg x.av] (.int .i64 (b2i (greatX x))) := by
  refine apure_fin mixed [] 400 Tryz.func19 Tryz.ntmps19 Tryz.results19 rfl rfl (by simp) rfl ?_
  obtain ⟨objs, fates⟩ := x
  simp only [Shelf.av, greatX]
  by_cases c1 : 30 < objs.length
  · have c1' : (30 : Int) < objs.length := by omega
    simp (disch := first | omega | (simp only [ZL] <;> omega)) only [Z, Op.callOf, bslE, nilE, mslE, fadE, AV.cells, AV.isBot, AV.one, AV.flat, flatL, ids1, ids2, idsX, AV.lt, ltL, AObj.lt, finE, sevalprocAttr, encI_len, c1', c1, Bool.true_or, b2i]
    exact Sub.rfl' _
  by_cases c2 : 100 < fates.length
  · have c1' : ¬ (30 : Int) < objs.length := by omega
    have c2' : (100 : Int) < fates.length := by omega
    simp (disch := first | omega | (simp only [ZL] <;> omega)) only [Z, Op.callOf, bslE, nilE, mslE, fadE, AV.cells, AV.isBot, AV.one, AV.flat, flatL, ids1, ids2, idsX, AV.lt, ltL, AObj.lt, finE, sevalprocAttr, encI_len, c1', c1, c2', c2, Bool.true_or, Bool.or_true, b2i]
    exact Sub.rfl' _
  have c1' : ¬ (30 : Int) < objs.length := by omega
  have c2' : ¬ (100 : Int) < fates.length := by omega
  simp (disch := first | omega | (simp only [ZL] <;> omega)) only [Z, Op.callOf, bslE, nilE, mslE, fadE, AV.cells, AV.isBot, AV.one, AV.flat, flatL, ids1, ids2, idsX, AV.lt, ltL, AObj.lt, finE, sevalprocAttr, encI_len, c1', c1, c2', c2, Bool.false_or]
  refine loopF mixed (fun k : Nat => mk [(1, .ptr 0 0), (16, .int .i64 objs.length), (17, .int .i64 k)] [(0, .box [.sl 4 (objs.map Obj.av), .sl 1 (encI fates)])] 1) (fun k => k ≤ objs.length ∧ (objs.drop k).any greatO = objs.any greatO) (fun k => objs.length - k) 0 400 rfl rfl ⟨by omega, by simp⟩ ?_ ?_
  · refine less_mk (by simp) (by simp) ?_ ?_ <;> simp (disch := first | omega | (simp only [ZL] <;> omega)) only [Z, Op.callOf, bslE, nilE, mslE, fadE, AV.cells, AV.isBot, AV.one, AV.flat, flatL, ids1, ids2, idsX, AV.lt, ltL, AObj.lt, finE, sevalprocAttr]
  rintro k ⟨hk, hJ⟩
  simp (disch := first | omega | (simp only [ZL] <;> omega)) only [Z, Op.callOf, bslE, nilE, mslE, fadE, AV.cells, AV.isBot, AV.one, AV.flat, flatL, ids1, ids2, idsX, AV.lt, ltL, AObj.lt, finE, sevalprocAttr]
  refine condG_p (fun e => ?_) (fun e => ?_)
  · have hk' : k < objs.length := by omega
    rw [List.drop_eq_getElem_cons hk', List.any_cons] at hJ
    have ho : (objs.map Obj.av).getD k [] = objs[k].av := objs_at objs k hk'
    generalize objs[k] = o at *
    rw [show greatO o = (decide (200 < o.name.length) || decide (500 < o.data.length) || decide (500 < o.was.length)) from rfl] at hJ
    by_cases d1 : 200 < o.name.length
    · have d1' : (200 : Int) < o.name.length := by omega
      rw [decide_eq_true d1] at hJ
      simp (disch := first | omega | (simp only [ZL] <;> omega)) only [Z, Op.callOf, bslE, nilE, mslE, fadE, AV.cells, AV.isBot, AV.one, AV.flat, flatL, ids1, ids2, idsX, AV.lt, ltL, AObj.lt, finE, sevalprocAttr, ho, Obj.av, d1']
      rw [← hJ]
      exact Sub.rfl' _
    have d1' : ¬ (200 : Int) < o.name.length := by omega
    by_cases d2 : 500 < o.data.length
    · have d2' : (500 : Int) < o.data.length := by omega
      rw [decide_eq_false d1, decide_eq_true d2] at hJ
      simp (disch := first | omega | (simp only [ZL] <;> omega)) only [Z, Op.callOf, bslE, nilE, mslE, fadE, AV.cells, AV.isBot, AV.one, AV.flat, flatL, ids1, ids2, idsX, AV.lt, ltL, AObj.lt, finE, sevalprocAttr, ho, Obj.av, d1', d2']
      rw [← hJ]
      exact Sub.rfl' _
    have d2' : ¬ (500 : Int) < o.data.length := by omega
    by_cases d3 : 500 < o.was.length
    · have d3' : (500 : Int) < o.was.length := by omega
      rw [decide_eq_false d1, decide_eq_false d2, decide_eq_true d3] at hJ
      simp (disch := first | omega | (simp only [ZL] <;> omega)) only [Z, Op.callOf, bslE, nilE, mslE, fadE, AV.cells, AV.isBot, AV.one, AV.flat, flatL, ids1, ids2, idsX, AV.lt, ltL, AObj.lt, finE, sevalprocAttr, ho, Obj.av, d1', d2', d3']
      rw [← hJ]
      exact Sub.rfl' _
    have d3' : ¬ (500 : Int) < o.was.length := by omega
    rw [decide_eq_false d1, decide_eq_false d2, decide_eq_false d3, Bool.or_false, Bool.or_false, Bool.false_or] at hJ
    simp (disch := first | omega | (simp only [ZL] <;> omega)) only [Z, Op.callOf, bslE, nilE, mslE, fadE, AV.cells, AV.isBot, AV.one, AV.flat, flatL, ids1, ids2, idsX, AV.lt, ltL, AObj.lt, finE, sevalprocAttr, ho, Obj.av, d1', d2', d3']
    refine finR_of (k + 1) ⟨by omega, hJ⟩ (by omega) ?_
    refine less_mk (by simp) (by simp) ?_ ?_ <;> simp (disch := first | omega | (simp only [ZL] <;> omega)) only [Z, Op.callOf, bslE, nilE, mslE, fadE, AV.cells, AV.isBot, AV.one, AV.flat, flatL, ids1, ids2, idsX, AV.lt, ltL, AObj.lt, finE, sevalprocAttr, i64_add1]
  · have : k = objs.length := by omega
    subst this
    rw [List.drop_length] at hJ
    simp (disch := first | omega | (simp only [ZL] <;> omega)) only [Z, Op.callOf, bslE, nilE, mslE, fadE, AV.cells, AV.isBot, AV.one, AV.flat, flatL, ids1, ids2, idsX, AV.lt, ltL, AObj.lt, finE, sevalprocAttr]
    rw [← hJ]
    exact Sub.rfl' _
theorem great52_c (s : Store) : APure Tryz.prog 9 [.agg s.av] (.int .i64 (if grN s 5 = 0 then 0 else 1)) := by
  refine apure_fin mixed [] 400 Tryz.func9 Tryz.ntmps9 Tryz.results9 rfl rfl (by simp) rfl ?_
  simp (disch := first | omega | (simp only [ZL, store_len, shelf_len] <;> omega)) only [Z, Op.callOf, bslE, nilE, mslE, fadE, AV.cells, AV.isBot, AV.one, AV.flat, flatL, ids1, ids2, idsX, AV.lt, ltL, AObj.lt, finE, sevalprocAttr, frzM_store, frzM_shelf, shelf_len, shelf_one, shelf_flat, shelf_lt, shelf_take, shelf_set0, store_len, store_one, store_flat, store_lt, store_left, store_setl, store_get, store_set, store_take, store_set0]
  refine loopF mixed (fun k : Nat => mk [(1, .ptr 0 0), (3, .int .i64 (grN s k)), (4, .int .i64 k)] [(0, .box s.av)] 1) (fun k => k ≤ 5) (fun k => 5 - k) 0 400 rfl rfl (by omega) ?_ ?_
  · refine less_mk (by simp) (by simp) ?_ ?_ <;> simp (disch := first | omega | (simp only [ZL, store_len, shelf_len] <;> omega)) only [Z, Op.callOf, bslE, nilE, mslE, fadE, AV.cells, AV.isBot, AV.one, AV.flat, flatL, ids1, ids2, idsX, AV.lt, ltL, AObj.lt, finE, sevalprocAttr, frzM_store, frzM_shelf, shelf_len, shelf_one, shelf_flat, shelf_lt, shelf_take, shelf_set0, store_len, store_one, store_flat, store_lt, store_left, store_setl, store_get, store_set, store_take, store_set0, grN]
  intro k hk
  have hle := grN_le s k
  simp (disch := first | omega | (simp only [ZL, store_len, shelf_len] <;> omega)) only [Z, Op.callOf, bslE, nilE, mslE, fadE, AV.cells, AV.isBot, AV.one, AV.flat, flatL, ids1, ids2, idsX, AV.lt, ltL, AObj.lt, finE, sevalprocAttr, frzM_store, frzM_shelf, shelf_len, shelf_one, shelf_flat, shelf_lt, shelf_take, shelf_set0, store_len, store_one, store_flat, store_lt, store_left, store_setl, store_get, store_set, store_take, store_set0]
  refine condG_p (fun e => ?_) (fun e => ?_)
  · have hk' : k < 5 := by omega
    simp (disch := first | omega | (simp only [ZL, store_len, shelf_len] <;> omega)) only [Z, Op.callOf, bslE, nilE, mslE, fadE, AV.cells, AV.isBot, AV.one, AV.flat, flatL, ids1, ids2, idsX, AV.lt, ltL, AObj.lt, finE, sevalprocAttr, frzM_store, frzM_shelf, shelf_len, shelf_one, shelf_flat, shelf_lt, shelf_take, shelf_set0, store_len, store_one, store_flat, store_lt, store_left, store_setl, store_get, store_set, store_take, store_set0]
    refine callL_pure (great36_c (s.get k)) (by simp [ltL, AV.lt, store_lt, shelf_lt]) rfl ?_
    cases hg : greatX (s.get k)
    · have hs : grN s (k + 1) = grN s k := by rw [grN, hg]; rfl
      simp (disch := first | omega | (simp only [ZL, store_len, shelf_len] <;> omega)) only [Z, Op.callOf, bslE, nilE, mslE, fadE, AV.cells, AV.isBot, AV.one, AV.flat, flatL, ids1, ids2, idsX, AV.lt, ltL, AObj.lt, finE, sevalprocAttr, frzM_store, frzM_shelf, shelf_len, shelf_one, shelf_flat, shelf_lt, shelf_take, shelf_set0, store_len, store_one, store_flat, store_lt, store_left, store_setl, store_get, store_set, store_take, store_set0, b2i, Int.add_zero]
      refine finR_of (k + 1) (by omega) (by omega) ?_
      rw [hs]
      refine less_mk (by simp) (by simp) ?_ ?_ <;> simp (disch := first | omega | (simp only [ZL, store_len, shelf_len] <;> omega)) only [Z, Op.callOf, bslE, nilE, mslE, fadE, AV.cells, AV.isBot, AV.one, AV.flat, flatL, ids1, ids2, idsX, AV.lt, ltL, AObj.lt, finE, sevalprocAttr, i64_add1, frzM_store, frzM_shelf, shelf_len, shelf_one, shelf_flat, shelf_lt, shelf_take, shelf_set0, store_len, store_one, store_flat, store_lt, store_left, store_setl, store_get, store_set, store_take, store_set0]
    · have hs : grN s (k + 1) = grN s k + 1 := by rw [grN, hg]; rfl
      simp (disch := first | omega | (simp only [ZL, store_len, shelf_len] <;> omega)) only [Z, Op.callOf, bslE, nilE, mslE, fadE, AV.cells, AV.isBot, AV.one, AV.flat, flatL, ids1, ids2, idsX, AV.lt, ltL, AObj.lt, finE, sevalprocAttr, frzM_store, frzM_shelf, shelf_len, shelf_one, shelf_flat, shelf_lt, shelf_take, shelf_set0, store_len, store_one, store_flat, store_lt, store_left, store_setl, store_get, store_set, store_take, store_set0, b2i]
      refine finR_of (k + 1) (by omega) (by omega) ?_
      rw [hs]
      refine less_mk (by simp) (by simp) ?_ ?_ <;> simp (disch := first | omega | (simp only [ZL, store_len, shelf_len] <;> omega)) only [Z, Op.callOf, bslE, nilE, mslE, fadE, AV.cells, AV.isBot, AV.one, AV.flat, flatL, ids1, ids2, idsX, AV.lt, ltL, AObj.lt, finE, sevalprocAttr, i64_add1, frzM_store, frzM_shelf, shelf_len, shelf_one, shelf_flat, shelf_lt, shelf_take, shelf_set0, store_len, store_one, store_flat, store_lt, store_left, store_setl, store_get, store_set, store_take, store_set0]
  · have : k = 5 := by omega
    subst this
    by_cases c : grN s 5 = 0
    · have c' : ¬ (0 : Int) < (grN s 5 : Int) := by omega
      rw [if_pos c]
      simp (disch := first | omega | (simp only [ZL] <;> omega)) only [Z, Op.callOf, bslE, nilE, mslE, fadE, AV.cells, AV.isBot, AV.one, AV.flat, flatL, ids1, ids2, idsX, AV.lt, ltL, AObj.lt, finE, sevalprocAttr, c']
      repeat' first | exact Sub.rfl' _ | exact sub_nils _ | exact SubL.nil | refine sub_tup ?_ | refine sub_agg ?_ | refine SubL.cons ?_ ?_
    · have c' : (0 : Int) < (grN s 5 : Int) := by omega
      rw [if_neg c]
      simp (disch := first | omega | (simp only [ZL] <;> omega)) only [Z, Op.callOf, bslE, nilE, mslE, fadE, AV.cells, AV.isBot, AV.one, AV.flat, flatL, ids1, ids2, idsX, AV.lt, ltL, AObj.lt, finE, sevalprocAttr, c']
      repeat' first | exact Sub.rfl' _ | exact sub_nils _ | exact SubL.nil | refine sub_tup ?_ | refine sub_agg ?_ | refine SubL.cons ?_ ?_
end Go.Ab
namespace Go.Ab
open Go Go.Proofs
def zX : Shelf := ⟨[], []⟩
def zS : Store := ⟨zX, zX, zX, zX, zX, -1⟩
def zT : Told := ⟨[], 9, false⟩
theorem zS_get (k : Nat) : zS.get k = zX := by
  match k with
  | 0 => rfl
  | 1 => rfl
  | 2 => rfl
  | 3 => rfl
  | _ + 4 => rfl
theorem zS_set (k : Nat) : zS.set k zX = zS := by
  match k with
  | 0 => rfl
  | 1 => rfl
  | 2 => rfl
  | 3 => rfl
  | _ + 4 => rfl
theorem zS_pow : powS zS = zS := by unfold powS; rw [if_neg (by decide)]
theorem zS_getS : getS zX [97] = (zX, [], 9) := by
  have h1 : chkS none zX.objs = 0 := by simp [zX, chkS]
  have h2 : namedS [97] = true := by decide
  unfold getS
  rw [h1, if_neg (by simp), h2, if_neg (by simp)]
  simp [zX, fateS, findS]
theorem zS_call (k : Nat) : callF (fun _ x => getS x [97]) k zS = (zS, zT) := by
  unfold callF
  rw [if_neg (by decide), zS_get]
  dsimp only
  rw [zS_getS, zS_pow, zS_set]
  rfl
theorem zS_five : fiveS (fun _ x => getS x [97]) zS = (zS, [zT, zT, zT, zT, zT]) := by simp [fiveS, fiveR, zS_call]
theorem zS_look : lookS zS [97] = (zS, [], [], 9) := by
  have h1 : postedS [97] = false := by decide
  have h2 : namedS [97] = true := by decide
  have h3 : rdR [97] [zT, zT, zT, zT, zT] = ([], 9) := by
    have : partsN [97] [zT, zT, zT, zT, zT] 5 = [] := by
      unfold partsN fitsN
      rw [List.filterMap_eq_nil_iff]
      intro a ha
      obtain ⟨k, hk, rfl⟩ := List.mem_map.1 ha
      have hk := List.mem_range.1 hk
      match k, hk with
      | 0, _ => simp [toldF, zT]
      | 1, _ => simp [toldF, zT]
      | 2, _ => simp [toldF, zT]
      | 3, _ => simp [toldF, zT]
      | 4, _ => simp [toldF, zT]
    unfold rdR
    rw [this]
    simp [tri, lostS, cntNone, zT]
  have ht : toldS zS [97] = (zS, [], 9) := by
    unfold toldS
    rw [h1, if_neg (by simp)]
    unfold rdS
    rw [h2, if_neg (by simp), zS_five, h3]
  unfold lookS
  rw [ht, if_pos (by simp)]
theorem zS_bnd : Bnd zS := fun k _ => by rw [zS_get]; exact ⟨by simp [zX], by simp [zX], by simp [zX]⟩
theorem zS_lok : lok zS := by constructor <;> decide
variable [Glob] [LibC]
theorem lookS_bnd {s : Store} (hl : lok s) (hb : Bnd s) (name : List UInt8) : Bnd (lookS s name).1 ∧ (lookS s name).2.1.length ≤ 5 := by
  obtain ⟨b1, b2, b3⟩ := told_bnd hb hl name
  obtain ⟨a1, a2, a3⟩ := lookN_ok name (toldS s name).2.1 (toldS s name).1 b1 b2 5 (Nat.le_refl _)
  unfold lookS
  split
  · exact ⟨b1, by simp⟩
  split
  · exact ⟨a1, by simp⟩
  · exact ⟨a1, a3⟩
set_option maxHeartbeats 4000000

theorem awake_c [LibB] [LibR] : APure Tryz.prog 10 [] (.bool true) := by
  refine apure_fin mixed [] 400 Tryz.func10 Tryz.ntmps10 Tryz.results10 rfl rfl (by simp) rfl ?_
  simp (disch := first | omega | (simp only [ZL] <;> omega)) only [Z, Op.callOf, bslE, nilE, mslE, fadE, AV.cells, AV.isBot, AV.one, AV.flat, flatL, ids1, ids2, idsX, AV.lt, ltL, AObj.lt, finE, sevalprocAttr]
  have h := slook2_c zS [97] zS_lok zS_bnd (by simp)
  rw [zS_look] at h
  refine callL_fz h (by simp [ltL, AV.lt, store_lt, shelf_lt]) rfl ?_
  simp (disch := first | omega | (simp only [ZL, store_len, shelf_len] <;> omega)) only [Z, Op.callOf, bslE, nilE, mslE, fadE, AV.cells, AV.isBot, AV.one, AV.flat, flatL, ids1, ids2, idsX, AV.lt, ltL, AObj.lt, finE, sevalprocAttr, frzM_store, frzM_shelf, shelf_len, shelf_one, shelf_flat, shelf_lt, shelf_take, shelf_set0, store_len, store_one, store_flat, store_lt, store_left, store_setl, store_get, store_set, store_take, store_set0]
  refine ⟨?_, ?_⟩
  · repeat' first | exact Sub.rfl' _ | exact sub_nils _ | exact SubL.nil | refine sub_tup ?_ | refine sub_agg ?_ | refine SubL.cons ?_ ?_
  have e : zS.av = [.sl 4 [], .sl 1 [], .sl 4 [], .sl 1 [], .sl 4 [], .sl 1 [], .sl 4 [], .sl 1 [], .sl 4 [], .sl 1 [], .int .i64 (-1)] := rfl
  have e2 : encI [] = [] := rfl
  simp (disch := first | omega | (simp only [ZL] <;> omega)) only [Z, Op.callOf, bslE, nilE, mslE, fadE, AV.cells, AV.isBot, AV.one, AV.flat, flatL, ids1, ids2, idsX, AV.lt, ltL, AObj.lt, finE, sevalprocAttr, e, e2]
  exact Sub.rfl' _
theorem scrubLooks_c [LibB] [LibR] (s : Store) (name : List UInt8) (hl : lok s) : APure Tryz.prog 3 [.agg s.av, .str name] (.bool true) := by
  refine apure_fin mixed [] 400 Tryz.func3 Tryz.ntmps3 Tryz.results3 rfl rfl (by simp) rfl ?_
  simp (disch := first | omega | (simp only [ZL, store_len, shelf_len] <;> omega)) only [Z, Op.callOf, bslE, nilE, mslE, fadE, AV.cells, AV.isBot, AV.one, AV.flat, flatL, ids1, ids2, idsX, AV.lt, ltL, AObj.lt, finE, sevalprocAttr, frzM_store, frzM_shelf, shelf_len, shelf_one, shelf_flat, shelf_lt, shelf_take, shelf_set0, store_len, store_one, store_flat, store_lt, store_left, store_setl, store_get, store_set, store_take, store_set0]
  refine callL_pure (great52_c s) (by simp [ltL, AV.lt, store_lt, shelf_lt]) rfl ?_
  by_cases c : grN s 5 = 0
  · rw [if_pos c]
    have hb := bnd_of_great c
    by_cases c2 : 200 < name.length
    · have c2' : (200 : Int) < name.length := by omega
      simp (disch := first | omega | (simp only [ZL, store_len, shelf_len] <;> omega)) only [Z, Op.callOf, bslE, nilE, mslE, fadE, AV.cells, AV.isBot, AV.one, AV.flat, flatL, ids1, ids2, idsX, AV.lt, ltL, AObj.lt, finE, sevalprocAttr, frzM_store, frzM_shelf, shelf_len, shelf_one, shelf_flat, shelf_lt, shelf_take, shelf_set0, store_len, store_one, store_flat, store_lt, store_left, store_setl, store_get, store_set, store_take, store_set0, c2']
      refine callL_pure awake_c (by simp [ltL, AV.lt]) rfl ?_
      simp (disch := first | omega | (simp only [ZL] <;> omega)) only [Z, Op.callOf, bslE, nilE, mslE, fadE, AV.cells, AV.isBot, AV.one, AV.flat, flatL, ids1, ids2, idsX, AV.lt, ltL, AObj.lt, finE, sevalprocAttr]
      exact Sub.rfl' _
    · have c2' : ¬ (200 : Int) < name.length := by omega
      simp (disch := first | omega | (simp only [ZL, store_len, shelf_len] <;> omega)) only [Z, Op.callOf, bslE, nilE, mslE, fadE, AV.cells, AV.isBot, AV.one, AV.flat, flatL, ids1, ids2, idsX, AV.lt, ltL, AObj.lt, finE, sevalprocAttr, frzM_store, frzM_shelf, shelf_len, shelf_one, shelf_flat, shelf_lt, shelf_take, shelf_set0, store_len, store_one, store_flat, store_lt, store_left, store_setl, store_get, store_set, store_take, store_set0, c2']
      refine callL_pure (slook2_c s name hl hb (by omega)) (by simp [ltL, AV.lt, store_lt, shelf_lt]) rfl ?_
      simp (disch := first | omega | (simp only [ZL, store_len, shelf_len] <;> omega)) only [Z, Op.callOf, bslE, nilE, mslE, fadE, AV.cells, AV.isBot, AV.one, AV.flat, flatL, ids1, ids2, idsX, AV.lt, ltL, AObj.lt, finE, sevalprocAttr, frzM_store, frzM_shelf, shelf_len, shelf_one, shelf_flat, shelf_lt, shelf_take, shelf_set0, store_len, store_one, store_flat, store_lt, store_left, store_setl, store_get, store_set, store_take, store_set0]
      refine callL_pure (rlook2_c s name hl hb (by omega)) (by simp [ltL, AV.lt, store_lt, shelf_lt]) rfl ?_
      simp (disch := first | omega | (simp only [ZL, store_len, shelf_len] <;> omega)) only [Z, Op.callOf, bslE, nilE, mslE, fadE, AV.cells, AV.isBot, AV.one, AV.flat, flatL, ids1, ids2, idsX, AV.lt, ltL, AObj.lt, finE, sevalprocAttr, frzM_store, frzM_shelf, shelf_len, shelf_one, shelf_flat, shelf_lt, shelf_take, shelf_set0, store_len, store_one, store_flat, store_lt, store_left, store_setl, store_get, store_set, store_take, store_set0]
      obtain ⟨k1, k2⟩ := lookS_bnd hl hb name
      refine callL_pure (same52_c _ k1) (by simp [ltL, AV.lt, store_lt, shelf_lt]) rfl ?_
      simp (disch := first | omega | (simp only [ZL, store_len, shelf_len] <;> omega)) only [Z, Op.callOf, bslE, nilE, mslE, fadE, AV.cells, AV.isBot, AV.one, AV.flat, flatL, ids1, ids2, idsX, AV.lt, ltL, AObj.lt, finE, sevalprocAttr, frzM_store, frzM_shelf, shelf_len, shelf_one, shelf_flat, shelf_lt, shelf_take, shelf_set0, store_len, store_one, store_flat, store_lt, store_left, store_setl, store_get, store_set, store_take, store_set0]
      refine callL_pure (ints_c _ (by omega)) (by simp [ltL, AV.lt]) rfl ?_
      simp (disch := first | omega | (simp only [ZL] <;> omega)) only [Z, Op.callOf, bslE, nilE, mslE, fadE, AV.cells, AV.isBot, AV.one, AV.flat, flatL, ids1, ids2, idsX, AV.lt, ltL, AObj.lt, finE, sevalprocAttr]
      refine callL_pure awake_c (by simp [ltL, AV.lt]) rfl ?_
      simp (disch := first | omega | (simp only [ZL] <;> omega)) only [Z, Op.callOf, bslE, nilE, mslE, fadE, AV.cells, AV.isBot, AV.one, AV.flat, flatL, ids1, ids2, idsX, AV.lt, ltL, AObj.lt, finE, sevalprocAttr]
      exact Sub.rfl' _
  · rw [if_neg c]
    simp (disch := first | omega | (simp only [ZL, store_len, shelf_len] <;> omega)) only [Z, Op.callOf, bslE, nilE, mslE, fadE, AV.cells, AV.isBot, AV.one, AV.flat, flatL, ids1, ids2, idsX, AV.lt, ltL, AObj.lt, finE, sevalprocAttr, frzM_store, frzM_shelf, shelf_len, shelf_one, shelf_flat, shelf_lt, shelf_take, shelf_set0, store_len, store_one, store_flat, store_lt, store_left, store_setl, store_get, store_set, store_take, store_set0]
    refine callL_pure awake_c (by simp [ltL, AV.lt]) rfl ?_
    simp (disch := first | omega | (simp only [ZL] <;> omega)) only [Z, Op.callOf, bslE, nilE, mslE, fadE, AV.cells, AV.isBot, AV.one, AV.flat, flatL, ids1, ids2, idsX, AV.lt, ltL, AObj.lt, finE, sevalprocAttr]
    exact Sub.rfl' _
end Go.Ab
namespace Go.Ab
open Go Go.Proofs
theorem cwp_go {P : Program} [Glob] (hm : P.follows .mixedOrders = true) {E : Ent} {nt b : Nat} {c : Code} {Q : AEx → AS → Prop} {s : AS} (z : List Nat) (fuel : Nat) (hE : E.n = b) (hc : codeOk nt c = true) (h : go P nt b z Q fuel c [] s) : cwp P E nt c Q s := by
  subst hE
  exact (go_sound hm fuel c [] s hc rfl h).cwp
/-- what stands in the caller's row behind i rounds -/
def curS (xs : List UInt8) (rows : List (List UInt8)) (x : UInt8) (i : Nat) : List UInt8 := (atS xs rows x).take i ++ List.replicate ((atS xs rows x).length - i) 0
theorem atS_len (xs : List UInt8) (rows : List (List UInt8)) (x : UInt8) : (atS xs rows x).length = (rows.headD []).length := by simp [atS]
theorem atS_get (xs : List UInt8) (rows : List (List UInt8)) (x : UInt8) (i : Nat) (h : i < (atS xs rows x).length) : (atS xs rows x)[i] = (fldAt xs (rows.map fun r => r.getD i 0) x).1 := by simp [atS]
theorem curS_len (xs : List UInt8) (rows : List (List UInt8)) (x : UInt8) (i : Nat) (h : i ≤ (atS xs rows x).length) : (curS xs rows x i).length = (atS xs rows x).length := by simp [curS]; omega
theorem curS_set (xs : List UInt8) (rows : List (List UInt8)) (x : UInt8) (i : Nat) (h : i < (atS xs rows x).length) : (curS xs rows x i).set i (atS xs rows x)[i] = curS xs rows x (i + 1) := by
  unfold curS
  generalize atS xs rows x = l at *
  apply List.ext_getElem
  · simp; omega
  intro j h1 h2
  simp only [List.length_set, List.length_append, List.length_take, List.length_replicate] at h1
  rw [List.getElem_set]
  by_cases e : i = j
  · subst e
    rw [if_pos rfl, List.getElem_append_left (by simp; omega)]
    simp
  · rw [if_neg e]
    by_cases e2 : j < i
    · rw [List.getElem_append_left (by simp; omega), List.getElem_append_left (by simp; omega)]
      simp
    · rw [List.getElem_append_right (by simp; omega), List.getElem_append_right (by simp; omega)]
      simp
variable [Glob]
set_option maxHeartbeats 2000000

theorem along_c (xs : List UInt8) (rows : List (List UInt8)) (x : UInt8) :
    APure Tryz.prog 103 [.sl 1 (encB xs), .sl 1 (encR rows), .int .u8 x.toNat] (.fn (.func 132) [] [.cp [.sl 1 (encR rows)], .cp [.sl 1 (encB xs)], .cp [.int .u8 x.toNat]]) := by
  refine apure_fin mixed [] 400 Tryz.func103 Tryz.ntmps103 Tryz.results103 rfl rfl (by simp) rfl ?_
  simp (disch := first | omega | (simp only [ZL] <;> omega)) only [Z, Op.callOf, bslE, nilE, mslE, fadE, AV.cells, AV.isBot, AV.one, AV.flat, flatL, ids1, ids2, idsX, AV.lt, ltL, AObj.lt, finE, sevalprocAttr]
  exact Sub.rfl' _
theorem encR_at (rows : List (List UInt8)) (k : Nat) (h : k < rows.length) : (encR rows).getD k [] = [.sl 1 (encB rows[k])] := by simp [encR, List.getD, h]
/-- the caller's box and row -/
def hpY (N : Nat) (cur : List UInt8) : Nat → AObj := mkH [(6, .box [.row 5 0 0 N]), (5, .row 1 0 (encB cur))]
theorem iter_ok (l : Nat) (xs : List UInt8) (rows : List (List UInt8)) (x : UInt8) (N : Nat) (h1 : xs.length = 3) (h2 : rows.length = 3) (hN : N < 2^30) (h3 : ∀ r ∈ rows, r.length = N)
    (E : Ent) (hE : E.n = 7)
    (hy : ∀ (i : Nat) (v : UInt8) (cur : List UInt8) (h : Nat → AObj) (n : Nat), i < N → cur.length = N → h 6 = .box [.row 5 0 0 N] → h 5 = .row 1 0 (encB cur) → 7 ≤ n →
      AYield Tryz.prog l E.φ [.int .i64 i, .int .u8 v.toNat] h n fun r h' n' => r = .bool true ∧ h' = upd h 5 (.row 1 0 (encB (cur.set i v))) ∧ n ≤ n') :
    ∀ c, Tryz.f132.body = some c → cwp Tryz.prog E 49 c (fun e s => (e = .normal ∨ e = .ret) ∧ s.h 6 = .box [.row 5 0 0 N] ∧ s.h 5 = .row 1 0 (encB (atS xs rows x)))
      ⟨argT [.fn (.yield l) [] [], .cp [.sl 1 (encR rows)], .cp [.sl 1 (encB xs)], .cp [.int .u8 x.toNat]], hpY N (List.replicate N 0), 7⟩ := by
  intro c hc
  obtain rfl := Option.some.inj ((show Tryz.f132.body = some _ from rfl).symm.trans hc)
  clear hc
  refine cwp_seq (cwp_go mixed [] 400 hE rfl ?_)
  simp (disch := first | omega | (simp only [ZL] <;> omega)) only [Z, Op.callOf, bslE, nilE, mslE, fadE, AV.cells, AV.isBot, AV.one, AV.flat, flatL, ids1, ids2, idsX, AV.lt, ltL, AObj.lt, finE, sevalprocAttr, encR_len, h2, flB, and_true, encB_repl]
  have h30 : rows[0].length = N := h3 _ (List.getElem_mem _)
  have hlen : (atS xs rows x).length = N := by
    rw [atS_len]
    cases rows with
    | nil => simp at h2
    | cons r t => exact h30
  refine cwp_seq (cwp_go mixed [] 400 hE rfl ?_)
  simp (disch := first | omega | (simp only [ZL] <;> omega)) only [Z, Op.callOf, bslE, nilE, mslE, fadE, AV.cells, AV.isBot, AV.one, AV.flat, flatL, ids1, ids2, idsX, AV.lt, ltL, AObj.lt, finE, sevalprocAttr, encR_len, h2, encR_at, h30, encB_len]
  refine cwp_block (cwp_loop (fun m s => ∃ (i : Nat) (ys : List UInt8), i ≤ N ∧ m = N - i ∧ ys.length = 3 ∧ Less E.n
    (mk [(0, .fn (.yield l) [] []), (1, .cp [.sl 1 (encR rows)]), (2, .cp [.sl 1 (encB xs)]), (3, .cp [.int .u8 x.toNat]), (5, .row 9 0 0 3), (16, .int .i64 N), (17, .int .i64 i)]
      [(6, .box [.row 5 0 0 N]), (5, .row 1 0 (encB (curS xs rows x i))), (9, .row 1 0 (encB ys))] 11) s) N ⟨0, [0, 0, 0], by omega, by omega, rfl, ?_⟩ ?_)
  · rw [hE]
    have hc0 : curS xs rows x 0 = List.replicate N 0 := by unfold curS; rw [hlen]; simp
    rw [hc0]
    refine less_mk (by simp) (by simp) ?_ ?_ <;> simp (disch := first | omega | (simp only [ZL] <;> omega)) only [Z, Op.callOf, bslE, nilE, mslE, fadE, AV.cells, AV.isBot, AV.one, AV.flat, flatL, ids1, ids2, idsX, AV.lt, ltL, AObj.lt, finE, sevalprocAttr, hpY]
    exact rfl
  rintro _ _ ⟨i, ys, hi, rfl, hys, hl⟩
  refine cwp_less _ hl ?_
  refine cwp_seq (cwp_go mixed [] 400 hE rfl ?_)
  simp (disch := first | omega | (simp only [ZL] <;> omega)) only [Z, Op.callOf, bslE, nilE, mslE, fadE, AV.cells, AV.isBot, AV.one, AV.flat, flatL, ids1, ids2, idsX, AV.lt, ltL, AObj.lt, finE, sevalprocAttr]
  refine cwp_seq ?_
  by_cases e : i < N
  rotate_left
  · have : i = N := by omega
    subst this
    refine cwp_go mixed [] 400 hE rfl ?_
    simp (disch := first | omega | (simp only [ZL] <;> omega)) only [Z, Op.callOf, bslE, nilE, mslE, fadE, AV.cells, AV.isBot, AV.one, AV.flat, flatL, ids1, ids2, idsX, AV.lt, ltL, AObj.lt, finE, sevalprocAttr, Int.lt_irrefl, seqQ_e]
    have hcN : curS xs rows x i = atS xs rows x := by unfold curS; rw [hlen, Nat.sub_self, List.take_of_length_le (by omega)]; simp
    rw [hcN]
    simp only [blkQ, if_true]
    refine ⟨by simp, ?_, ?_⟩
    · simp (disch := first | omega | (simp only [ZL] <;> omega)) only [Z, Op.callOf, bslE, nilE, mslE, fadE, AV.cells, AV.isBot, AV.one, AV.flat, flatL, ids1, ids2, idsX, AV.lt, ltL, AObj.lt, finE, sevalprocAttr]
    · simp (disch := first | omega | (simp only [ZL] <;> omega)) only [Z, Op.callOf, bslE, nilE, mslE, fadE, AV.cells, AV.isBot, AV.one, AV.flat, flatL, ids1, ids2, idsX, AV.lt, ltL, AObj.lt, finE, sevalprocAttr]
  · refine cwp_go mixed [] 400 hE rfl ?_
    have e' : (i : Int) < N := by omega
    simp (disch := first | omega | (simp only [ZL] <;> omega)) only [Z, Op.callOf, bslE, nilE, mslE, fadE, AV.cells, AV.isBot, AV.one, AV.flat, flatL, ids1, ids2, idsX, AV.lt, ltL, AObj.lt, finE, sevalprocAttr, e']
    refine cwp_seq (cwp_block (cwp_seq (cwp_go mixed [] 400 hE rfl ?_)))
    simp (disch := first | omega | (simp only [ZL] <;> omega)) only [Z, Op.callOf, bslE, nilE, mslE, fadE, AV.cells, AV.isBot, AV.one, AV.flat, flatL, ids1, ids2, idsX, AV.lt, ltL, AObj.lt, finE, sevalprocAttr]
    refine cwp_seq (cwp_go mixed [] 400 hE rfl ?_)
    simp (disch := first | omega | (simp only [ZL] <;> omega)) only [Z, Op.callOf, bslE, nilE, mslE, fadE, AV.cells, AV.isBot, AV.one, AV.flat, flatL, ids1, ids2, idsX, AV.lt, ltL, AObj.lt, finE, sevalprocAttr, encR_len, h2]
    obtain ⟨cols, hcols⟩ : ∃ cols, cols = rows.map fun r => r.getD i 0 := ⟨_, rfl⟩
    have hcl : cols.length = 3 := by rw [hcols, List.length_map, h2]
    refine loopF mixed (fun p : Nat × List UInt8 => mk [(0, .fn (.yield l) [] []), (1, .cp [.sl 1 (encR rows)]), (2, .cp [.sl 1 (encB xs)]), (3, .cp [.int .u8 x.toNat]), (5, .row 9 0 0 3), (6, .int .i64 i), (16, .int .i64 N), (17, .int .i64 i), (21, .int .i64 3), (22, .int .i64 p.1)]
        [(6, .box [.row 5 0 0 N]), (5, .row 1 0 (encB (curS xs rows x i))), (9, .row 1 0 (encB p.2))] 11)
      (fun p => p.1 ≤ 3 ∧ p.2.length = 3 ∧ p.2.take p.1 = cols.take p.1) (fun p => 3 - p.1) (0, ys) 400 rfl rfl ⟨by simp, hys, rfl⟩ ?_ ?_
    · refine less_mk (by simp) (by simp) ?_ ?_ <;> simp (disch := first | omega | (simp only [ZL] <;> omega)) only [Z, Op.callOf, bslE, nilE, mslE, fadE, AV.cells, AV.isBot, AV.one, AV.flat, flatL, ids1, ids2, idsX, AV.lt, ltL, AObj.lt, finE, sevalprocAttr]
    rintro ⟨k, ys⟩ ⟨hk, hys, htk⟩
    dsimp only at hk hys htk
    simp (disch := first | omega | (simp only [ZL] <;> omega)) only [Z, Op.callOf, bslE, nilE, mslE, fadE, AV.cells, AV.isBot, AV.one, AV.flat, flatL, ids1, ids2, idsX, AV.lt, ltL, AObj.lt, finE, sevalprocAttr]
    refine condG_p (fun e2 => ?_) (fun e2 => ?_)
    · have hk' : k < rows.length := by omega
      have hk3 : k < 3 := by omega
      have hrk : rows[k].length = N := h3 _ (List.getElem_mem _)
      have hrg : (encB rows[k]).getD i [] = [.int .u8 ((rows[k].getD i 0).toNat : Int)] := by
        rw [encB_get _ _ (by omega)]; simp [List.getD, hrk, e]
      simp (disch := first | omega | (simp only [ZL] <;> omega)) only [Z, Op.callOf, bslE, nilE, mslE, fadE, AV.cells, AV.isBot, AV.one, AV.flat, flatL, ids1, ids2, idsX, AV.lt, ltL, AObj.lt, finE, sevalprocAttr, encR_len, h2, encR_at, encB_len, hrk, hys, hrg, Nat.zero_add]
      have hset : (encB ys).set k [.int .u8 ((rows[k].getD i 0).toNat : Int)] = encB (ys.set k (rows[k].getD i 0)) := (encB_set _ _ _).symm
      refine finR_of (k + 1, ys.set k (rows[k].getD i 0)) ⟨by dsimp only; omega, by simpa using hys, ?_⟩ (by dsimp only; omega) ?_
      · dsimp only
        have hc2 : cols[k]'(by omega) = rows[k].getD i 0 := by subst hcols; simp
        rw [List.take_succ_eq_append_getElem (by simp; omega), List.take_succ_eq_append_getElem (by omega : k < cols.length), List.take_set_of_le (Nat.le_refl _), htk, hc2]
        simp
      · refine less_mk (by simp) (by simp) ?_ ?_ <;> simp (disch := first | omega | (simp only [ZL] <;> omega)) only [Z, Op.callOf, bslE, nilE, mslE, fadE, AV.cells, AV.isBot, AV.one, AV.flat, flatL, ids1, ids2, idsX, AV.lt, ltL, AObj.lt, finE, sevalprocAttr, i64_add1, ← hset, encB_get]
    · have : k = 3 := by omega
      subst this
      have hyc : ys = cols := by rwa [List.take_of_length_le (by omega), List.take_of_length_le (by omega)] at htk
      simp (disch := first | omega | (simp only [ZL] <;> omega)) only [Z, Op.callOf, bslE, nilE, mslE, fadE, AV.cells, AV.isBot, AV.one, AV.flat, flatL, ids1, ids2, idsX, AV.lt, ltL, AObj.lt, finE, sevalprocAttr]
      refine cwp_seq (cwp_go mixed [] 400 hE rfl ?_)
      simp (disch := first | omega | (simp only [ZL] <;> omega)) only [Z, Op.callOf, bslE, nilE, mslE, fadE, AV.cells, AV.isBot, AV.one, AV.flat, flatL, ids1, ids2, idsX, AV.lt, ltL, AObj.lt, finE, sevalprocAttr]
      refine callL_ro (at_c xs cols x (by omega) (by omega)) (scal_tup2 (scal_int _ _) (scal_bool _)) (by simp [ltL, AV.lt]) rfl ?_ ?_
      · have htk3 : (encB ys).take 3 = encB cols := by rw [List.take_of_length_le (by rw [encB_len]; omega), hyc]
        simp (disch := first | omega | (simp only [ZL] <;> omega)) only [Z, Op.callOf, bslE, nilE, mslE, fadE, AV.cells, AV.isBot, AV.one, AV.flat, flatL, ids1, ids2, idsX, AV.lt, ltL, AObj.lt, finE, sevalprocAttr, frzQ_some, encB_len, hys, htk3]
      simp (disch := first | omega | (simp only [ZL] <;> omega)) only [Z, Op.callOf, bslE, nilE, mslE, fadE, AV.cells, AV.isBot, AV.one, AV.flat, flatL, ids1, ids2, idsX, AV.lt, ltL, AObj.lt, finE, sevalprocAttr]
      refine cwp_seq (cwp_region_y (pre := [_, _, _]) (post := [_]) (z := []) (l := l) (K := fun s => seqQ _ _ .normal s) rfl rfl (by kernel_rfl) (wpI_of_wpL (ops := #[]) _ _ (by kernel_rfl) ?_) fun _ h => h)
      simp (disch := first | omega | (simp only [ZL] <;> omega)) only [Z, Op.callOf, bslE, nilE, mslE, fadE, AV.cells, AV.isBot, AV.one, AV.flat, flatL, ids1, ids2, idsX, AV.lt, ltL, AObj.lt, finE, sevalprocAttr]
      refine ⟨rfl, [.int .i64 i, .int .u8 ((fldAt xs cols x).1.toNat : Int)], rfl, ?_⟩
      have hcv : (fldAt xs cols x).1 = (atS xs rows x)[i]'(by omega) := by rw [atS_get, hcols]
      refine (hy i (fldAt xs cols x).1 (curS xs rows x i) _ 23 e (by rw [curS_len _ _ _ _ (by omega), hlen]) (by simp (disch := first | omega | (simp only [ZL] <;> omega)) only [Z, Op.callOf, bslE, nilE, mslE, fadE, AV.cells, AV.isBot, AV.one, AV.flat, flatL, ids1, ids2, idsX, AV.lt, ltL, AObj.lt, finE, sevalprocAttr]) (by simp (disch := first | omega | (simp only [ZL] <;> omega)) only [Z, Op.callOf, bslE, nilE, mslE, fadE, AV.cells, AV.isBot, AV.one, AV.flat, flatL, ids1, ids2, idsX, AV.lt, ltL, AObj.lt, finE, sevalprocAttr]) (by omega)).mono ?_
      rintro r h' n' ⟨rfl, rfl, hn'⟩
      rw [hcv, curS_set _ _ _ _ (by omega)]
      refine wpI_of_wpL (ops := #[]) _ _ (by kernel_rfl) ?_
      simp (disch := first | omega | (simp only [ZL] <;> omega)) only [Z, Op.callOf, bslE, nilE, mslE, fadE, AV.cells, AV.isBot, AV.one, AV.flat, flatL, ids1, ids2, idsX, AV.lt, ltL, AObj.lt, finE, sevalprocAttr]
      refine cwp_go mixed [] 400 hE rfl ?_
      simp (disch := first | omega | (simp only [ZL] <;> omega)) only [Z, Op.callOf, bslE, nilE, mslE, fadE, AV.cells, AV.isBot, AV.one, AV.flat, flatL, ids1, ids2, idsX, AV.lt, ltL, AObj.lt, finE, sevalprocAttr]
      refine cwp_go mixed [] 400 hE rfl ?_
      simp (disch := first | omega | (simp only [ZL] <;> omega)) only [Z, Op.callOf, bslE, nilE, mslE, fadE, AV.cells, AV.isBot, AV.one, AV.flat, flatL, ids1, ids2, idsX, AV.lt, ltL, AObj.lt, finE, sevalprocAttr]
      refine ⟨N - (i + 1), by omega, i + 1, ys, by omega, rfl, hys, ?_⟩
      rw [hE]
      refine less_mk (by omega) (by dsimp only; omega) ?_ ?_ <;> simp (disch := first | omega | (simp only [ZL] <;> omega)) only [Z, Op.callOf, bslE, nilE, mslE, fadE, AV.cells, AV.isBot, AV.one, AV.flat, flatL, ids1, ids2, idsX, AV.lt, ltL, AObj.lt, finE, sevalprocAttr, i64_add1]
end Go.Ab
namespace Go.Ab
open Go Go.Proofs
variable [G : Glob]
set_option maxHeartbeats 2000000
def parts64 : Option Code → Option (Array Oper × Array Oper × Array Oper × Array Oper)
  | some (.seq _ (.seq _ (.seq (.seq _ (.block _ (.rangeFunc _ _ (.seq (.region _ o3 _) (.region _ o4 _)) (.block _ (.region _ o5 _))))) (.seq (.region _ o6 _) _)))) => some (o3, o4, o5, o6)
  | _ => none
theorem y34 (o3 o4 o5 o6 : Array Oper) (e : parts64 Tryz.f64.body = some (o3, o4, o5, o6)) (K : AS → Prop) (i v : AV) (h : Nat → AObj) (n : Nat)
    (hK : ∀ t : Nat → AV, t 7 = .ptr 6 0 → t 8 = i → t 9 = v → K ⟨t, h, n + 2⟩) :
    wpI Tryz.prog [] (fun s => wpI Tryz.prog [] K o4.toList s) o3.toList ⟨upd (upd (upd (fun _ => .bot) 7 (.ptr 6 0)) 19 i) 20 v, h, n⟩ := by
  obtain ⟨rfl, rfl, rfl, rfl⟩ : _ ∧ _ ∧ _ ∧ _ := by simpa only [Option.some.injEq, Prod.mk.injEq] using (show some (_, _, _, _) = some (o3, o4, o5, o6) from e)
  refine wpI_of_wpL (ops := #[]) _ _ (by kernel_rfl) ?_
  simp (disch := first | omega | (simp only [ZL] <;> omega)) only [Z, Op.callOf, bslE, nilE, mslE, fadE, AV.cells, AV.isBot, AV.one, AV.flat, flatL, ids1, ids2, idsX, AV.lt, ltL, AObj.lt, finE, sevalprocAttr]
  refine wpI_of_wpL (ops := #[]) _ _ (by kernel_rfl) ?_
  simp (disch := first | omega | (simp only [ZL] <;> omega)) only [Z, Op.callOf, bslE, nilE, mslE, fadE, AV.cells, AV.isBot, AV.one, AV.flat, flatL, ids1, ids2, idsX, AV.lt, ltL, AObj.lt, finE, sevalprocAttr]
  refine hK _ ?_ ?_ ?_ <;> simp (disch := first | omega | (simp only [ZL] <;> omega)) only [Z, Op.callOf, bslE, nilE, mslE, fadE, AV.cells, AV.isBot, AV.one, AV.flat, flatL, ids1, ids2, idsX, AV.lt, ltL, AObj.lt, finE, sevalprocAttr]
theorem y5 (o3 o4 o5 o6 : Array Oper) (e : parts64 Tryz.f64.body = some (o3, o4, o5, o6)) (K : AS → Prop) (i N : Nat) (v : UInt8) (cur : List UInt8) (h : Nat → AObj) (n : Nat) (t : Nat → AV) (t7 : t 7 = .ptr 6 0) (t8 : t 8 = .int .i64 i) (t9 : t 9 = .int .u8 v.toNat)
    (hi : i < N) (hc : cur.length = N) (h6 : h 6 = .box [.row 5 0 0 N]) (h5 : h 5 = .row 1 0 (encB cur)) (hN : N < 2^30) (hK : ∀ t : Nat → AV, ∀ m, n ≤ m → K ⟨t, upd h 5 (.row 1 0 (encB (cur.set i v))), m⟩) :
    wpI Tryz.prog [] K o5.toList ⟨t, h, n⟩ := by
  obtain ⟨rfl, rfl, rfl, rfl⟩ : _ ∧ _ ∧ _ ∧ _ := by simpa only [Option.some.injEq, Prod.mk.injEq] using (show some (_, _, _, _) = some (o3, o4, o5, o6) from e)
  refine wpI_of_wpL (ops := #[]) _ _ (by kernel_rfl) ?_
  have e1 : i < cur.length := by omega
  have hg : (encB cur).getD i [] = [.int .u8 ((cur.getD i 0).toNat : Int)] := by rw [encB_get _ _ e1]; simp [List.getD, e1]
  simp (disch := first | omega | (simp only [ZL] <;> omega)) only [Z, Op.callOf, bslE, nilE, mslE, fadE, AV.cells, AV.isBot, AV.one, AV.flat, flatL, ids1, ids2, idsX, AV.lt, ltL, AObj.lt, finE, sevalprocAttr, t7, t8, t9, h6, h5, hc, hg]
  rw [encB_set] at hK
  refine hK _ _ ?_
  omega
theorem y6 (o3 o4 o5 o6 : Array Oper) (e : parts64 Tryz.f64.body = some (o3, o4, o5, o6)) (N : Nat) (cur : List UInt8) (h : Nat → AObj) (n : Nat) (t : Nat → AV) (t7 : t 7 = .ptr 6 0)
    (hc : cur.length = N) (h6 : h 6 = .box [.row 5 0 0 N]) (h5 : h 5 = .row 1 0 (encB cur)) : wpI Tryz.prog [] (bodyQ Tryz.prog Tryz.f64.results (finE Tryz.prog (.sl 1 (encB cur))) .ret) o6.toList ⟨t, h, n⟩ := by
  obtain ⟨rfl, rfl, rfl, rfl⟩ : _ ∧ _ ∧ _ ∧ _ := by simpa only [Option.some.injEq, Prod.mk.injEq] using (show some (_, _, _, _) = some (o3, o4, o5, o6) from e)
  refine wpI_of_wpL (ops := #[]) _ _ (by kernel_rfl) ?_
  rw [Tryz.results64]
  simp (disch := first | omega | (simp only [ZL] <;> omega)) only [Z, Op.callOf, bslE, nilE, mslE, fadE, AV.cells, AV.isBot, AV.one, AV.flat, flatL, ids1, ids2, idsX, AV.lt, ltL, AObj.lt, finE, sevalprocAttr, t7, h6, h5, hc, encB_len]
  rw [← hc, ← encB_len cur, List.take_length]
  exact Sub.rfl' _
theorem at_ok (xs : List UInt8) (rows : List (List UInt8)) (x : UInt8) (N : Nat) (h1 : xs.length = 3) (h2 : rows.length = 3) (hN : N < 2^30) (h3 : ∀ r ∈ rows, r.length = N) :
    APure Tryz.prog 64 [.sl 1 (encB xs), .sl 1 (encR rows), .int .u8 x.toNat] (.sl 1 (encB (atS xs rows x))) := by
  have h30 : rows[0].length = N := h3 _ (List.getElem_mem _)
  have hlen : (atS xs rows x).length = N := by
    rw [atS_len]
    cases rows with
    | nil => simp at h2
    | cons r t => exact h30
  refine ACall.fin ⟨⟨_, Tryz.func64, by kernel_rfl, by kernel_rfl⟩, fun w S φ vs H hl hrel => ?_⟩
  refine callsIn_wide.1 (callsIn_of_wp_marks (F := Fence.wide) (n := 0) Tryz.func64 (show Tryz.f64.body = some _ from rfl) trivial ?_)
  have r := R.enter (fn := Tryz.f64) (args := [.sl 1 (encB xs), .sl 1 (encR rows), .int .u8 x.toNat]) (by rw [Tryz.ntmps64]; simp) H hl hrel
  rw [Tryz.ntmps64] at r ⊢
  have hE : (⟨w, S, φ, dead, 0⟩ : Ent).n = 0 := rfl
  refine wpIn_pre3 r (Qc := fun s => Less 0 (mk [(7, .ptr 6 0), (18, .fn (.func 132) [] [.cp [.sl 1 (encR rows)], .cp [.sl 1 (encB xs)], .cp [.int .u8 x.toNat]])]
    [(6, .box [.row 5 0 0 N]), (5, .row 1 0 (encB (List.replicate N 0)))] 7) s) (cwp_go mixed [] 400 hE rfl ?_) ?_
  rotate_left
  · clear r
    intro s φ1 S1 a1 w1 q r
    have r := r.less q
    obtain ⟨b7, cs7, hb7, hrow7, _⟩ := show ObjRel w1 S1 _ 6 (.box [.row 5 0 0 N]) from r.hp.obj 6
    have ht7 : a1.tmps.getD 7 undef = .pointer (some ⟨b7, 0, none⟩) := by
      have := show Rel w1 S1 _ (.ptr 6 0) _ from r.ts 7
      generalize a1.tmps.getD 7 undef = v at this
      cases this with
      | ptr h => rw [hb7] at h; cases h; rfl
    have hts := r.sz
    have hdf := r.df
    have hsz := r.st.size
    refine wpIn_block (rf_ok r (ca := [.cp [.sl 1 (encR rows)], .cp [.sl 1 (encB xs)], .cp [.int .u8 x.toNat]]) (by rfl) Tryz.func132 rfl Tryz.results132 (by rw [Tryz.ntmps132]; simp) (enters_of Tryz.func132 (by kernel_rfl) rfl)
      (Qh := fun h' n' => h' 6 = .box [.row 5 0 0 N] ∧ h' 5 = .row 1 0 (encB (atS xs rows x))) ?_ ?_)
    · intro rec E' hn hh hφ hst hpe hps has hbo htm
      rw [Tryz.ntmps132]
      have hb0 : E'.φ 6 0 = some (.at b7 1 1) := by rw [hφ]; exact hb7
      have hrt : rec.tmps.size = 26 := by rw [htm]; exact hts
      have ht7' : rec.tmps.getD 7 undef = .pointer (some ⟨b7, 0, none⟩) := by rw [htm]; exact ht7
      refine @iter_ok (GY G _ _ _) _ xs rows x N h1 h2 hN h3 E' hn ?_ _ rfl
      intro i v cur h n hi hc h6 h5 hn7
      refine ayield_of G (by omega) hst hpe hps has hbo hrt (p1 := 19) (p2 := 20) (tb := 7) (z := []) (by decide) (by kernel_rfl) (by kernel_rfl) (by kernel_rfl) hb0 ht7' ?_
      intro o
      refine @y34 (GY G _ _ o) _ _ _ _ rfl _ _ _ _ _ fun t t7 t8 t9 => ?_
      intro o
      refine @y5 (GY G _ _ o) _ _ _ _ rfl _ i N v cur h _ t t7 t8 t9 hi hc h6 h5 hN fun t m hm => ?_
      exact ⟨⟨rfl, rfl, by dsimp only at hm ⊢; omega⟩, by dsimp only at hm ⊢; omega⟩
    · rintro o φ' S' w' h' n' ⟨q6, q5⟩ r'
      rw [hdf]
      refine wpIn_seq (F := Fence.wide) (n := 0) (wpIn_region_list ?_)
      rw [← List.append_nil (Array.toList _)]
      refine @wpI_soundD _ (GY G _ _ o) _ _ 26 [] _ (bodyQ Tryz.prog Tryz.f64.results (finE Tryz.prog (.sl 1 (encB (atS xs rows x)))) .ret) _ _ 0 wide_wide [] ?_ _ _ φ' S' a1 w' (by kernel_rfl) r' (@y6 (GY G _ _ o) _ _ _ _ rfl N (atS xs rows x) h' n' _ rfl hlen q6 q5)
      intro s4 φ4 S4 a4 w4 q4 r4
      show (Code.ret).wpIn Fence.wide 0 _ _ _ _
      refine wpIn_ret ?_
      rw [← Tryz.ntmps64] at r4
      exact rf_tail G (fn := Tryz.f64) r4 hsz q4
  · simp (disch := first | omega | (simp only [ZL] <;> omega)) only [Z, Op.callOf, bslE, nilE, mslE, fadE, AV.cells, AV.isBot, AV.one, AV.flat, flatL, ids1, ids2, idsX, AV.lt, ltL, AObj.lt, finE, sevalprocAttr]
    refine cwp_go mixed [] 400 hE rfl ?_
    simp (disch := first | omega | (simp only [ZL] <;> omega)) only [Z, Op.callOf, bslE, nilE, mslE, fadE, AV.cells, AV.isBot, AV.one, AV.flat, flatL, ids1, ids2, idsX, AV.lt, ltL, AObj.lt, finE, sevalprocAttr, encR_len, h2, encR_at, encB_len, h30, flB, and_true, encB_repl]
    refine cwp_go mixed [] 400 hE rfl ?_
    simp (disch := first | omega | (simp only [ZL] <;> omega)) only [Z, Op.callOf, bslE, nilE, mslE, fadE, AV.cells, AV.isBot, AV.one, AV.flat, flatL, ids1, ids2, idsX, AV.lt, ltL, AObj.lt, finE, sevalprocAttr, encR_len, h2, encR_at, encB_len, h30, encB_repl]
    refine callL_pure (along_c xs rows x) (by simp [ltL, AV.lt]) rfl ?_
    simp (disch := first | omega | (simp only [ZL] <;> omega)) only [Z, Op.callOf, bslE, nilE, mslE, fadE, AV.cells, AV.isBot, AV.one, AV.flat, flatL, ids1, ids2, idsX, AV.lt, ltL, AObj.lt, finE, sevalprocAttr]
    refine less_mk (by simp) (by simp) ?_ ?_ <;> simp (disch := first | omega | (simp only [ZL] <;> omega)) only [Z, Op.callOf, bslE, nilE, mslE, fadE, AV.cells, AV.isBot, AV.one, AV.flat, flatL, ids1, ids2, idsX, AV.lt, ltL, AObj.lt, finE, sevalprocAttr]
end Go.Ab
