import Derived.Test.YthgmopnabpnicaaGreatDoorZ11
import Derived.Test.YthgmopnabpnicaaGreatDoorZ12
import Derived.Test.YthgmopnabpnicaaGreatDoorZ13
set_option linter.all false
namespace Go.Ab
open Go Go.Proofs
theorem c8_16 (x : UInt8) : IntKind.u16.wrap (x.toNat : Int) = ((x.toUInt16).toNat : Int) := by
  have := x.toNat_lt
  rw [IntKind.wrap_u16]; simp; omega
theorem c16_8 (x : UInt16) : IntKind.u8.wrap (x.toNat : Int) = ((x.toUInt8).toNat : Int) := by
  rw [IntKind.wrap_u8]; simp
theorem c285 (k : Nat) (h : k < 16) : IntKind.u16.wrap (285 * 2 ^ min k IntKind.u16.bits) = (((285 : UInt16) <<< UInt16.ofNat k).toNat : Int) := v16_shl 285 k h
/-- a point's factor -/
def partR (i : Nat) (a x : UInt8) : Nat → List UInt8 → UInt8 → Option UInt8
  | _, [], p => some p
  | k, o :: r, p => if k = i then partR i a x (k + 1) r p else if o = a then none else partR i a x (k + 1) r (gmul p (gmul (x ^^^ o) (ginv (a ^^^ o))))
def outR (xs ys : List UInt8) (x : UInt8) : Nat → List UInt8 → UInt8 → Option UInt8
  | _, [], o => some o
  | i, a :: r, o => match partR i a x 0 xs (ys.getD i 0) with
    | none => none
    | some p => outR xs ys x (i + 1) r (o ^^^ p)
def fldAt (xs ys : List UInt8) (x : UInt8) : UInt8 × Bool :=
  if xs.length ≠ ys.length then (0, false) else match outR xs ys x 0 xs 0 with
  | none => (0, false)
  | some o => (o, true)
theorem dg_s8' (i : Nat) (h : 8 ≤ i) : (i : Int) - 8 = ((i - 8 : Nat) : Int) := by omega
variable [Glob]
set_option maxHeartbeats 1000000

theorem rmul_c (a b : UInt8) : APure Tryz.prog 125 [.int .u8 a.toNat, .int .u8 b.toNat] (.int .u8 (gmul a b).toNat) := by
  rw [← rmul_eq]
  refine apure_fin mixed [] 400 Tryz.func125 Tryz.ntmps125 Tryz.results125 rfl rfl (by simp) rfl ?_
  simp (disch := first | omega | (simp only [ZL] <;> omega)) only [Z, Op.callOf, bslE, nilE, mslE, fadE, AV.cells, AV.isBot, AV.one, AV.flat, flatL, ids1, ids2, idsX, AV.lt, ltL, AObj.lt, finE, reduceCtorEq, reduceIte, Nat.reduceEqDiff, Nat.reduceAdd, Nat.reduceLeDiff, Nat.reduceMul, Nat.reduceLT, Nat.reduceBEq, Nat.reduceSub, Int.reduceToNat, Int.reduceLT, Int.reduceLE, Int.reduceAdd, Int.reduceSub, Int.reduceMul, Int.reduceGT, Int.reduceGE, Int.reduceEq, Int.reduceNe, Int.reduceNeg]
  refine loopF mixed (fun i : Nat => mk [(0, .int .u8 a.toNat), (1, .int .u8 b.toNat), (5, .int .u16 (xA a b i).toNat), (6, .int .i64 i)] [] 0) (fun i => i ≤ 8) (fun i => 8 - i) 0 400 rfl rfl (by omega) ?_ ?_
  · refine less_mk (by simp) (by simp) ?_ ?_ <;> simp (disch := first | omega | (simp only [ZL] <;> omega)) only [Z, Op.callOf, bslE, nilE, mslE, fadE, AV.cells, AV.isBot, AV.one, AV.flat, flatL, ids1, ids2, idsX, AV.lt, ltL, AObj.lt, finE, reduceCtorEq, reduceIte, Nat.reduceEqDiff, Nat.reduceAdd, Nat.reduceLeDiff, Nat.reduceMul, Nat.reduceLT, Nat.reduceBEq, Nat.reduceSub, Int.reduceToNat, Int.reduceLT, Int.reduceLE, Int.reduceAdd, Int.reduceSub, Int.reduceMul, Int.reduceGT, Int.reduceGE, Int.reduceEq, Int.reduceNe, Int.reduceNeg]
    exact rfl
  intro i hi
  simp (disch := first | omega | (simp only [ZL] <;> omega)) only [Z, Op.callOf, bslE, nilE, mslE, fadE, AV.cells, AV.isBot, AV.one, AV.flat, flatL, ids1, ids2, idsX, AV.lt, ltL, AObj.lt, finE, reduceCtorEq, reduceIte, Nat.reduceEqDiff, Nat.reduceAdd, Nat.reduceLeDiff, Nat.reduceMul, Nat.reduceLT, Nat.reduceBEq, Nat.reduceSub, Int.reduceToNat, Int.reduceLT, Int.reduceLE, Int.reduceAdd, Int.reduceSub, Int.reduceMul, Int.reduceGT, Int.reduceGE, Int.reduceEq, Int.reduceNe, Int.reduceNeg]
  refine condG_p (fun e => ?_) (fun e => ?_)
  · have hi' : i < 8 := by omega
    have hb : ((((b >>> UInt8.ofNat i) &&& UInt8.ofNat 1).toNat : Int) = 1) = ((b >>> UInt8.ofNat i) &&& 1 = 1) := propext (bit8t _)
    by_cases c : (b >>> UInt8.ofNat i) &&& 1 = 1
    · simp (disch := first | omega | (simp only [ZL] <;> omega)) only [Z, Op.callOf, bslE, nilE, mslE, fadE, AV.cells, AV.isBot, AV.one, AV.flat, flatL, ids1, ids2, idsX, AV.lt, ltL, AObj.lt, finE, reduceCtorEq, reduceIte, Nat.reduceEqDiff, Nat.reduceAdd, Nat.reduceLeDiff, Nat.reduceMul, Nat.reduceLT, Nat.reduceBEq, Nat.reduceSub, Int.reduceToNat, Int.reduceLT, Int.reduceLE, Int.reduceAdd, Int.reduceSub, Int.reduceMul, Int.reduceGT, Int.reduceGE, Int.reduceEq, Int.reduceNe, Int.reduceNeg, hb, c, c8_16]
      refine finR_of (i + 1) (by omega) (by omega) ?_
      refine less_mk (by simp) (by simp) ?_ ?_ <;> simp (disch := first | omega | (simp only [ZL] <;> omega)) only [Z, Op.callOf, bslE, nilE, mslE, fadE, AV.cells, AV.isBot, AV.one, AV.flat, flatL, ids1, ids2, idsX, AV.lt, ltL, AObj.lt, finE, reduceCtorEq, reduceIte, Nat.reduceEqDiff, Nat.reduceAdd, Nat.reduceLeDiff, Nat.reduceMul, Nat.reduceLT, Nat.reduceBEq, Nat.reduceSub, Int.reduceToNat, Int.reduceLT, Int.reduceLE, Int.reduceAdd, Int.reduceSub, Int.reduceMul, Int.reduceGT, Int.reduceGE, Int.reduceEq, Int.reduceNe, Int.reduceNeg, i64_add1, xA, c]
    · simp (disch := first | omega | (simp only [ZL] <;> omega)) only [Z, Op.callOf, bslE, nilE, mslE, fadE, AV.cells, AV.isBot, AV.one, AV.flat, flatL, ids1, ids2, idsX, AV.lt, ltL, AObj.lt, finE, reduceCtorEq, reduceIte, Nat.reduceEqDiff, Nat.reduceAdd, Nat.reduceLeDiff, Nat.reduceMul, Nat.reduceLT, Nat.reduceBEq, Nat.reduceSub, Int.reduceToNat, Int.reduceLT, Int.reduceLE, Int.reduceAdd, Int.reduceSub, Int.reduceMul, Int.reduceGT, Int.reduceGE, Int.reduceEq, Int.reduceNe, Int.reduceNeg, hb, c, c8_16]
      refine finR_of (i + 1) (by omega) (by omega) ?_
      refine less_mk (by simp) (by simp) ?_ ?_ <;> simp (disch := first | omega | (simp only [ZL] <;> omega)) only [Z, Op.callOf, bslE, nilE, mslE, fadE, AV.cells, AV.isBot, AV.one, AV.flat, flatL, ids1, ids2, idsX, AV.lt, ltL, AObj.lt, finE, reduceCtorEq, reduceIte, Nat.reduceEqDiff, Nat.reduceAdd, Nat.reduceLeDiff, Nat.reduceMul, Nat.reduceLT, Nat.reduceBEq, Nat.reduceSub, Int.reduceToNat, Int.reduceLT, Int.reduceLE, Int.reduceAdd, Int.reduceSub, Int.reduceMul, Int.reduceGT, Int.reduceGE, Int.reduceEq, Int.reduceNe, Int.reduceNeg, i64_add1, xA, c]
  · have : i = 8 := by omega
    subst this
    generalize hX : xA a b 8 = X
    have hr : rmul a b = (yB X 7).toUInt8 := by rw [rmul, hX]
    rw [hr]
    simp (disch := first | omega | (simp only [ZL] <;> omega)) only [Z, Op.callOf, bslE, nilE, mslE, fadE, AV.cells, AV.isBot, AV.one, AV.flat, flatL, ids1, ids2, idsX, AV.lt, ltL, AObj.lt, finE, reduceCtorEq, reduceIte, Nat.reduceEqDiff, Nat.reduceAdd, Nat.reduceLeDiff, Nat.reduceMul, Nat.reduceLT, Nat.reduceBEq, Nat.reduceSub, Int.reduceToNat, Int.reduceLT, Int.reduceLE, Int.reduceAdd, Int.reduceSub, Int.reduceMul, Int.reduceGT, Int.reduceGE, Int.reduceEq, Int.reduceNe, Int.reduceNeg]
    refine loopF mixed (fun j : Nat => mk [(5, .int .u16 (yB X j).toNat), (7, .int .i64 (14 - (j : Int)))] [] 0) (fun j => j ≤ 7) (fun j => 7 - j) 0 400 rfl rfl (by omega) ?_ ?_
    · refine less_mk (by simp) (by simp) ?_ ?_ <;> simp (disch := first | omega | (simp only [ZL] <;> omega)) only [Z, Op.callOf, bslE, nilE, mslE, fadE, AV.cells, AV.isBot, AV.one, AV.flat, flatL, ids1, ids2, idsX, AV.lt, ltL, AObj.lt, finE, reduceCtorEq, reduceIte, Nat.reduceEqDiff, Nat.reduceAdd, Nat.reduceLeDiff, Nat.reduceMul, Nat.reduceLT, Nat.reduceBEq, Nat.reduceSub, Int.reduceToNat, Int.reduceLT, Int.reduceLE, Int.reduceAdd, Int.reduceSub, Int.reduceMul, Int.reduceGT, Int.reduceGE, Int.reduceEq, Int.reduceNe, Int.reduceNeg]
      exact rfl
    intro j hj
    simp (disch := first | omega | (simp only [ZL] <;> omega)) only [Z, Op.callOf, bslE, nilE, mslE, fadE, AV.cells, AV.isBot, AV.one, AV.flat, flatL, ids1, ids2, idsX, AV.lt, ltL, AObj.lt, finE, reduceCtorEq, reduceIte, Nat.reduceEqDiff, Nat.reduceAdd, Nat.reduceLeDiff, Nat.reduceMul, Nat.reduceLT, Nat.reduceBEq, Nat.reduceSub, Int.reduceToNat, Int.reduceLT, Int.reduceLE, Int.reduceAdd, Int.reduceSub, Int.reduceMul, Int.reduceGT, Int.reduceGE, Int.reduceEq, Int.reduceNe, Int.reduceNeg]
    refine condG_p (fun e => ?_) (fun e => ?_)
    · have hj' : j < 7 := by omega
      have e14 : (14 : Int) - (j : Int) = ((14 - j : Nat) : Int) := by omega
      have e6 : ((14 - j : Nat) : Int) - 8 = ((6 - j : Nat) : Int) := by omega
      have e13 : ((14 - j : Nat) : Int) - 1 = 14 - ((j + 1 : Nat) : Int) := by omega
      have hb : ((((yB X j >>> UInt16.ofNat (14 - j)) &&& UInt16.ofNat 1).toNat : Int) = 1) = ((yB X j >>> UInt16.ofNat (14 - j)) &&& 1 = 1) := propext (by
        rcases bit16 (yB X j >>> UInt16.ofNat (14 - j)) with h | h
        · have h' : (yB X j >>> UInt16.ofNat (14 - j)) &&& UInt16.ofNat 1 = 0 := h
          rw [h', h]; decide
        · have h' : (yB X j >>> UInt16.ofNat (14 - j)) &&& UInt16.ofNat 1 = 1 := h
          rw [h', h]; decide)
      by_cases c : (yB X j >>> UInt16.ofNat (14 - j)) &&& 1 = 1
      · simp (disch := first | omega | (simp only [ZL] <;> omega)) only [Z, Op.callOf, bslE, nilE, mslE, fadE, AV.cells, AV.isBot, AV.one, AV.flat, flatL, ids1, ids2, idsX, AV.lt, ltL, AObj.lt, finE, reduceCtorEq, reduceIte, Nat.reduceEqDiff, Nat.reduceAdd, Nat.reduceLeDiff, Nat.reduceMul, Nat.reduceLT, Nat.reduceBEq, Nat.reduceSub, Int.reduceToNat, Int.reduceLT, Int.reduceLE, Int.reduceAdd, Int.reduceSub, Int.reduceMul, Int.reduceGT, Int.reduceGE, Int.reduceEq, Int.reduceNe, Int.reduceNeg, e14, hb, c, e6, c285]
        refine finR_of (j + 1) (by omega) (by omega) ?_
        refine less_mk (by simp) (by simp) ?_ ?_ <;> simp (disch := first | omega | (simp only [ZL] <;> omega)) only [Z, Op.callOf, bslE, nilE, mslE, fadE, AV.cells, AV.isBot, AV.one, AV.flat, flatL, ids1, ids2, idsX, AV.lt, ltL, AObj.lt, finE, reduceCtorEq, reduceIte, Nat.reduceEqDiff, Nat.reduceAdd, Nat.reduceLeDiff, Nat.reduceMul, Nat.reduceLT, Nat.reduceBEq, Nat.reduceSub, Int.reduceToNat, Int.reduceLT, Int.reduceLE, Int.reduceAdd, Int.reduceSub, Int.reduceMul, Int.reduceGT, Int.reduceGE, Int.reduceEq, Int.reduceNe, Int.reduceNeg, yB, c, e13]
      · simp (disch := first | omega | (simp only [ZL] <;> omega)) only [Z, Op.callOf, bslE, nilE, mslE, fadE, AV.cells, AV.isBot, AV.one, AV.flat, flatL, ids1, ids2, idsX, AV.lt, ltL, AObj.lt, finE, reduceCtorEq, reduceIte, Nat.reduceEqDiff, Nat.reduceAdd, Nat.reduceLeDiff, Nat.reduceMul, Nat.reduceLT, Nat.reduceBEq, Nat.reduceSub, Int.reduceToNat, Int.reduceLT, Int.reduceLE, Int.reduceAdd, Int.reduceSub, Int.reduceMul, Int.reduceGT, Int.reduceGE, Int.reduceEq, Int.reduceNe, Int.reduceNeg, e14, hb, c]
        refine finR_of (j + 1) (by omega) (by omega) ?_
        refine less_mk (by simp) (by simp) ?_ ?_ <;> simp (disch := first | omega | (simp only [ZL] <;> omega)) only [Z, Op.callOf, bslE, nilE, mslE, fadE, AV.cells, AV.isBot, AV.one, AV.flat, flatL, ids1, ids2, idsX, AV.lt, ltL, AObj.lt, finE, reduceCtorEq, reduceIte, Nat.reduceEqDiff, Nat.reduceAdd, Nat.reduceLeDiff, Nat.reduceMul, Nat.reduceLT, Nat.reduceBEq, Nat.reduceSub, Int.reduceToNat, Int.reduceLT, Int.reduceLE, Int.reduceAdd, Int.reduceSub, Int.reduceMul, Int.reduceGT, Int.reduceGE, Int.reduceEq, Int.reduceNe, Int.reduceNeg, yB, c, e13]
    · have : j = 7 := by omega
      subst this
      simp (disch := first | omega | (simp only [ZL] <;> omega)) only [Z, Op.callOf, bslE, nilE, mslE, fadE, AV.cells, AV.isBot, AV.one, AV.flat, flatL, ids1, ids2, idsX, AV.lt, ltL, AObj.lt, finE, reduceCtorEq, reduceIte, Nat.reduceEqDiff, Nat.reduceAdd, Nat.reduceLeDiff, Nat.reduceMul, Nat.reduceLT, Nat.reduceBEq, Nat.reduceSub, Int.reduceToNat, Int.reduceLT, Int.reduceLE, Int.reduceAdd, Int.reduceSub, Int.reduceMul, Int.reduceGT, Int.reduceGE, Int.reduceEq, Int.reduceNe, Int.reduceNeg, c16_8]
      repeat' first | exact Sub.rfl' _ | exact sub_nils _ | exact SubL.nil | refine sub_tup ?_ | refine sub_agg ?_ | refine SubL.cons ?_ ?_
theorem rinv_c (a : UInt8) : APure Tryz.prog 126 [.int .u8 a.toNat] (.int .u8 (ginv a).toNat) := by
  refine apure_fin mixed [] 400 Tryz.func126 Tryz.ntmps126 Tryz.results126 rfl rfl (by simp) rfl ?_
  simp (disch := first | omega | (simp only [ZL] <;> omega)) only [Z, Op.callOf, bslE, nilE, mslE, fadE, AV.cells, AV.isBot, AV.one, AV.flat, flatL, ids1, ids2, idsX, AV.lt, ltL, AObj.lt, finE, reduceCtorEq, reduceIte, Nat.reduceEqDiff, Nat.reduceAdd, Nat.reduceLeDiff, Nat.reduceMul, Nat.reduceLT, Nat.reduceBEq, Nat.reduceSub, Int.reduceToNat, Int.reduceLT, Int.reduceLE, Int.reduceAdd, Int.reduceSub, Int.reduceMul, Int.reduceGT, Int.reduceGE, Int.reduceEq, Int.reduceNe, Int.reduceNeg]
  refine loopF mixed (fun i : Nat => mk [(0, .int .u8 a.toNat), (3, .int .i64 i)] [] 0) (fun i => i ≤ 256 ∧ ∀ k, k < i → gmul a (UInt8.ofNat k) ≠ 1) (fun i => 256 - i) 0 400 rfl rfl ⟨by omega, by intro k hk; omega⟩ ?_ ?_
  · refine less_mk (by simp) (by simp) ?_ ?_ <;> simp (disch := first | omega | (simp only [ZL] <;> omega)) only [Z, Op.callOf, bslE, nilE, mslE, fadE, AV.cells, AV.isBot, AV.one, AV.flat, flatL, ids1, ids2, idsX, AV.lt, ltL, AObj.lt, finE, reduceCtorEq, reduceIte, Nat.reduceEqDiff, Nat.reduceAdd, Nat.reduceLeDiff, Nat.reduceMul, Nat.reduceLT, Nat.reduceBEq, Nat.reduceSub, Int.reduceToNat, Int.reduceLT, Int.reduceLE, Int.reduceAdd, Int.reduceSub, Int.reduceMul, Int.reduceGT, Int.reduceGE, Int.reduceEq, Int.reduceNe, Int.reduceNeg]
  rintro i ⟨hi, hno⟩
  simp (disch := first | omega | (simp only [ZL] <;> omega)) only [Z, Op.callOf, bslE, nilE, mslE, fadE, AV.cells, AV.isBot, AV.one, AV.flat, flatL, ids1, ids2, idsX, AV.lt, ltL, AObj.lt, finE, reduceCtorEq, reduceIte, Nat.reduceEqDiff, Nat.reduceAdd, Nat.reduceLeDiff, Nat.reduceMul, Nat.reduceLT, Nat.reduceBEq, Nat.reduceSub, Int.reduceToNat, Int.reduceLT, Int.reduceLE, Int.reduceAdd, Int.reduceSub, Int.reduceMul, Int.reduceGT, Int.reduceGE, Int.reduceEq, Int.reduceNe, Int.reduceNeg]
  refine condG_p (fun e => ?_) (fun e => ?_)
  · simp (disch := first | omega | (simp only [ZL] <;> omega)) only [Z, Op.callOf, bslE, nilE, mslE, fadE, AV.cells, AV.isBot, AV.one, AV.flat, flatL, ids1, ids2, idsX, AV.lt, ltL, AObj.lt, finE, reduceCtorEq, reduceIte, Nat.reduceEqDiff, Nat.reduceAdd, Nat.reduceLeDiff, Nat.reduceMul, Nat.reduceLT, Nat.reduceBEq, Nat.reduceSub, Int.reduceToNat, Int.reduceLT, Int.reduceLE, Int.reduceAdd, Int.reduceSub, Int.reduceMul, Int.reduceGT, Int.reduceGE, Int.reduceEq, Int.reduceNe, Int.reduceNeg, w8]
    refine callL_pure (rmul_c _ _) (by simp [ltL, AV.lt]) rfl ?_
    have hb : (((gmul a (UInt8.ofNat i)).toNat : Int) = 1) = (gmul a (UInt8.ofNat i) = 1) := propext ⟨fun h => UInt8.toNat_inj.1 (by simpa using (by omega : (gmul a (UInt8.ofNat i)).toNat = 1)), fun h => by rw [h]; rfl⟩
    by_cases c : gmul a (UInt8.ofNat i) = 1
    · have ct : (gmul a (UInt8.ofNat i) = 1) = True := eq_true c
      simp (disch := first | omega | (simp only [ZL] <;> omega)) only [Z, Op.callOf, bslE, nilE, mslE, fadE, AV.cells, AV.isBot, AV.one, AV.flat, flatL, ids1, ids2, idsX, AV.lt, ltL, AObj.lt, finE, reduceCtorEq, reduceIte, Nat.reduceEqDiff, Nat.reduceAdd, Nat.reduceLeDiff, Nat.reduceMul, Nat.reduceLT, Nat.reduceBEq, Nat.reduceSub, Int.reduceToNat, Int.reduceLT, Int.reduceLE, Int.reduceAdd, Int.reduceSub, Int.reduceMul, Int.reduceGT, Int.reduceGE, Int.reduceEq, Int.reduceNe, Int.reduceNeg, hb, ct, w8]
      rw [inv_uniq _ _ c]
      repeat' first | exact Sub.rfl' _ | exact sub_nils _ | exact SubL.nil | refine sub_tup ?_ | refine sub_agg ?_ | refine SubL.cons ?_ ?_
    · simp (disch := first | omega | (simp only [ZL] <;> omega)) only [Z, Op.callOf, bslE, nilE, mslE, fadE, AV.cells, AV.isBot, AV.one, AV.flat, flatL, ids1, ids2, idsX, AV.lt, ltL, AObj.lt, finE, reduceCtorEq, reduceIte, Nat.reduceEqDiff, Nat.reduceAdd, Nat.reduceLeDiff, Nat.reduceMul, Nat.reduceLT, Nat.reduceBEq, Nat.reduceSub, Int.reduceToNat, Int.reduceLT, Int.reduceLE, Int.reduceAdd, Int.reduceSub, Int.reduceMul, Int.reduceGT, Int.reduceGE, Int.reduceEq, Int.reduceNe, Int.reduceNeg, hb, c]
      refine finR_of (i + 1) ⟨by omega, fun k hk => ?_⟩ (by omega) ?_
      · by_cases ek : k = i
        · subst ek; exact c
        · exact hno k (by omega)
      · refine less_mk (by simp) (by simp) ?_ ?_ <;> simp (disch := first | omega | (simp only [ZL] <;> omega)) only [Z, Op.callOf, bslE, nilE, mslE, fadE, AV.cells, AV.isBot, AV.one, AV.flat, flatL, ids1, ids2, idsX, AV.lt, ltL, AObj.lt, finE, reduceCtorEq, reduceIte, Nat.reduceEqDiff, Nat.reduceAdd, Nat.reduceLeDiff, Nat.reduceMul, Nat.reduceLT, Nat.reduceBEq, Nat.reduceSub, Int.reduceToNat, Int.reduceLT, Int.reduceLE, Int.reduceAdd, Int.reduceSub, Int.reduceMul, Int.reduceGT, Int.reduceGE, Int.reduceEq, Int.reduceNe, Int.reduceNeg, i64_add1]
  · have ha : a = 0 := by
      by_cases h : a = 0
      · exact h
      · exfalso
        have h1 := inv_has a h
        have hl := (ginv a).toNat_lt
        refine hno (ginv a).toNat (by omega) ?_
        simpa using h1
    subst ha
    simp (disch := first | omega | (simp only [ZL] <;> omega)) only [Z, Op.callOf, bslE, nilE, mslE, fadE, AV.cells, AV.isBot, AV.one, AV.flat, flatL, ids1, ids2, idsX, AV.lt, ltL, AObj.lt, finE, reduceCtorEq, reduceIte, Nat.reduceEqDiff, Nat.reduceAdd, Nat.reduceLeDiff, Nat.reduceMul, Nat.reduceLT, Nat.reduceBEq, Nat.reduceSub, Int.reduceToNat, Int.reduceLT, Int.reduceLE, Int.reduceAdd, Int.reduceSub, Int.reduceMul, Int.reduceGT, Int.reduceGE, Int.reduceEq, Int.reduceNe, Int.reduceNeg]
    rw [inv_zero]
    repeat' first | exact Sub.rfl' _ | exact sub_nils _ | exact SubL.nil | refine sub_tup ?_ | refine sub_agg ?_ | refine SubL.cons ?_ ?_

theorem encB_at (xs : List UInt8) (k : Nat) (h : k < xs.length) : (encB xs).getD k [] = [.int .u8 ((xs.getD k 0).toNat : Int)] := by simp [encB, List.getD, h]
theorem u8_ieq (a b : UInt8) : ((a.toNat : Int) = (b.toNat : Int)) = (a = b) := propext ⟨fun h => UInt8.toNat_inj.1 (by omega), fun h => by rw [h]⟩
theorem nat_ieq (a b : Nat) : ((a : Int) = (b : Int)) = (a = b) := propext (by omega)
theorem rat_c (xs ys : List UInt8) (x : UInt8) (h1 : xs.length < 1000) (h2 : ys.length < 2^40) : APure Tryz.prog 96 [.sl 1 (encB xs), .sl 1 (encB ys), .int .u8 x.toNat] (.tup [.int .u8 (fldAt xs ys x).1.toNat, .bool (fldAt xs ys x).2]) := by
  refine apure_fin mixed [] 400 Tryz.func96 Tryz.ntmps96 Tryz.results96 rfl rfl (by simp) rfl ?_
  by_cases c : (xs.length : Int) = (ys.length : Int)
  · have c' : xs.length = ys.length := by omega
    have hf : fldAt xs ys x = match outR xs ys x 0 xs 0 with | none => (0, false) | some o => (o, true) := by unfold fldAt; rw [if_neg (by simpa using c')]; try (cases outR xs ys x 0 xs 0 <;> rfl)
    rw [hf]
    simp (disch := first | omega | (simp only [ZL] <;> omega)) only [Z, Op.callOf, bslE, nilE, mslE, fadE, AV.cells, AV.isBot, AV.one, AV.flat, flatL, ids1, ids2, idsX, AV.lt, ltL, AObj.lt, finE, reduceCtorEq, reduceIte, Nat.reduceEqDiff, Nat.reduceAdd, Nat.reduceLeDiff, Nat.reduceMul, Nat.reduceLT, Nat.reduceBEq, Nat.reduceSub, Int.reduceToNat, Int.reduceLT, Int.reduceLE, Int.reduceAdd, Int.reduceSub, Int.reduceMul, Int.reduceGT, Int.reduceGE, Int.reduceEq, Int.reduceNe, Int.reduceNeg, encB_len, c]
    rw [← c]
    refine loopF mixed (fun p : Nat × UInt8 => mk [(0, .sl 1 (encB xs)), (1, .sl 1 (encB ys)), (2, .int .u8 x.toNat), (8, .int .u8 p.2.toNat), (17, .sl 1 (encB xs)), (18, .int .i64 xs.length), (19, .int .i64 p.1)] [] 0)
      (fun p => p.1 ≤ xs.length ∧ outR xs ys x p.1 (xs.drop p.1) p.2 = outR xs ys x 0 xs 0) (fun p => xs.length - p.1) (0, 0) 400 rfl rfl ⟨by simp, rfl⟩ ?_ ?_
    · refine less_mk (by simp) (by simp) ?_ ?_ <;> simp (disch := first | omega | (simp only [ZL] <;> omega)) only [Z, Op.callOf, bslE, nilE, mslE, fadE, AV.cells, AV.isBot, AV.one, AV.flat, flatL, ids1, ids2, idsX, AV.lt, ltL, AObj.lt, finE, reduceCtorEq, reduceIte, Nat.reduceEqDiff, Nat.reduceAdd, Nat.reduceLeDiff, Nat.reduceMul, Nat.reduceLT, Nat.reduceBEq, Nat.reduceSub, Int.reduceToNat, Int.reduceLT, Int.reduceLE, Int.reduceAdd, Int.reduceSub, Int.reduceMul, Int.reduceGT, Int.reduceGE, Int.reduceEq, Int.reduceNe, Int.reduceNeg]
      exact rfl
    rintro ⟨i, o⟩ ⟨hi, hJ⟩
    dsimp only at hi hJ
    simp (disch := first | omega | (simp only [ZL] <;> omega)) only [Z, Op.callOf, bslE, nilE, mslE, fadE, AV.cells, AV.isBot, AV.one, AV.flat, flatL, ids1, ids2, idsX, AV.lt, ltL, AObj.lt, finE, reduceCtorEq, reduceIte, Nat.reduceEqDiff, Nat.reduceAdd, Nat.reduceLeDiff, Nat.reduceMul, Nat.reduceLT, Nat.reduceBEq, Nat.reduceSub, Int.reduceToNat, Int.reduceLT, Int.reduceLE, Int.reduceAdd, Int.reduceSub, Int.reduceMul, Int.reduceGT, Int.reduceGE, Int.reduceEq, Int.reduceNe, Int.reduceNeg]
    refine condG_p (fun e => ?_) (fun e => ?_)
    · have hi' : i < xs.length := by omega
      have hiy : i < ys.length := by omega
      rw [List.drop_eq_getElem_cons hi', outR, ← getD_lt xs i 0 hi'] at hJ
      simp (disch := first | omega | (simp only [ZL] <;> omega)) only [Z, Op.callOf, bslE, nilE, mslE, fadE, AV.cells, AV.isBot, AV.one, AV.flat, flatL, ids1, ids2, idsX, AV.lt, ltL, AObj.lt, finE, reduceCtorEq, reduceIte, Nat.reduceEqDiff, Nat.reduceAdd, Nat.reduceLeDiff, Nat.reduceMul, Nat.reduceLT, Nat.reduceBEq, Nat.reduceSub, Int.reduceToNat, Int.reduceLT, Int.reduceLE, Int.reduceAdd, Int.reduceSub, Int.reduceMul, Int.reduceGT, Int.reduceGE, Int.reduceEq, Int.reduceNe, Int.reduceNeg, encB_len, encB_at]
      refine loopF mixed (fun p : Nat × UInt8 => mk [(0, .sl 1 (encB xs)), (1, .sl 1 (encB ys)), (2, .int .u8 x.toNat), (8, .int .u8 o.toNat), (17, .sl 1 (encB xs)), (18, .int .i64 xs.length), (19, .int .i64 i),
          (9, .int .i64 i), (10, .int .u8 p.2.toNat), (26, .sl 1 (encB xs)), (27, .int .i64 xs.length), (28, .int .i64 p.1)] [] 0)
        (fun p => p.1 ≤ xs.length ∧ partR i (xs.getD i 0) x p.1 (xs.drop p.1) p.2 = partR i (xs.getD i 0) x 0 xs (ys.getD i 0)) (fun p => xs.length - p.1) (0, ys.getD i 0) 400 rfl rfl ⟨by simp, rfl⟩ ?_ ?_
      · refine less_mk (by simp) (by simp) ?_ ?_ <;> simp (disch := first | omega | (simp only [ZL] <;> omega)) only [Z, Op.callOf, bslE, nilE, mslE, fadE, AV.cells, AV.isBot, AV.one, AV.flat, flatL, ids1, ids2, idsX, AV.lt, ltL, AObj.lt, finE, reduceCtorEq, reduceIte, Nat.reduceEqDiff, Nat.reduceAdd, Nat.reduceLeDiff, Nat.reduceMul, Nat.reduceLT, Nat.reduceBEq, Nat.reduceSub, Int.reduceToNat, Int.reduceLT, Int.reduceLE, Int.reduceAdd, Int.reduceSub, Int.reduceMul, Int.reduceGT, Int.reduceGE, Int.reduceEq, Int.reduceNe, Int.reduceNeg]
      rintro ⟨k, p⟩ ⟨hk, hP⟩
      dsimp only at hk hP
      simp (disch := first | omega | (simp only [ZL] <;> omega)) only [Z, Op.callOf, bslE, nilE, mslE, fadE, AV.cells, AV.isBot, AV.one, AV.flat, flatL, ids1, ids2, idsX, AV.lt, ltL, AObj.lt, finE, reduceCtorEq, reduceIte, Nat.reduceEqDiff, Nat.reduceAdd, Nat.reduceLeDiff, Nat.reduceMul, Nat.reduceLT, Nat.reduceBEq, Nat.reduceSub, Int.reduceToNat, Int.reduceLT, Int.reduceLE, Int.reduceAdd, Int.reduceSub, Int.reduceMul, Int.reduceGT, Int.reduceGE, Int.reduceEq, Int.reduceNe, Int.reduceNeg]
      refine condG_p (fun e2 => ?_) (fun e2 => ?_)
      · have hk' : k < xs.length := by omega
        rw [List.drop_eq_getElem_cons hk', partR, ← getD_lt xs k 0 hk'] at hP
        by_cases a1 : k = i
        · rw [if_pos a1] at hP
          simp (disch := first | omega | (simp only [ZL] <;> omega)) only [Z, Op.callOf, bslE, nilE, mslE, fadE, AV.cells, AV.isBot, AV.one, AV.flat, flatL, ids1, ids2, idsX, AV.lt, ltL, AObj.lt, finE, reduceCtorEq, reduceIte, Nat.reduceEqDiff, Nat.reduceAdd, Nat.reduceLeDiff, Nat.reduceMul, Nat.reduceLT, Nat.reduceBEq, Nat.reduceSub, Int.reduceToNat, Int.reduceLT, Int.reduceLE, Int.reduceAdd, Int.reduceSub, Int.reduceMul, Int.reduceGT, Int.reduceGE, Int.reduceEq, Int.reduceNe, Int.reduceNeg, nat_ieq k i, a1]
          refine okK_of (by kernel_rfl) ?_
          simp (disch := first | omega | (simp only [ZL] <;> omega)) only [Z, Op.callOf, bslE, nilE, mslE, fadE, AV.cells, AV.isBot, AV.one, AV.flat, flatL, ids1, ids2, idsX, AV.lt, ltL, AObj.lt, finE, reduceCtorEq, reduceIte, Nat.reduceEqDiff, Nat.reduceAdd, Nat.reduceLeDiff, Nat.reduceMul, Nat.reduceLT, Nat.reduceBEq, Nat.reduceSub, Int.reduceToNat, Int.reduceLT, Int.reduceLE, Int.reduceAdd, Int.reduceSub, Int.reduceMul, Int.reduceGT, Int.reduceGE, Int.reduceEq, Int.reduceNe, Int.reduceNeg, nat_ieq k i, a1]
          rw [a1] at hP
          refine finR_of (i + 1, p) ⟨by dsimp only; omega, hP⟩ (by dsimp only; omega) ?_
          refine less_mk (by simp) (by simp) ?_ ?_ <;> simp (disch := first | omega | (simp only [ZL] <;> omega)) only [Z, Op.callOf, bslE, nilE, mslE, fadE, AV.cells, AV.isBot, AV.one, AV.flat, flatL, ids1, ids2, idsX, AV.lt, ltL, AObj.lt, finE, reduceCtorEq, reduceIte, Nat.reduceEqDiff, Nat.reduceAdd, Nat.reduceLeDiff, Nat.reduceMul, Nat.reduceLT, Nat.reduceBEq, Nat.reduceSub, Int.reduceToNat, Int.reduceLT, Int.reduceLE, Int.reduceAdd, Int.reduceSub, Int.reduceMul, Int.reduceGT, Int.reduceGE, Int.reduceEq, Int.reduceNe, Int.reduceNeg, i64_add1]
        · rw [if_neg a1] at hP
          by_cases a2 : xs.getD k 0 = xs.getD i 0
          · rw [if_pos a2] at hP
            rw [← hP] at hJ
            simp (disch := first | omega | (simp only [ZL] <;> omega)) only [Z, Op.callOf, bslE, nilE, mslE, fadE, AV.cells, AV.isBot, AV.one, AV.flat, flatL, ids1, ids2, idsX, AV.lt, ltL, AObj.lt, finE, reduceCtorEq, reduceIte, Nat.reduceEqDiff, Nat.reduceAdd, Nat.reduceLeDiff, Nat.reduceMul, Nat.reduceLT, Nat.reduceBEq, Nat.reduceSub, Int.reduceToNat, Int.reduceLT, Int.reduceLE, Int.reduceAdd, Int.reduceSub, Int.reduceMul, Int.reduceGT, Int.reduceGE, Int.reduceEq, Int.reduceNe, Int.reduceNeg, nat_ieq k i, a1, encB_len, encB_at, u8_ieq, a2]
            refine okK_of (by kernel_rfl) ?_
            simp (disch := first | omega | (simp only [ZL] <;> omega)) only [Z, Op.callOf, bslE, nilE, mslE, fadE, AV.cells, AV.isBot, AV.one, AV.flat, flatL, ids1, ids2, idsX, AV.lt, ltL, AObj.lt, finE, reduceCtorEq, reduceIte, Nat.reduceEqDiff, Nat.reduceAdd, Nat.reduceLeDiff, Nat.reduceMul, Nat.reduceLT, Nat.reduceBEq, Nat.reduceSub, Int.reduceToNat, Int.reduceLT, Int.reduceLE, Int.reduceAdd, Int.reduceSub, Int.reduceMul, Int.reduceGT, Int.reduceGE, Int.reduceEq, Int.reduceNe, Int.reduceNeg]
            rw [← hJ]
            repeat' first | exact Sub.rfl' _ | exact sub_nils _ | exact SubL.nil | refine sub_tup ?_ | refine sub_agg ?_ | refine SubL.cons ?_ ?_
          · rw [if_neg a2] at hP
            simp (disch := first | omega | (simp only [ZL] <;> omega)) only [Z, Op.callOf, bslE, nilE, mslE, fadE, AV.cells, AV.isBot, AV.one, AV.flat, flatL, ids1, ids2, idsX, AV.lt, ltL, AObj.lt, finE, reduceCtorEq, reduceIte, Nat.reduceEqDiff, Nat.reduceAdd, Nat.reduceLeDiff, Nat.reduceMul, Nat.reduceLT, Nat.reduceBEq, Nat.reduceSub, Int.reduceToNat, Int.reduceLT, Int.reduceLE, Int.reduceAdd, Int.reduceSub, Int.reduceMul, Int.reduceGT, Int.reduceGE, Int.reduceEq, Int.reduceNe, Int.reduceNeg, nat_ieq k i, a1, encB_len, encB_at, u8_ieq, a2]
            refine okK_of (by kernel_rfl) ?_
            simp (disch := first | omega | (simp only [ZL] <;> omega)) only [Z, Op.callOf, bslE, nilE, mslE, fadE, AV.cells, AV.isBot, AV.one, AV.flat, flatL, ids1, ids2, idsX, AV.lt, ltL, AObj.lt, finE, reduceCtorEq, reduceIte, Nat.reduceEqDiff, Nat.reduceAdd, Nat.reduceLeDiff, Nat.reduceMul, Nat.reduceLT, Nat.reduceBEq, Nat.reduceSub, Int.reduceToNat, Int.reduceLT, Int.reduceLE, Int.reduceAdd, Int.reduceSub, Int.reduceMul, Int.reduceGT, Int.reduceGE, Int.reduceEq, Int.reduceNe, Int.reduceNeg, nat_ieq k i, a1, encB_len, encB_at]
            refine callD_pure (rinv_c _) (by simp [ltL, AV.lt]) ?_
            simp (disch := first | omega | (simp only [ZL] <;> omega)) only [Z, Op.callOf, bslE, nilE, mslE, fadE, AV.cells, AV.isBot, AV.one, AV.flat, flatL, ids1, ids2, idsX, AV.lt, ltL, AObj.lt, finE, reduceCtorEq, reduceIte, Nat.reduceEqDiff, Nat.reduceAdd, Nat.reduceLeDiff, Nat.reduceMul, Nat.reduceLT, Nat.reduceBEq, Nat.reduceSub, Int.reduceToNat, Int.reduceLT, Int.reduceLE, Int.reduceAdd, Int.reduceSub, Int.reduceMul, Int.reduceGT, Int.reduceGE, Int.reduceEq, Int.reduceNe, Int.reduceNeg]
            refine callD_pure (rmul_c _ _) (by simp [ltL, AV.lt]) ?_
            simp (disch := first | omega | (simp only [ZL] <;> omega)) only [Z, Op.callOf, bslE, nilE, mslE, fadE, AV.cells, AV.isBot, AV.one, AV.flat, flatL, ids1, ids2, idsX, AV.lt, ltL, AObj.lt, finE, reduceCtorEq, reduceIte, Nat.reduceEqDiff, Nat.reduceAdd, Nat.reduceLeDiff, Nat.reduceMul, Nat.reduceLT, Nat.reduceBEq, Nat.reduceSub, Int.reduceToNat, Int.reduceLT, Int.reduceLE, Int.reduceAdd, Int.reduceSub, Int.reduceMul, Int.reduceGT, Int.reduceGE, Int.reduceEq, Int.reduceNe, Int.reduceNeg]
            refine callD_pure (rmul_c _ _) (by simp [ltL, AV.lt]) ?_
            simp (disch := first | omega | (simp only [ZL] <;> omega)) only [Z, Op.callOf, bslE, nilE, mslE, fadE, AV.cells, AV.isBot, AV.one, AV.flat, flatL, ids1, ids2, idsX, AV.lt, ltL, AObj.lt, finE, reduceCtorEq, reduceIte, Nat.reduceEqDiff, Nat.reduceAdd, Nat.reduceLeDiff, Nat.reduceMul, Nat.reduceLT, Nat.reduceBEq, Nat.reduceSub, Int.reduceToNat, Int.reduceLT, Int.reduceLE, Int.reduceAdd, Int.reduceSub, Int.reduceMul, Int.reduceGT, Int.reduceGE, Int.reduceEq, Int.reduceNe, Int.reduceNeg]
            refine okK_of (by kernel_rfl) ?_
            simp (disch := first | omega | (simp only [ZL] <;> omega)) only [Z, Op.callOf, bslE, nilE, mslE, fadE, AV.cells, AV.isBot, AV.one, AV.flat, flatL, ids1, ids2, idsX, AV.lt, ltL, AObj.lt, finE, reduceCtorEq, reduceIte, Nat.reduceEqDiff, Nat.reduceAdd, Nat.reduceLeDiff, Nat.reduceMul, Nat.reduceLT, Nat.reduceBEq, Nat.reduceSub, Int.reduceToNat, Int.reduceLT, Int.reduceLE, Int.reduceAdd, Int.reduceSub, Int.reduceMul, Int.reduceGT, Int.reduceGE, Int.reduceEq, Int.reduceNe, Int.reduceNeg]
            refine finR_of (k + 1, gmul p (gmul (x ^^^ xs.getD k 0) (ginv (xs.getD i 0 ^^^ xs.getD k 0)))) ⟨by dsimp only; omega, hP⟩ (by dsimp only; omega) ?_
            refine less_mk (by simp) (by simp) ?_ ?_ <;> simp (disch := first | omega | (simp only [ZL] <;> omega)) only [Z, Op.callOf, bslE, nilE, mslE, fadE, AV.cells, AV.isBot, AV.one, AV.flat, flatL, ids1, ids2, idsX, AV.lt, ltL, AObj.lt, finE, reduceCtorEq, reduceIte, Nat.reduceEqDiff, Nat.reduceAdd, Nat.reduceLeDiff, Nat.reduceMul, Nat.reduceLT, Nat.reduceBEq, Nat.reduceSub, Int.reduceToNat, Int.reduceLT, Int.reduceLE, Int.reduceAdd, Int.reduceSub, Int.reduceMul, Int.reduceGT, Int.reduceGE, Int.reduceEq, Int.reduceNe, Int.reduceNeg, i64_add1]
      · have : k = xs.length := by omega
        subst this
        rw [List.drop_length, partR] at hP
        rw [← hP] at hJ
        simp (disch := first | omega | (simp only [ZL] <;> omega)) only [Z, Op.callOf, bslE, nilE, mslE, fadE, AV.cells, AV.isBot, AV.one, AV.flat, flatL, ids1, ids2, idsX, AV.lt, ltL, AObj.lt, finE, reduceCtorEq, reduceIte, Nat.reduceEqDiff, Nat.reduceAdd, Nat.reduceLeDiff, Nat.reduceMul, Nat.reduceLT, Nat.reduceBEq, Nat.reduceSub, Int.reduceToNat, Int.reduceLT, Int.reduceLE, Int.reduceAdd, Int.reduceSub, Int.reduceMul, Int.reduceGT, Int.reduceGE, Int.reduceEq, Int.reduceNe, Int.reduceNeg]
        refine finR_of (i + 1, o ^^^ p) ⟨by dsimp only; omega, hJ⟩ (by dsimp only; omega) ?_
        refine less_mk (by simp) (by simp) ?_ ?_ <;> simp (disch := first | omega | (simp only [ZL] <;> omega)) only [Z, Op.callOf, bslE, nilE, mslE, fadE, AV.cells, AV.isBot, AV.one, AV.flat, flatL, ids1, ids2, idsX, AV.lt, ltL, AObj.lt, finE, reduceCtorEq, reduceIte, Nat.reduceEqDiff, Nat.reduceAdd, Nat.reduceLeDiff, Nat.reduceMul, Nat.reduceLT, Nat.reduceBEq, Nat.reduceSub, Int.reduceToNat, Int.reduceLT, Int.reduceLE, Int.reduceAdd, Int.reduceSub, Int.reduceMul, Int.reduceGT, Int.reduceGE, Int.reduceEq, Int.reduceNe, Int.reduceNeg, i64_add1]
    · have : i = xs.length := by omega
      subst this
      rw [List.drop_length, outR] at hJ
      simp (disch := first | omega | (simp only [ZL] <;> omega)) only [Z, Op.callOf, bslE, nilE, mslE, fadE, AV.cells, AV.isBot, AV.one, AV.flat, flatL, ids1, ids2, idsX, AV.lt, ltL, AObj.lt, finE, reduceCtorEq, reduceIte, Nat.reduceEqDiff, Nat.reduceAdd, Nat.reduceLeDiff, Nat.reduceMul, Nat.reduceLT, Nat.reduceBEq, Nat.reduceSub, Int.reduceToNat, Int.reduceLT, Int.reduceLE, Int.reduceAdd, Int.reduceSub, Int.reduceMul, Int.reduceGT, Int.reduceGE, Int.reduceEq, Int.reduceNe, Int.reduceNeg]
      rw [← hJ]
      repeat' first | exact Sub.rfl' _ | exact sub_nils _ | exact SubL.nil | refine sub_tup ?_ | refine sub_agg ?_ | refine SubL.cons ?_ ?_
  · have hf : fldAt xs ys x = (0, false) := by unfold fldAt; rw [if_pos (by intro h; exact c (by omega))]
    rw [hf]
    simp (disch := first | omega | (simp only [ZL] <;> omega)) only [Z, Op.callOf, bslE, nilE, mslE, fadE, AV.cells, AV.isBot, AV.one, AV.flat, flatL, ids1, ids2, idsX, AV.lt, ltL, AObj.lt, finE, reduceCtorEq, reduceIte, Nat.reduceEqDiff, Nat.reduceAdd, Nat.reduceLeDiff, Nat.reduceMul, Nat.reduceLT, Nat.reduceBEq, Nat.reduceSub, Int.reduceToNat, Int.reduceLT, Int.reduceLE, Int.reduceAdd, Int.reduceSub, Int.reduceMul, Int.reduceGT, Int.reduceGE, Int.reduceEq, Int.reduceNe, Int.reduceNeg, encB_len, c]
    repeat' first | exact Sub.rfl' _ | exact sub_nils _ | exact SubL.nil | refine sub_tup ?_ | refine sub_agg ?_ | refine SubL.cons ?_ ?_

end Go.Ab
namespace Go.Ab
open Go Go.Proofs
variable [Glob]
set_option maxHeartbeats 1000000

theorem at_c (xs ys : List UInt8) (x : UInt8) (h1 : xs.length < 1000) (h2 : ys.length < 2^40) : APure Tryz.prog 133 [.sl 1 (encB xs), .sl 1 (encB ys), .int .u8 x.toNat] (.tup [.int .u8 (fldAt xs ys x).1.toNat, .bool (fldAt xs ys x).2]) := by
  refine apure_fin mixed [] 400 Tryz.func133 Tryz.ntmps133 Tryz.results133 rfl rfl (by simp) rfl ?_
  by_cases c : (xs.length : Int) = (ys.length : Int)
  · have c' : xs.length = ys.length := by omega
    have hf : fldAt xs ys x = match outR xs ys x 0 xs 0 with | none => (0, false) | some o => (o, true) := by unfold fldAt; rw [if_neg (by simpa using c')]; try (cases outR xs ys x 0 xs 0 <;> rfl)
    rw [hf]
    simp (disch := first | omega | (simp only [ZL] <;> omega)) only [Z, Op.callOf, bslE, nilE, mslE, fadE, AV.cells, AV.isBot, AV.one, AV.flat, flatL, ids1, ids2, idsX, AV.lt, ltL, AObj.lt, finE, reduceCtorEq, reduceIte, Nat.reduceEqDiff, Nat.reduceAdd, Nat.reduceLeDiff, Nat.reduceMul, Nat.reduceLT, Nat.reduceBEq, Nat.reduceSub, Int.reduceToNat, Int.reduceLT, Int.reduceLE, Int.reduceAdd, Int.reduceSub, Int.reduceMul, Int.reduceGT, Int.reduceGE, Int.reduceEq, Int.reduceNe, Int.reduceNeg, encB_len, c]
    rw [← c]
    refine loopF mixed (fun p : Nat × UInt8 => mk [(0, .sl 1 (encB xs)), (1, .sl 1 (encB ys)), (2, .int .u8 x.toNat), (8, .int .u8 p.2.toNat), (19, .sl 1 (encB xs)), (20, .int .i64 xs.length), (21, .int .i64 p.1)] [] 0)
      (fun p => p.1 ≤ xs.length ∧ outR xs ys x p.1 (xs.drop p.1) p.2 = outR xs ys x 0 xs 0) (fun p => xs.length - p.1) (0, 0) 400 rfl rfl ⟨by simp, rfl⟩ ?_ ?_
    · refine less_mk (by simp) (by simp) ?_ ?_ <;> simp (disch := first | omega | (simp only [ZL] <;> omega)) only [Z, Op.callOf, bslE, nilE, mslE, fadE, AV.cells, AV.isBot, AV.one, AV.flat, flatL, ids1, ids2, idsX, AV.lt, ltL, AObj.lt, finE, reduceCtorEq, reduceIte, Nat.reduceEqDiff, Nat.reduceAdd, Nat.reduceLeDiff, Nat.reduceMul, Nat.reduceLT, Nat.reduceBEq, Nat.reduceSub, Int.reduceToNat, Int.reduceLT, Int.reduceLE, Int.reduceAdd, Int.reduceSub, Int.reduceMul, Int.reduceGT, Int.reduceGE, Int.reduceEq, Int.reduceNe, Int.reduceNeg]
      exact rfl
    rintro ⟨i, o⟩ ⟨hi, hJ⟩
    dsimp only at hi hJ
    simp (disch := first | omega | (simp only [ZL] <;> omega)) only [Z, Op.callOf, bslE, nilE, mslE, fadE, AV.cells, AV.isBot, AV.one, AV.flat, flatL, ids1, ids2, idsX, AV.lt, ltL, AObj.lt, finE, reduceCtorEq, reduceIte, Nat.reduceEqDiff, Nat.reduceAdd, Nat.reduceLeDiff, Nat.reduceMul, Nat.reduceLT, Nat.reduceBEq, Nat.reduceSub, Int.reduceToNat, Int.reduceLT, Int.reduceLE, Int.reduceAdd, Int.reduceSub, Int.reduceMul, Int.reduceGT, Int.reduceGE, Int.reduceEq, Int.reduceNe, Int.reduceNeg]
    refine condG_p (fun e => ?_) (fun e => ?_)
    · have hi' : i < xs.length := by omega
      have hiy : i < ys.length := by omega
      rw [List.drop_eq_getElem_cons hi', outR, ← getD_lt xs i 0 hi'] at hJ
      simp (disch := first | omega | (simp only [ZL] <;> omega)) only [Z, Op.callOf, bslE, nilE, mslE, fadE, AV.cells, AV.isBot, AV.one, AV.flat, flatL, ids1, ids2, idsX, AV.lt, ltL, AObj.lt, finE, reduceCtorEq, reduceIte, Nat.reduceEqDiff, Nat.reduceAdd, Nat.reduceLeDiff, Nat.reduceMul, Nat.reduceLT, Nat.reduceBEq, Nat.reduceSub, Int.reduceToNat, Int.reduceLT, Int.reduceLE, Int.reduceAdd, Int.reduceSub, Int.reduceMul, Int.reduceGT, Int.reduceGE, Int.reduceEq, Int.reduceNe, Int.reduceNeg, encB_len, encB_at]
      refine loopF mixed (fun p : Nat × UInt8 => mk [(0, .sl 1 (encB xs)), (1, .sl 1 (encB ys)), (2, .int .u8 x.toNat), (8, .int .u8 o.toNat), (19, .sl 1 (encB xs)), (20, .int .i64 xs.length), (21, .int .i64 i),
          (9, .int .i64 i), (10, .int .u8 (xs.getD i 0).toNat), (11, .int .u8 p.2.toNat), (30, .sl 1 (encB xs)), (31, .int .i64 xs.length), (32, .int .i64 p.1)] [] 0)
        (fun p => p.1 ≤ xs.length ∧ partR i (xs.getD i 0) x p.1 (xs.drop p.1) p.2 = partR i (xs.getD i 0) x 0 xs (ys.getD i 0)) (fun p => xs.length - p.1) (0, ys.getD i 0) 400 rfl rfl ⟨by simp, rfl⟩ ?_ ?_
      · refine less_mk (by simp) (by simp) ?_ ?_ <;> simp (disch := first | omega | (simp only [ZL] <;> omega)) only [Z, Op.callOf, bslE, nilE, mslE, fadE, AV.cells, AV.isBot, AV.one, AV.flat, flatL, ids1, ids2, idsX, AV.lt, ltL, AObj.lt, finE, reduceCtorEq, reduceIte, Nat.reduceEqDiff, Nat.reduceAdd, Nat.reduceLeDiff, Nat.reduceMul, Nat.reduceLT, Nat.reduceBEq, Nat.reduceSub, Int.reduceToNat, Int.reduceLT, Int.reduceLE, Int.reduceAdd, Int.reduceSub, Int.reduceMul, Int.reduceGT, Int.reduceGE, Int.reduceEq, Int.reduceNe, Int.reduceNeg]
      rintro ⟨k, p⟩ ⟨hk, hP⟩
      dsimp only at hk hP
      simp (disch := first | omega | (simp only [ZL] <;> omega)) only [Z, Op.callOf, bslE, nilE, mslE, fadE, AV.cells, AV.isBot, AV.one, AV.flat, flatL, ids1, ids2, idsX, AV.lt, ltL, AObj.lt, finE, reduceCtorEq, reduceIte, Nat.reduceEqDiff, Nat.reduceAdd, Nat.reduceLeDiff, Nat.reduceMul, Nat.reduceLT, Nat.reduceBEq, Nat.reduceSub, Int.reduceToNat, Int.reduceLT, Int.reduceLE, Int.reduceAdd, Int.reduceSub, Int.reduceMul, Int.reduceGT, Int.reduceGE, Int.reduceEq, Int.reduceNe, Int.reduceNeg]
      refine condG_p (fun e2 => ?_) (fun e2 => ?_)
      · have hk' : k < xs.length := by omega
        rw [List.drop_eq_getElem_cons hk', partR, ← getD_lt xs k 0 hk'] at hP
        by_cases a1 : k = i
        · rw [if_pos a1] at hP
          have a1t : (k = i) = True := eq_true a1
          simp (disch := first | omega | (simp only [ZL] <;> omega)) only [Z, Op.callOf, bslE, nilE, mslE, fadE, AV.cells, AV.isBot, AV.one, AV.flat, flatL, ids1, ids2, idsX, AV.lt, ltL, AObj.lt, finE, reduceCtorEq, reduceIte, Nat.reduceEqDiff, Nat.reduceAdd, Nat.reduceLeDiff, Nat.reduceMul, Nat.reduceLT, Nat.reduceBEq, Nat.reduceSub, Int.reduceToNat, Int.reduceLT, Int.reduceLE, Int.reduceAdd, Int.reduceSub, Int.reduceMul, Int.reduceGT, Int.reduceGE, Int.reduceEq, Int.reduceNe, Int.reduceNeg, nat_ieq k i, a1t, encB_len, encB_at]
          refine finR_of (k + 1, p) ⟨by dsimp only; omega, hP⟩ (by dsimp only; omega) ?_
          refine less_mk (by simp) (by simp) ?_ ?_ <;> simp (disch := first | omega | (simp only [ZL] <;> omega)) only [Z, Op.callOf, bslE, nilE, mslE, fadE, AV.cells, AV.isBot, AV.one, AV.flat, flatL, ids1, ids2, idsX, AV.lt, ltL, AObj.lt, finE, reduceCtorEq, reduceIte, Nat.reduceEqDiff, Nat.reduceAdd, Nat.reduceLeDiff, Nat.reduceMul, Nat.reduceLT, Nat.reduceBEq, Nat.reduceSub, Int.reduceToNat, Int.reduceLT, Int.reduceLE, Int.reduceAdd, Int.reduceSub, Int.reduceMul, Int.reduceGT, Int.reduceGE, Int.reduceEq, Int.reduceNe, Int.reduceNeg, i64_add1]
        · rw [if_neg a1] at hP
          by_cases a2 : xs.getD k 0 = xs.getD i 0
          · rw [if_pos a2] at hP
            rw [← hP] at hJ
            have a2t : (xs.getD k 0 = xs.getD i 0) = True := eq_true a2
            simp (disch := first | omega | (simp only [ZL] <;> omega)) only [Z, Op.callOf, bslE, nilE, mslE, fadE, AV.cells, AV.isBot, AV.one, AV.flat, flatL, ids1, ids2, idsX, AV.lt, ltL, AObj.lt, finE, reduceCtorEq, reduceIte, Nat.reduceEqDiff, Nat.reduceAdd, Nat.reduceLeDiff, Nat.reduceMul, Nat.reduceLT, Nat.reduceBEq, Nat.reduceSub, Int.reduceToNat, Int.reduceLT, Int.reduceLE, Int.reduceAdd, Int.reduceSub, Int.reduceMul, Int.reduceGT, Int.reduceGE, Int.reduceEq, Int.reduceNe, Int.reduceNeg, nat_ieq k i, a1, encB_len, encB_at, u8_ieq, a2t]
            rw [← hJ]
            repeat' first | exact Sub.rfl' _ | exact sub_nils _ | exact SubL.nil | refine sub_tup ?_ | refine sub_agg ?_ | refine SubL.cons ?_ ?_
          · rw [if_neg a2] at hP
            simp (disch := first | omega | (simp only [ZL] <;> omega)) only [Z, Op.callOf, bslE, nilE, mslE, fadE, AV.cells, AV.isBot, AV.one, AV.flat, flatL, ids1, ids2, idsX, AV.lt, ltL, AObj.lt, finE, reduceCtorEq, reduceIte, Nat.reduceEqDiff, Nat.reduceAdd, Nat.reduceLeDiff, Nat.reduceMul, Nat.reduceLT, Nat.reduceBEq, Nat.reduceSub, Int.reduceToNat, Int.reduceLT, Int.reduceLE, Int.reduceAdd, Int.reduceSub, Int.reduceMul, Int.reduceGT, Int.reduceGE, Int.reduceEq, Int.reduceNe, Int.reduceNeg, nat_ieq k i, a1, encB_len, encB_at, u8_ieq, a2]
            refine callL_pure (inv_c _) (by simp [ltL, AV.lt]) rfl ?_
            simp (disch := first | omega | (simp only [ZL] <;> omega)) only [Z, Op.callOf, bslE, nilE, mslE, fadE, AV.cells, AV.isBot, AV.one, AV.flat, flatL, ids1, ids2, idsX, AV.lt, ltL, AObj.lt, finE, reduceCtorEq, reduceIte, Nat.reduceEqDiff, Nat.reduceAdd, Nat.reduceLeDiff, Nat.reduceMul, Nat.reduceLT, Nat.reduceBEq, Nat.reduceSub, Int.reduceToNat, Int.reduceLT, Int.reduceLE, Int.reduceAdd, Int.reduceSub, Int.reduceMul, Int.reduceGT, Int.reduceGE, Int.reduceEq, Int.reduceNe, Int.reduceNeg]
            refine callL_pure (mul_c _ _) (by simp [ltL, AV.lt]) rfl ?_
            simp (disch := first | omega | (simp only [ZL] <;> omega)) only [Z, Op.callOf, bslE, nilE, mslE, fadE, AV.cells, AV.isBot, AV.one, AV.flat, flatL, ids1, ids2, idsX, AV.lt, ltL, AObj.lt, finE, reduceCtorEq, reduceIte, Nat.reduceEqDiff, Nat.reduceAdd, Nat.reduceLeDiff, Nat.reduceMul, Nat.reduceLT, Nat.reduceBEq, Nat.reduceSub, Int.reduceToNat, Int.reduceLT, Int.reduceLE, Int.reduceAdd, Int.reduceSub, Int.reduceMul, Int.reduceGT, Int.reduceGE, Int.reduceEq, Int.reduceNe, Int.reduceNeg]
            refine callL_pure (mul_c _ _) (by simp [ltL, AV.lt]) rfl ?_
            simp (disch := first | omega | (simp only [ZL] <;> omega)) only [Z, Op.callOf, bslE, nilE, mslE, fadE, AV.cells, AV.isBot, AV.one, AV.flat, flatL, ids1, ids2, idsX, AV.lt, ltL, AObj.lt, finE, reduceCtorEq, reduceIte, Nat.reduceEqDiff, Nat.reduceAdd, Nat.reduceLeDiff, Nat.reduceMul, Nat.reduceLT, Nat.reduceBEq, Nat.reduceSub, Int.reduceToNat, Int.reduceLT, Int.reduceLE, Int.reduceAdd, Int.reduceSub, Int.reduceMul, Int.reduceGT, Int.reduceGE, Int.reduceEq, Int.reduceNe, Int.reduceNeg]
            refine finR_of (k + 1, gmul p (gmul (x ^^^ xs.getD k 0) (ginv (xs.getD i 0 ^^^ xs.getD k 0)))) ⟨by dsimp only; omega, hP⟩ (by dsimp only; omega) ?_
            refine less_mk (by simp) (by simp) ?_ ?_ <;> simp (disch := first | omega | (simp only [ZL] <;> omega)) only [Z, Op.callOf, bslE, nilE, mslE, fadE, AV.cells, AV.isBot, AV.one, AV.flat, flatL, ids1, ids2, idsX, AV.lt, ltL, AObj.lt, finE, reduceCtorEq, reduceIte, Nat.reduceEqDiff, Nat.reduceAdd, Nat.reduceLeDiff, Nat.reduceMul, Nat.reduceLT, Nat.reduceBEq, Nat.reduceSub, Int.reduceToNat, Int.reduceLT, Int.reduceLE, Int.reduceAdd, Int.reduceSub, Int.reduceMul, Int.reduceGT, Int.reduceGE, Int.reduceEq, Int.reduceNe, Int.reduceNeg, i64_add1]
      · have : k = xs.length := by omega
        subst this
        rw [List.drop_length, partR] at hP
        rw [← hP] at hJ
        simp (disch := first | omega | (simp only [ZL] <;> omega)) only [Z, Op.callOf, bslE, nilE, mslE, fadE, AV.cells, AV.isBot, AV.one, AV.flat, flatL, ids1, ids2, idsX, AV.lt, ltL, AObj.lt, finE, reduceCtorEq, reduceIte, Nat.reduceEqDiff, Nat.reduceAdd, Nat.reduceLeDiff, Nat.reduceMul, Nat.reduceLT, Nat.reduceBEq, Nat.reduceSub, Int.reduceToNat, Int.reduceLT, Int.reduceLE, Int.reduceAdd, Int.reduceSub, Int.reduceMul, Int.reduceGT, Int.reduceGE, Int.reduceEq, Int.reduceNe, Int.reduceNeg]
        refine finR_of (i + 1, o ^^^ p) ⟨by dsimp only; omega, hJ⟩ (by dsimp only; omega) ?_
        refine less_mk (by simp) (by simp) ?_ ?_ <;> simp (disch := first | omega | (simp only [ZL] <;> omega)) only [Z, Op.callOf, bslE, nilE, mslE, fadE, AV.cells, AV.isBot, AV.one, AV.flat, flatL, ids1, ids2, idsX, AV.lt, ltL, AObj.lt, finE, reduceCtorEq, reduceIte, Nat.reduceEqDiff, Nat.reduceAdd, Nat.reduceLeDiff, Nat.reduceMul, Nat.reduceLT, Nat.reduceBEq, Nat.reduceSub, Int.reduceToNat, Int.reduceLT, Int.reduceLE, Int.reduceAdd, Int.reduceSub, Int.reduceMul, Int.reduceGT, Int.reduceGE, Int.reduceEq, Int.reduceNe, Int.reduceNeg, i64_add1]
    · have : i = xs.length := by omega
      subst this
      rw [List.drop_length, outR] at hJ
      simp (disch := first | omega | (simp only [ZL] <;> omega)) only [Z, Op.callOf, bslE, nilE, mslE, fadE, AV.cells, AV.isBot, AV.one, AV.flat, flatL, ids1, ids2, idsX, AV.lt, ltL, AObj.lt, finE, reduceCtorEq, reduceIte, Nat.reduceEqDiff, Nat.reduceAdd, Nat.reduceLeDiff, Nat.reduceMul, Nat.reduceLT, Nat.reduceBEq, Nat.reduceSub, Int.reduceToNat, Int.reduceLT, Int.reduceLE, Int.reduceAdd, Int.reduceSub, Int.reduceMul, Int.reduceGT, Int.reduceGE, Int.reduceEq, Int.reduceNe, Int.reduceNeg]
      rw [← hJ]
      repeat' first | exact Sub.rfl' _ | exact sub_nils _ | exact SubL.nil | refine sub_tup ?_ | refine sub_agg ?_ | refine SubL.cons ?_ ?_
  · have hf : fldAt xs ys x = (0, false) := by unfold fldAt; rw [if_pos (by intro h; exact c (by omega))]
    rw [hf]
    simp (disch := first | omega | (simp only [ZL] <;> omega)) only [Z, Op.callOf, bslE, nilE, mslE, fadE, AV.cells, AV.isBot, AV.one, AV.flat, flatL, ids1, ids2, idsX, AV.lt, ltL, AObj.lt, finE, reduceCtorEq, reduceIte, Nat.reduceEqDiff, Nat.reduceAdd, Nat.reduceLeDiff, Nat.reduceMul, Nat.reduceLT, Nat.reduceBEq, Nat.reduceSub, Int.reduceToNat, Int.reduceLT, Int.reduceLE, Int.reduceAdd, Int.reduceSub, Int.reduceMul, Int.reduceGT, Int.reduceGE, Int.reduceEq, Int.reduceNe, Int.reduceNeg, encB_len, c]
    repeat' first | exact Sub.rfl' _ | exact sub_nils _ | exact SubL.nil | refine sub_tup ?_ | refine sub_agg ?_ | refine SubL.cons ?_ ?_

end Go.Ab
namespace Go.Ab
open Go Go.Proofs
def readR : Nat → Nat → List UInt8 → Nat × Nat × Int
  | _, _, [] => (0, 0, 4)
  | i, n, x :: r => if (i = 3 ∧ 128 ≤ x.toNat) ∨ (0 < i ∧ x.toNat = 0) then (0, 0, 3) else
    if x.toNat < 128 then (n + x.toNat % 128 * 2 ^ (7 * i), i + 1, 0) else readR (i + 1) (n + x.toNat % 128 * 2 ^ (7 * i)) r
def readS (b : List UInt8) : Nat × Nat × Int := readR 0 0 b
def textsR : Nat → List UInt8 → List (List UInt8) → List (List UInt8) × Int
  | 0, _, acc => (acc, 0)
  | f + 1, b, acc => if b = [] then (acc, 0) else
    if (readS b).2.2 ≠ 0 then ([], (readS b).2.2) else if b.length < (readS b).2.1 + (readS b).1 then ([], 4) else
    textsR f (b.drop ((readS b).2.1 + (readS b).1)) (acc ++ [(b.drop (readS b).2.1).take (readS b).1])
def textsS (b : List UInt8) : List (List UInt8) × Int := textsR b.length b []
def encT (l : List (List UInt8)) : List (List AV) := l.map fun s => [.str s]
theorem sh_c (i : Nat) (x : UInt8) (h : i ≤ 3) : IntKind.i64.wrap (Int.tmod (x.toNat : Int) 128 * 2 ^ (min (7 * i) IntKind.i64.bits)) = ((x.toNat % 128 * 2 ^ (7 * i) : Nat) : Int) := by
  have hx := x.toNat_lt
  have e : Int.tmod (x.toNat : Int) 128 = ((x.toNat % 128 : Nat) : Int) := by
    rw [Int.tmod_eq_emod_of_nonneg (by omega)]; omega
  rw [e, IntKind.wrap_i64]
  match i, h with
  | 0, _ => simp [IntKind.bits]; omega
  | 1, _ => simp [IntKind.bits]; omega
  | 2, _ => simp [IntKind.bits]; omega
  | 3, _ => simp [IntKind.bits]; omega
theorem pow_le (i : Nat) (h : i ≤ 3) : 2 ^ (7 * i) ≤ 2097152 ∧ 2 ^ (7 * (i + 1)) = 128 * 2 ^ (7 * i) := by
  match i, h with
  | 0, _ => decide
  | 1, _ => decide
  | 2, _ => decide
  | 3, _ => decide
theorem readR_le : ∀ (b : List UInt8) (i n : Nat), i ≤ 3 → n < 2 ^ (7 * i) → (readR i n b).2.1 ≤ i + b.length ∧ (readR i n b).1 < 2 ^ 28 ∧ ((readR i n b).2.2 = 0 → i < (readR i n b).2.1) ∧ 0 ≤ (readR i n b).2.2 ∧ (readR i n b).2.2 ≤ 4
  | [], i, n, _, _ => by simp [readR]
  | x :: r, i, n, hi, hn => by
    have hx := x.toNat_lt
    have hp := pow_le i hi
    have hb : n + x.toNat % 128 * 2 ^ (7 * i) < 2 ^ (7 * (i + 1)) := by
      rw [hp.2]
      have : x.toNat % 128 * 2 ^ (7 * i) ≤ 127 * 2 ^ (7 * i) := Nat.mul_le_mul_right _ (by omega)
      omega
    have hb2 : 2 ^ (7 * (i + 1)) ≤ 2 ^ 28 := Nat.pow_le_pow_right (by decide) (by omega)
    rw [readR]
    split
    · simp
    · rename_i h1
      split
      · refine ⟨by simp, by dsimp only; omega, fun _ => by simp, by simp, by simp⟩
      · rename_i h2
        have hi2 : i + 1 ≤ 3 := by
          rcases Nat.lt_or_ge i 3 with h | h
          · omega
          · exact absurd (.inl ⟨by omega, by omega⟩) h1
        obtain ⟨a1, a2, a3, a4, a5⟩ := readR_le r (i + 1) _ hi2 hb
        exact ⟨by simp only [List.length_cons]; omega, a2, fun h => by have := a3 h; omega, a4, a5⟩
theorem readS_le (b : List UInt8) : (readS b).2.1 ≤ b.length ∧ (readS b).1 < 268435456 ∧ ((readS b).2.2 = 0 → 0 < (readS b).2.1) ∧ 0 ≤ (readS b).2.2 ∧ (readS b).2.2 ≤ 4 := by
  have := readR_le b 0 0 (by decide) (by decide)
  simpa [readS] using this
variable [Glob]
set_option maxHeartbeats 400000

theorem read_c (b : List UInt8) (h1 : b.length < 2^40) : APure Tryz.prog 130 [.str b] (.tup [.int .i64 (readS b).1, .int .i64 (readS b).2.1, .int .i64 (readS b).2.2]) := by
  refine apure_fin mixed [] 400 Tryz.func130 Tryz.ntmps130 Tryz.results130 rfl rfl (by simp) rfl ?_
  simp (disch := first | omega | (simp only [ZL] <;> omega)) only [Z, Op.callOf, bslE, nilE, mslE, fadE, AV.cells, AV.isBot, AV.one, AV.flat, flatL, ids1, ids2, idsX, AV.lt, ltL, AObj.lt, finE, sevalprocAttr]
  refine loopF mixed (fun p : Nat × Nat => mk [(0, .str b), (2, .int .i64 p.2), (7, .str b), (8, .int .i64 b.length), (9, .int .i64 p.1)] [] 0)
    (fun p => p.1 ≤ b.length ∧ p.1 ≤ 3 ∧ p.2 < 2 ^ (7 * p.1) ∧ readR p.1 p.2 (b.drop p.1) = readS b) (fun p => b.length - p.1) (0, 0) 400 rfl rfl ⟨by simp, by simp, by decide, by simp [readS]⟩ ?_ ?_
  · refine less_mk (by simp) (by simp) ?_ ?_ <;> simp (disch := first | omega | (simp only [ZL] <;> omega)) only [Z, Op.callOf, bslE, nilE, mslE, fadE, AV.cells, AV.isBot, AV.one, AV.flat, flatL, ids1, ids2, idsX, AV.lt, ltL, AObj.lt, finE, sevalprocAttr]
  rintro ⟨i, n⟩ ⟨hi, h3, hn, hJ⟩
  dsimp only at hi h3 hn hJ
  simp (disch := first | omega | (simp only [ZL] <;> omega)) only [Z, Op.callOf, bslE, nilE, mslE, fadE, AV.cells, AV.isBot, AV.one, AV.flat, flatL, ids1, ids2, idsX, AV.lt, ltL, AObj.lt, finE, sevalprocAttr]
  refine condG_p (fun e => ?_) (fun e => ?_)
  · have hi' : i < b.length := by omega
    rw [List.drop_eq_getElem_cons hi', readR] at hJ
    have hg : b.getD i 0 = b[i] := getD_lt b i 0 hi'
    generalize b[i] = x at hg hJ
    have hx := x.toNat_lt
    have hp := pow_le i h3
    have h7 : (7 : Int) * (i : Int) = ((7 * i : Nat) : Int) := by omega
    have hs := sh_c i x h3
    have hb : n + x.toNat % 128 * 2 ^ (7 * i) < 128 * 2 ^ (7 * i) := by
      have : x.toNat % 128 * 2 ^ (7 * i) ≤ 127 * 2 ^ (7 * i) := Nat.mul_le_mul_right _ (by omega)
      omega
    have c2i : ((128 : Int) ≤ (x.toNat : Int)) = (128 ≤ x.toNat) := propext (by omega)
    have c3i : ((x.toNat : Int) = 0) = (x.toNat = 0) := propext (by omega)
    have c4i : ((x.toNat : Int) < 128) = (x.toNat < 128) := propext (by omega)
    have c1i : ((i : Int) = 3) = (i = 3) := propext (by omega)
    have c0i : ((0 : Int) < (i : Int)) = (0 < i) := propext (by omega)
    by_cases a : (i = 3 ∧ 128 ≤ x.toNat) ∨ (0 < i ∧ x.toNat = 0)
    · simp only [a, if_true] at hJ
      rcases a with ⟨a1, a2⟩ | ⟨a1, a2⟩
      · subst a1
        simp (disch := first | omega | (simp only [ZL] <;> omega)) only [Z, Op.callOf, bslE, nilE, mslE, fadE, AV.cells, AV.isBot, AV.one, AV.flat, flatL, ids1, ids2, idsX, AV.lt, ltL, AObj.lt, finE, sevalprocAttr, hg, c2i, a2]
        rw [← hJ]
        repeat' first | exact Sub.rfl' _ | exact sub_nils _ | exact SubL.nil | refine sub_tup ?_ | refine sub_agg ?_ | refine SubL.cons ?_ ?_
      · by_cases a3 : i = 3
        · have a4 : ¬ 128 ≤ x.toNat := by omega
          subst a3
          simp (disch := first | omega | (simp only [ZL] <;> omega)) only [Z, Op.callOf, bslE, nilE, mslE, fadE, AV.cells, AV.isBot, AV.one, AV.flat, flatL, ids1, ids2, idsX, AV.lt, ltL, AObj.lt, finE, sevalprocAttr, hg, c2i, c3i, a2, a4]
          rw [← hJ]
          repeat' first | exact Sub.rfl' _ | exact sub_nils _ | exact SubL.nil | refine sub_tup ?_ | refine sub_agg ?_ | refine SubL.cons ?_ ?_
        · simp (disch := first | omega | (simp only [ZL] <;> omega)) only [Z, Op.callOf, bslE, nilE, mslE, fadE, AV.cells, AV.isBot, AV.one, AV.flat, flatL, ids1, ids2, idsX, AV.lt, ltL, AObj.lt, finE, sevalprocAttr, hg, c1i, c2i, c3i, c0i, a1, a2, a3]
          rw [← hJ]
          repeat' first | exact Sub.rfl' _ | exact sub_nils _ | exact SubL.nil | refine sub_tup ?_ | refine sub_agg ?_ | refine SubL.cons ?_ ?_
    · simp only [a, if_false] at hJ
      by_cases a3 : i = 3
      · have a4 : ¬ 128 ≤ x.toNat := fun h => a (.inl ⟨a3, h⟩)
        have a5 : ¬ x.toNat = 0 := fun h => a (.inr ⟨by omega, h⟩)
        have a6 : x.toNat < 128 := by omega
        have a7 : 0 < i := by omega
        simp only [a6, if_true] at hJ
        subst a3
        simp (disch := first | omega | (simp only [ZL] <;> omega)) only [Z, Op.callOf, bslE, nilE, mslE, fadE, AV.cells, AV.isBot, AV.one, AV.flat, flatL, ids1, ids2, idsX, AV.lt, ltL, AObj.lt, finE, sevalprocAttr, hg, c2i, c3i, c4i, a4, a5, a6, hs, i64_addn]
        rw [← hJ]
        repeat' first | exact Sub.rfl' _ | exact sub_nils _ | exact SubL.nil | refine sub_tup ?_ | refine sub_agg ?_ | refine SubL.cons ?_ ?_
      · have go : ∀ (hr : ¬ x.toNat < 128), 0 = 0 := fun _ => rfl
        by_cases a7 : 0 < i
        · have a5 : ¬ x.toNat = 0 := fun h => a (.inr ⟨by omega, h⟩)
          by_cases a6 : x.toNat < 128
          · simp only [a6, if_true] at hJ
            simp (disch := first | omega | (simp only [ZL] <;> omega)) only [Z, Op.callOf, bslE, nilE, mslE, fadE, AV.cells, AV.isBot, AV.one, AV.flat, flatL, ids1, ids2, idsX, AV.lt, ltL, AObj.lt, finE, sevalprocAttr, hg, c1i, c2i, c3i, c4i, c0i, a3, a5, a6, a7, h7, hs, i64_addn, i64_add1]
            rw [← hJ]
            repeat' first | exact Sub.rfl' _ | exact sub_nils _ | exact SubL.nil | refine sub_tup ?_ | refine sub_agg ?_ | refine SubL.cons ?_ ?_
          · simp only [a6, if_false] at hJ
            simp (disch := first | omega | (simp only [ZL] <;> omega)) only [Z, Op.callOf, bslE, nilE, mslE, fadE, AV.cells, AV.isBot, AV.one, AV.flat, flatL, ids1, ids2, idsX, AV.lt, ltL, AObj.lt, finE, sevalprocAttr, hg, c1i, c2i, c3i, c4i, c0i, a3, a5, a6, a7, h7, hs, i64_addn, i64_add1]
            refine finR_of (i + 1, n + x.toNat % 128 * 2 ^ (7 * i)) ⟨by dsimp only; omega, by dsimp only; omega, by dsimp only; omega, hJ⟩ (by dsimp only; omega) ?_
            refine less_mk (by simp) (by simp) ?_ ?_ <;> simp (disch := first | omega | (simp only [ZL] <;> omega)) only [Z, Op.callOf, bslE, nilE, mslE, fadE, AV.cells, AV.isBot, AV.one, AV.flat, flatL, ids1, ids2, idsX, AV.lt, ltL, AObj.lt, finE, sevalprocAttr, i64_add1, i64_addn]
        · by_cases a6 : x.toNat < 128
          · simp only [a6, if_true] at hJ
            simp (disch := first | omega | (simp only [ZL] <;> omega)) only [Z, Op.callOf, bslE, nilE, mslE, fadE, AV.cells, AV.isBot, AV.one, AV.flat, flatL, ids1, ids2, idsX, AV.lt, ltL, AObj.lt, finE, sevalprocAttr, hg, c1i, c2i, c3i, c4i, c0i, a3, a6, a7, h7, hs, i64_addn, i64_add1]
            rw [← hJ]
            repeat' first | exact Sub.rfl' _ | exact sub_nils _ | exact SubL.nil | refine sub_tup ?_ | refine sub_agg ?_ | refine SubL.cons ?_ ?_
          · simp only [a6, if_false] at hJ
            simp (disch := first | omega | (simp only [ZL] <;> omega)) only [Z, Op.callOf, bslE, nilE, mslE, fadE, AV.cells, AV.isBot, AV.one, AV.flat, flatL, ids1, ids2, idsX, AV.lt, ltL, AObj.lt, finE, sevalprocAttr, hg, c1i, c2i, c3i, c4i, c0i, a3, a6, a7, h7, hs, i64_addn, i64_add1]
            refine finR_of (i + 1, n + x.toNat % 128 * 2 ^ (7 * i)) ⟨by dsimp only; omega, by dsimp only; omega, by dsimp only; omega, hJ⟩ (by dsimp only; omega) ?_
            refine less_mk (by simp) (by simp) ?_ ?_ <;> simp (disch := first | omega | (simp only [ZL] <;> omega)) only [Z, Op.callOf, bslE, nilE, mslE, fadE, AV.cells, AV.isBot, AV.one, AV.flat, flatL, ids1, ids2, idsX, AV.lt, ltL, AObj.lt, finE, sevalprocAttr, i64_add1, i64_addn]
  · have : i = b.length := by omega
    subst this
    rw [List.drop_length, readR] at hJ
    simp (disch := first | omega | (simp only [ZL] <;> omega)) only [Z, Op.callOf, bslE, nilE, mslE, fadE, AV.cells, AV.isBot, AV.one, AV.flat, flatL, ids1, ids2, idsX, AV.lt, ltL, AObj.lt, finE, sevalprocAttr]
    rw [← hJ]
    repeat' first | exact Sub.rfl' _ | exact sub_nils _ | exact SubL.nil | refine sub_tup ?_ | refine sub_agg ?_ | refine SubL.cons ?_ ?_
end Go.Ab
