import Derived.Test.YthgmopnabpnicaaGreatDoorZ20
set_option linter.all false
namespace Go.Ab
open Go Go.Proofs
theorem dg_q4 (i : Nat) : Int.tdiv (i : Int) 4 = ((i / 4 : Nat) : Int) := by rw [Int.tdiv_eq_ediv_of_nonneg (by omega)]; omega
theorem v32_q (x : UInt32) : IntKind.u32.wrap (Int.tdiv (x.toNat : Int) 256) = ((UInt32.ofNat (x.toNat / 256)).toNat : Int) := by
  have hx := x.toNat_lt
  rw [Int.tdiv_eq_ediv_of_nonneg (by omega), IntKind.wrap_u32]; simp
theorem v32_r (x : UInt32) : Int.tmod (x.toNat : Int) 256 = ((x.toNat % 256 : Nat) : Int) := by
  rw [Int.tmod_eq_emod_of_nonneg (by omega)]; omega
theorem byte_eq (X : UInt32) (m : Nat) (hm : m < 4) : UInt8.ofNat ((UInt32.ofNat (X.toNat / 256 ^ m)).toNat % 256) = UInt8.ofNat (X >>> UInt32.ofNat (8 * m)).toNat := by
  have hX := X.toNat_lt
  apply UInt8.toNat_inj.1
  match m, hm with
  | 0, _ => simp
  | 1, _ => simp [Nat.shiftRight_eq_div_pow]
  | 2, _ => simp [Nat.shiftRight_eq_div_pow]
  | 3, _ => simp [Nat.shiftRight_eq_div_pow]
theorem div_step (X : UInt32) (k : Nat) : UInt32.ofNat ((UInt32.ofNat (X.toNat / 256 ^ k)).toNat / 256) = UInt32.ofNat (X.toNat / 256 ^ (k + 1)) := by
  have hX := X.toNat_lt
  have h : X.toNat / 256 ^ k < 4294967296 := Nat.lt_of_le_of_lt (Nat.div_le_self _ _) hX
  have e : (UInt32.ofNat (X.toNat / 256 ^ k)).toNat = X.toNat / 256 ^ k := by simp; omega
  rw [e, Nat.div_div_eq_div_mul, Nat.pow_succ]
theorem outB_at (g : List UInt32) (i : Nat) (hi : i < 32) : (outB g).getD i 0 = UInt8.ofNat (g.getD (i / 4) 0 >>> UInt32.ofNat (8 * (i % 4))).toNat := by
  simp [outB, List.getD, hi]
variable [Glob] [LibC]
set_option maxHeartbeats 1000000

theorem rdigest_c (h0 : List UInt32) (hh : h0.length = 8) (s : List UInt8) (hs : s.length < 2^40) :
    APure Tryz.prog 128 [.agg (e32 h0), .str s] (.agg (eB (digestS h0 s))) := by
  refine apure_fin mixed [] 400 Tryz.func128 Tryz.ntmps128 Tryz.results128 rfl rfl (by simp) rfl ?_
  simp (disch := first | omega | (simp only [ZL] <;> omega)) only [Z, Op.callOf, bslE, nilE, mslE, fadE, AV.cells, AV.isBot, AV.one, AV.flat, flatL, ids1, ids2, idsX, AV.lt, ltL, AObj.lt, finE, reduceCtorEq, reduceIte, Nat.reduceEqDiff, Nat.reduceAdd, Nat.reduceLeDiff, Nat.reduceMul, Nat.reduceLT, Nat.reduceBEq, Nat.reduceSub, Int.reduceToNat, Int.reduceLT, Int.reduceLE, Int.reduceAdd, Int.reduceSub, Int.reduceMul, Int.reduceGT, Int.reduceGE, Int.reduceEq, Int.reduceNe, Int.reduceNeg, e32_len]
  refine loopF mixed (fun p : Nat × List UInt32 => mk [(1, .str s), (2, .ptr 0 0), (4, .ptr 1 0), (5, .int .i64 p.1)]
      [(0, .box (e32 p.2)), (1, .box (eB (List.replicate 32 0)))] 2)
    (fun p => p.2.length = 8 ∧ p.1 ≤ s.length ∧ digR (s.length - p.1) p.2 p.1 (s.drop p.1) = digR s.length h0 0 s) (fun p => s.length - p.1) (0, h0) 400 rfl rfl ⟨hh, by simp, rfl⟩ ?_ ?_
  · refine less_mk (by simp) (by simp) ?_ ?_ <;> simp (disch := first | omega | (simp only [ZL] <;> omega)) only [Z, Op.callOf, bslE, nilE, mslE, fadE, AV.cells, AV.isBot, AV.one, AV.flat, flatL, ids1, ids2, idsX, AV.lt, ltL, AObj.lt, finE, reduceCtorEq, reduceIte, Nat.reduceEqDiff, Nat.reduceAdd, Nat.reduceLeDiff, Nat.reduceMul, Nat.reduceLT, Nat.reduceBEq, Nat.reduceSub, Int.reduceToNat, Int.reduceLT, Int.reduceLE, Int.reduceAdd, Int.reduceSub, Int.reduceMul, Int.reduceGT, Int.reduceGE, Int.reduceEq, Int.reduceNe, Int.reduceNeg, e32_lt, eB_lt]
    exact rfl
  rintro ⟨n, g⟩ ⟨hg, hn, hJ⟩
  dsimp only at hg hn hJ
  simp (disch := first | omega | (simp only [ZL] <;> omega)) only [Z, Op.callOf, bslE, nilE, mslE, fadE, AV.cells, AV.isBot, AV.one, AV.flat, flatL, ids1, ids2, idsX, AV.lt, ltL, AObj.lt, finE, reduceCtorEq, reduceIte, Nat.reduceEqDiff, Nat.reduceAdd, Nat.reduceLeDiff, Nat.reduceMul, Nat.reduceLT, Nat.reduceBEq, Nat.reduceSub, Int.reduceToNat, Int.reduceLT, Int.reduceLE, Int.reduceAdd, Int.reduceSub, Int.reduceMul, Int.reduceGT, Int.reduceGE, Int.reduceEq, Int.reduceNe, Int.reduceNeg, dg_64]
  by_cases e : (s.length : Int) ≤ ((n + 64 : Nat) : Int)
  · have hle : s.length - n ≤ 64 := by omega
    have hdl : (s.drop n).length = s.length - n := by simp
    simp (disch := first | omega | (simp only [ZL] <;> omega)) only [Z, Op.callOf, bslE, nilE, mslE, fadE, AV.cells, AV.isBot, AV.one, AV.flat, flatL, ids1, ids2, idsX, AV.lt, ltL, AObj.lt, finE, reduceCtorEq, reduceIte, Nat.reduceEqDiff, Nat.reduceAdd, Nat.reduceLeDiff, Nat.reduceMul, Nat.reduceLT, Nat.reduceBEq, Nat.reduceSub, Int.reduceToNat, Int.reduceLT, Int.reduceLE, Int.reduceAdd, Int.reduceSub, Int.reduceMul, Int.reduceGT, Int.reduceGE, Int.reduceEq, Int.reduceNe, Int.reduceNeg, e]
    refine loopF mixed (fun p : Nat => mk [(1, .str s), (2, .ptr 0 0), (4, .ptr 1 0), (5, .int .i64 n), (6, .int .i64 s.length), (7, .bool true), (8, .str (s.drop n ++ List.replicate p 0))]
        [(0, .box (e32 g)), (1, .box (eB (List.replicate 32 0)))] 2)
      (fun p => p ≤ 64 - (s.length - n)) (fun p => 64 - p) 0 400 rfl rfl (by omega) ?_ ?_
    · refine less_mk (by simp) (by simp) ?_ ?_ <;> simp (disch := first | omega | (simp only [ZL] <;> omega)) only [Z, Op.callOf, bslE, nilE, mslE, fadE, AV.cells, AV.isBot, AV.one, AV.flat, flatL, ids1, ids2, idsX, AV.lt, ltL, AObj.lt, finE, reduceCtorEq, reduceIte, Nat.reduceEqDiff, Nat.reduceAdd, Nat.reduceLeDiff, Nat.reduceMul, Nat.reduceLT, Nat.reduceBEq, Nat.reduceSub, Int.reduceToNat, Int.reduceLT, Int.reduceLE, Int.reduceAdd, Int.reduceSub, Int.reduceMul, Int.reduceGT, Int.reduceGE, Int.reduceEq, Int.reduceNe, Int.reduceNeg, e32_lt, eB_lt, List.append_nil]
    intro p hp
    simp (disch := first | omega | (simp only [ZL] <;> omega)) only [Z, Op.callOf, bslE, nilE, mslE, fadE, AV.cells, AV.isBot, AV.one, AV.flat, flatL, ids1, ids2, idsX, AV.lt, ltL, AObj.lt, finE, reduceCtorEq, reduceIte, Nat.reduceEqDiff, Nat.reduceAdd, Nat.reduceLeDiff, Nat.reduceMul, Nat.reduceLT, Nat.reduceBEq, Nat.reduceSub, Int.reduceToNat, Int.reduceLT, Int.reduceLE, Int.reduceAdd, Int.reduceSub, Int.reduceMul, Int.reduceGT, Int.reduceGE, Int.reduceEq, Int.reduceNe, Int.reduceNeg]
    refine condG_p (fun e2 => ?_) (fun e2 => ?_)
    · simp (disch := first | omega | (simp only [ZL] <;> omega)) only [Z, Op.callOf, bslE, nilE, mslE, fadE, AV.cells, AV.isBot, AV.one, AV.flat, flatL, ids1, ids2, idsX, AV.lt, ltL, AObj.lt, finE, reduceCtorEq, reduceIte, Nat.reduceEqDiff, Nat.reduceAdd, Nat.reduceLeDiff, Nat.reduceMul, Nat.reduceLT, Nat.reduceBEq, Nat.reduceSub, Int.reduceToNat, Int.reduceLT, Int.reduceLE, Int.reduceAdd, Int.reduceSub, Int.reduceMul, Int.reduceGT, Int.reduceGE, Int.reduceEq, Int.reduceNe, Int.reduceNeg]
      have e2' : s.length - n + p < 64 := by omega
      refine finR_of (p + 1) (by omega) (by omega) ?_
      have hrep : s.drop n ++ List.replicate p 0 ++ [(0 : UInt8)] = s.drop n ++ (0 : UInt8) :: List.replicate p 0 := by rw [List.append_assoc, ← List.replicate_succ', List.replicate_succ]
      refine less_mk (by simp) (by simp) ?_ ?_ <;> simp (disch := first | omega | (simp only [ZL] <;> omega)) only [Z, Op.callOf, bslE, nilE, mslE, fadE, AV.cells, AV.isBot, AV.one, AV.flat, flatL, ids1, ids2, idsX, AV.lt, ltL, AObj.lt, finE, reduceCtorEq, reduceIte, Nat.reduceEqDiff, Nat.reduceAdd, Nat.reduceLeDiff, Nat.reduceMul, Nat.reduceLT, Nat.reduceBEq, Nat.reduceSub, Int.reduceToNat, Int.reduceLT, Int.reduceLE, Int.reduceAdd, Int.reduceSub, Int.reduceMul, Int.reduceGT, Int.reduceGE, Int.reduceEq, Int.reduceNe, Int.reduceNeg, e32_lt, eB_lt, hrep]
    · have hp64 : p = 64 - (s.length - n) := by omega
      subst hp64
      simp (disch := first | omega | (simp only [ZL] <;> omega)) only [Z, Op.callOf, bslE, nilE, mslE, fadE, AV.cells, AV.isBot, AV.one, AV.flat, flatL, ids1, ids2, idsX, AV.lt, ltL, AObj.lt, finE, reduceCtorEq, reduceIte, Nat.reduceEqDiff, Nat.reduceAdd, Nat.reduceLeDiff, Nat.reduceMul, Nat.reduceLT, Nat.reduceBEq, Nat.reduceSub, Int.reduceToNat, Int.reduceLT, Int.reduceLE, Int.reduceAdd, Int.reduceSub, Int.reduceMul, Int.reduceGT, Int.reduceGE, Int.reduceEq, Int.reduceNe, Int.reduceNeg, u64_wrap, e32_len, hg, e32_tk8]
      refine callL_pure (rtake_c g hg (s.drop n ++ List.replicate (64 - (s.length - n)) 0) (by simp; omega) s.length (by omega) true) (by simp [ltL, AV.lt, e32_lt]) rfl ?_
      have hJ2 : digR (s.length - n) g n (s.drop n) = takeS g (s.drop n ++ List.replicate (64 - (s.length - n)) 0) s.length true := by
        rcases Nat.eq_zero_or_pos (s.length - n) with h | h
        · rw [h, digR, hdl, h, show n + 0 = s.length by omega]
        · obtain ⟨m, hm⟩ : ∃ m, s.length - n = m + 1 := ⟨s.length - n - 1, by omega⟩
          rw [hm, digR, if_neg (by omega), hdl, hm, show n + (m + 1) = s.length by omega]
      have hT := take_len g (s.drop n ++ List.replicate (64 - (s.length - n)) 0) s.length true
      rw [hJ2] at hJ
      have hD : digestS h0 s = outB (takeS g (s.drop n ++ List.replicate (64 - (s.length - n)) 0) s.length true) := by rw [hJ]; rfl
      rw [hD]
      clear hJ hJ2 hD
      generalize takeS g (s.drop n ++ List.replicate (64 - (s.length - n)) 0) s.length true = w at hT ⊢
      simp (disch := first | omega | (simp only [ZL] <;> omega)) only [Z, Op.callOf, bslE, nilE, mslE, fadE, AV.cells, AV.isBot, AV.one, AV.flat, flatL, ids1, ids2, idsX, AV.lt, ltL, AObj.lt, finE, reduceCtorEq, reduceIte, Nat.reduceEqDiff, Nat.reduceAdd, Nat.reduceLeDiff, Nat.reduceMul, Nat.reduceLT, Nat.reduceBEq, Nat.reduceSub, Int.reduceToNat, Int.reduceLT, Int.reduceLE, Int.reduceAdd, Int.reduceSub, Int.reduceMul, Int.reduceGT, Int.reduceGE, Int.reduceEq, Int.reduceNe, Int.reduceNeg, e32_len, hg, hT, e32_one, e32_s08]
      refine loopF mixed (fun p : Nat × List UInt8 => mk [(2, .ptr 0 0), (4, .ptr 1 0), (9, .ptr 12 0), (10, .int .i64 p.1)]
          [(0, .box (e32 w)), (1, .box (eB (List.replicate 32 0))), (12, .box (eB p.2))] 13)
        (fun p => p.1 ≤ 32 ∧ p.2.length = 32 ∧ ∀ j, j < p.1 → p.2.getD j 0 = (outB w).getD j 0) (fun p => 32 - p.1) (0, List.replicate 32 0) 400 rfl rfl ⟨by simp, by simp, by intro i hi; simp at hi⟩ ?_ ?_
      · refine less_mk (by simp) (by simp) ?_ ?_ <;> simp (disch := first | omega | (simp only [ZL] <;> omega)) only [Z, Op.callOf, bslE, nilE, mslE, fadE, AV.cells, AV.isBot, AV.one, AV.flat, flatL, ids1, ids2, idsX, AV.lt, ltL, AObj.lt, finE, reduceCtorEq, reduceIte, Nat.reduceEqDiff, Nat.reduceAdd, Nat.reduceLeDiff, Nat.reduceMul, Nat.reduceLT, Nat.reduceBEq, Nat.reduceSub, Int.reduceToNat, Int.reduceLT, Int.reduceLE, Int.reduceAdd, Int.reduceSub, Int.reduceMul, Int.reduceGT, Int.reduceGE, Int.reduceEq, Int.reduceNe, Int.reduceNeg, e32_lt, eB_lt]
        exact rfl
      rintro ⟨i, d⟩ ⟨hi, hd, ha⟩
      dsimp only at hi hd ha
      simp (disch := first | omega | (simp only [ZL] <;> omega)) only [Z, Op.callOf, bslE, nilE, mslE, fadE, AV.cells, AV.isBot, AV.one, AV.flat, flatL, ids1, ids2, idsX, AV.lt, ltL, AObj.lt, finE, reduceCtorEq, reduceIte, Nat.reduceEqDiff, Nat.reduceAdd, Nat.reduceLeDiff, Nat.reduceMul, Nat.reduceLT, Nat.reduceBEq, Nat.reduceSub, Int.reduceToNat, Int.reduceLT, Int.reduceLE, Int.reduceAdd, Int.reduceSub, Int.reduceMul, Int.reduceGT, Int.reduceGE, Int.reduceEq, Int.reduceNe, Int.reduceNeg]
      refine condG_p (fun e => ?_) (fun e => ?_)
      · have hi' : i < 32 := by omega
        simp (disch := first | omega | (simp only [ZL] <;> omega)) only [Z, Op.callOf, bslE, nilE, mslE, fadE, AV.cells, AV.isBot, AV.one, AV.flat, flatL, ids1, ids2, idsX, AV.lt, ltL, AObj.lt, finE, reduceCtorEq, reduceIte, Nat.reduceEqDiff, Nat.reduceAdd, Nat.reduceLeDiff, Nat.reduceMul, Nat.reduceLT, Nat.reduceBEq, Nat.reduceSub, Int.reduceToNat, Int.reduceLT, Int.reduceLE, Int.reduceAdd, Int.reduceSub, Int.reduceMul, Int.reduceGT, Int.reduceGE, Int.reduceEq, Int.reduceNe, Int.reduceNeg, dg_q4, e32_len, hT, Nat.mul_one, e32_get]
        refine loopF mixed (fun p : Nat × UInt32 => mk [(2, .ptr 0 0), (4, .ptr 1 0), (9, .ptr 12 0), (10, .int .i64 i), (11, .int .u32 p.2.toNat), (12, .int .i64 p.1)]
            [(0, .box (e32 w)), (1, .box (eB (List.replicate 32 0))), (12, .box (eB d))] 13)
          (fun p => p.1 ≤ i % 4 ∧ p.2 = UInt32.ofNat ((w.getD (i / 4) 0).toNat / 256 ^ p.1)) (fun p => 4 - p.1) (0, w.getD (i / 4) 0) 400 rfl rfl ⟨by simp, by simp⟩ ?_ ?_
        · refine less_mk (by simp) (by simp) ?_ ?_ <;> simp (disch := first | omega | (simp only [ZL] <;> omega)) only [Z, Op.callOf, bslE, nilE, mslE, fadE, AV.cells, AV.isBot, AV.one, AV.flat, flatL, ids1, ids2, idsX, AV.lt, ltL, AObj.lt, finE, reduceCtorEq, reduceIte, Nat.reduceEqDiff, Nat.reduceAdd, Nat.reduceLeDiff, Nat.reduceMul, Nat.reduceLT, Nat.reduceBEq, Nat.reduceSub, Int.reduceToNat, Int.reduceLT, Int.reduceLE, Int.reduceAdd, Int.reduceSub, Int.reduceMul, Int.reduceGT, Int.reduceGE, Int.reduceEq, Int.reduceNe, Int.reduceNeg, e32_lt, eB_lt]
        rintro ⟨k, x⟩ ⟨hk, hx⟩
        dsimp only at hk hx
        simp (disch := first | omega | (simp only [ZL] <;> omega)) only [Z, Op.callOf, bslE, nilE, mslE, fadE, AV.cells, AV.isBot, AV.one, AV.flat, flatL, ids1, ids2, idsX, AV.lt, ltL, AObj.lt, finE, reduceCtorEq, reduceIte, Nat.reduceEqDiff, Nat.reduceAdd, Nat.reduceLeDiff, Nat.reduceMul, Nat.reduceLT, Nat.reduceBEq, Nat.reduceSub, Int.reduceToNat, Int.reduceLT, Int.reduceLE, Int.reduceAdd, Int.reduceSub, Int.reduceMul, Int.reduceGT, Int.reduceGE, Int.reduceEq, Int.reduceNe, Int.reduceNeg, dg_m]
        refine condG_p (fun e2 => ?_) (fun e2 => ?_)
        · simp (disch := first | omega | (simp only [ZL] <;> omega)) only [Z, Op.callOf, bslE, nilE, mslE, fadE, AV.cells, AV.isBot, AV.one, AV.flat, flatL, ids1, ids2, idsX, AV.lt, ltL, AObj.lt, finE, reduceCtorEq, reduceIte, Nat.reduceEqDiff, Nat.reduceAdd, Nat.reduceLeDiff, Nat.reduceMul, Nat.reduceLT, Nat.reduceBEq, Nat.reduceSub, Int.reduceToNat, Int.reduceLT, Int.reduceLE, Int.reduceAdd, Int.reduceSub, Int.reduceMul, Int.reduceGT, Int.reduceGE, Int.reduceEq, Int.reduceNe, Int.reduceNeg, v32_q]
          refine finR_of (k + 1, UInt32.ofNat (x.toNat / 256)) ⟨by dsimp only; omega, by dsimp only; rw [hx, div_step]⟩ (by dsimp only; omega) ?_
          refine less_mk (by simp) (by simp) ?_ ?_ <;> simp (disch := first | omega | (simp only [ZL] <;> omega)) only [Z, Op.callOf, bslE, nilE, mslE, fadE, AV.cells, AV.isBot, AV.one, AV.flat, flatL, ids1, ids2, idsX, AV.lt, ltL, AObj.lt, finE, reduceCtorEq, reduceIte, Nat.reduceEqDiff, Nat.reduceAdd, Nat.reduceLeDiff, Nat.reduceMul, Nat.reduceLT, Nat.reduceBEq, Nat.reduceSub, Int.reduceToNat, Int.reduceLT, Int.reduceLE, Int.reduceAdd, Int.reduceSub, Int.reduceMul, Int.reduceGT, Int.reduceGE, Int.reduceEq, Int.reduceNe, Int.reduceNeg, e32_lt, eB_lt, i64_add1]
        · have : k = i % 4 := by omega
          subst this
          simp (disch := first | omega | (simp only [ZL] <;> omega)) only [Z, Op.callOf, bslE, nilE, mslE, fadE, AV.cells, AV.isBot, AV.one, AV.flat, flatL, ids1, ids2, idsX, AV.lt, ltL, AObj.lt, finE, reduceCtorEq, reduceIte, Nat.reduceEqDiff, Nat.reduceAdd, Nat.reduceLeDiff, Nat.reduceMul, Nat.reduceLT, Nat.reduceBEq, Nat.reduceSub, Int.reduceToNat, Int.reduceLT, Int.reduceLE, Int.reduceAdd, Int.reduceSub, Int.reduceMul, Int.reduceGT, Int.reduceGE, Int.reduceEq, Int.reduceNe, Int.reduceNeg, v32_r, w8, Nat.mul_one, eB_len, eB_set]
          refine finR_of (i + 1, d.set i (UInt8.ofNat (x.toNat % 256))) ⟨by dsimp only; omega, by simpa using hd, fun j hj => ?_⟩ (by dsimp only; omega) ?_
          · dsimp only at hj ⊢
            by_cases ej : i = j
            · subst ej
              rw [getD_set_eq8 _ _ _ (by omega), outB_at _ _ hi', hx, byte_eq _ _ (by omega)]
            · rw [getD_set_ne8 _ _ _ _ ej]; exact ha j (by omega)
          · refine less_mk (by simp) (by simp) ?_ ?_ <;> simp (disch := first | omega | (simp only [ZL] <;> omega)) only [Z, Op.callOf, bslE, nilE, mslE, fadE, AV.cells, AV.isBot, AV.one, AV.flat, flatL, ids1, ids2, idsX, AV.lt, ltL, AObj.lt, finE, reduceCtorEq, reduceIte, Nat.reduceEqDiff, Nat.reduceAdd, Nat.reduceLeDiff, Nat.reduceMul, Nat.reduceLT, Nat.reduceBEq, Nat.reduceSub, Int.reduceToNat, Int.reduceLT, Int.reduceLE, Int.reduceAdd, Int.reduceSub, Int.reduceMul, Int.reduceGT, Int.reduceGE, Int.reduceEq, Int.reduceNe, Int.reduceNeg, e32_lt, eB_lt, i64_add1]
      · have : i = 32 := by omega
        subst this
        have hdw : d = outB w := list_ext8 _ _ 32 hd (outB_len w) fun j hj => ha j (by omega)
        subst hdw
        have ho := outB_len w
        simp (disch := first | omega | (simp only [ZL] <;> omega)) only [Z, Op.callOf, bslE, nilE, mslE, fadE, AV.cells, AV.isBot, AV.one, AV.flat, flatL, ids1, ids2, idsX, AV.lt, ltL, AObj.lt, finE, reduceCtorEq, reduceIte, Nat.reduceEqDiff, Nat.reduceAdd, Nat.reduceLeDiff, Nat.reduceMul, Nat.reduceLT, Nat.reduceBEq, Nat.reduceSub, Int.reduceToNat, Int.reduceLT, Int.reduceLE, Int.reduceAdd, Int.reduceSub, Int.reduceMul, Int.reduceGT, Int.reduceGE, Int.reduceEq, Int.reduceNe, Int.reduceNeg, eB_len, ho, eB_tk32, eB_one, eB_s0, frzM_eB, eB_lt]
        repeat' first | exact Sub.rfl' _ | exact sub_nils _ | exact SubL.nil | refine sub_tup ?_ | refine sub_agg ?_ | refine SubL.cons ?_ ?_
  · have hgt : 64 < s.length - n := by omega
    simp (disch := first | omega | (simp only [ZL] <;> omega)) only [Z, Op.callOf, bslE, nilE, mslE, fadE, AV.cells, AV.isBot, AV.one, AV.flat, flatL, ids1, ids2, idsX, AV.lt, ltL, AObj.lt, finE, reduceCtorEq, reduceIte, Nat.reduceEqDiff, Nat.reduceAdd, Nat.reduceLeDiff, Nat.reduceMul, Nat.reduceLT, Nat.reduceBEq, Nat.reduceSub, Int.reduceToNat, Int.reduceLT, Int.reduceLE, Int.reduceAdd, Int.reduceSub, Int.reduceMul, Int.reduceGT, Int.reduceGE, Int.reduceEq, Int.reduceNe, Int.reduceNeg, e, slice_eq, u64_wrap, e32_len, hg, e32_tk8]
    refine callL_pure (rtake_c g hg ((s.drop n).take 64) (by simp; omega) (n + 64) (by omega) false) (by simp [ltL, AV.lt, e32_lt]) rfl ?_
    have hT := take_len g ((s.drop n).take 64) (n + 64) false
    obtain ⟨m, hm⟩ : ∃ m, s.length - n = m + 1 := ⟨s.length - n - 1, by omega⟩
    rw [hm, digR, if_pos (by simp; omega), List.drop_drop] at hJ
    simp (disch := first | omega | (simp only [ZL] <;> omega)) only [Z, Op.callOf, bslE, nilE, mslE, fadE, AV.cells, AV.isBot, AV.one, AV.flat, flatL, ids1, ids2, idsX, AV.lt, ltL, AObj.lt, finE, reduceCtorEq, reduceIte, Nat.reduceEqDiff, Nat.reduceAdd, Nat.reduceLeDiff, Nat.reduceMul, Nat.reduceLT, Nat.reduceBEq, Nat.reduceSub, Int.reduceToNat, Int.reduceLT, Int.reduceLE, Int.reduceAdd, Int.reduceSub, Int.reduceMul, Int.reduceGT, Int.reduceGE, Int.reduceEq, Int.reduceNe, Int.reduceNeg, e32_len, hg, hT, e32_one, e32_s08]
    refine finR_of (n + 64, takeS g ((s.drop n).take 64) (n + 64) false) ⟨hT, by dsimp only; omega, ?_⟩ (by dsimp only; omega) ?_
    · dsimp only
      rw [← hJ]
      exact digR_fuel _ _ _ _ _ (by simp) (by simp; omega)
    · refine less_mk (by simp) (by simp) ?_ ?_ <;> simp (disch := first | omega | (simp only [ZL] <;> omega)) only [Z, Op.callOf, bslE, nilE, mslE, fadE, AV.cells, AV.isBot, AV.one, AV.flat, flatL, ids1, ids2, idsX, AV.lt, ltL, AObj.lt, finE, reduceCtorEq, reduceIte, Nat.reduceEqDiff, Nat.reduceAdd, Nat.reduceLeDiff, Nat.reduceMul, Nat.reduceLT, Nat.reduceBEq, Nat.reduceSub, Int.reduceToNat, Int.reduceLT, Int.reduceLE, Int.reduceAdd, Int.reduceSub, Int.reduceMul, Int.reduceGT, Int.reduceGE, Int.reduceEq, Int.reduceNe, Int.reduceNeg, e32_lt, eB_lt]
end Go.Ab
namespace Go.Ab
open Go Go.Proofs
variable [Glob] [LibC]
set_option maxHeartbeats 1000000

theorem rjoin1_c (s : List UInt8) (hs : s.length < 2^40) : APure Tryz.prog 129 [.sl 1 [[.str s]]] (.str s) := by
  refine apure_fin mixed [] 400 Tryz.func129 Tryz.ntmps129 Tryz.results129 rfl rfl (by simp) rfl ?_
  simp (disch := first | omega | (simp only [ZL] <;> omega)) only [Z, Op.callOf, bslE, nilE, mslE, fadE, AV.cells, AV.isBot, AV.one, AV.flat, flatL, ids1, ids2, idsX, AV.lt, ltL, AObj.lt, finE, reduceCtorEq, reduceIte, Nat.reduceEqDiff, Nat.reduceAdd, Nat.reduceLeDiff, Nat.reduceMul, Nat.reduceLT, Nat.reduceBEq, Nat.reduceSub, Int.reduceToNat, Int.reduceLT, Int.reduceLE, Int.reduceAdd, Int.reduceSub, Int.reduceMul, Int.reduceGT, Int.reduceGE, Int.reduceEq, Int.reduceNe, Int.reduceNeg]
  refine loopF mixed (fun p : Nat => mk [(0, .sl 1 [[.str s]]), (3, .str (if p = 0 then [] else s)), (4, .int .i64 p)] [] 0) (fun p => p ≤ 1) (fun p => 1 - p) 0 400 rfl rfl (by omega) ?_ ?_
  · refine less_mk (by simp) (by simp) ?_ ?_ <;> simp (disch := first | omega | (simp only [ZL] <;> omega)) only [Z, Op.callOf, bslE, nilE, mslE, fadE, AV.cells, AV.isBot, AV.one, AV.flat, flatL, ids1, ids2, idsX, AV.lt, ltL, AObj.lt, finE, reduceCtorEq, reduceIte, Nat.reduceEqDiff, Nat.reduceAdd, Nat.reduceLeDiff, Nat.reduceMul, Nat.reduceLT, Nat.reduceBEq, Nat.reduceSub, Int.reduceToNat, Int.reduceLT, Int.reduceLE, Int.reduceAdd, Int.reduceSub, Int.reduceMul, Int.reduceGT, Int.reduceGE, Int.reduceEq, Int.reduceNe, Int.reduceNeg]
  intro p hp
  have : p = 0 ∨ p = 1 := by omega
  rcases this with rfl | rfl
  · simp (disch := first | omega | (simp only [ZL] <;> omega)) only [Z, Op.callOf, bslE, nilE, mslE, fadE, AV.cells, AV.isBot, AV.one, AV.flat, flatL, ids1, ids2, idsX, AV.lt, ltL, AObj.lt, finE, reduceCtorEq, reduceIte, Nat.reduceEqDiff, Nat.reduceAdd, Nat.reduceLeDiff, Nat.reduceMul, Nat.reduceLT, Nat.reduceBEq, Nat.reduceSub, Int.reduceToNat, Int.reduceLT, Int.reduceLE, Int.reduceAdd, Int.reduceSub, Int.reduceMul, Int.reduceGT, Int.reduceGE, Int.reduceEq, Int.reduceNe, Int.reduceNeg]
    refine finR_of 1 (by omega) (by omega) ?_
    refine less_mk (by simp) (by simp) ?_ ?_ <;> simp (disch := first | omega | (simp only [ZL] <;> omega)) only [Z, Op.callOf, bslE, nilE, mslE, fadE, AV.cells, AV.isBot, AV.one, AV.flat, flatL, ids1, ids2, idsX, AV.lt, ltL, AObj.lt, finE, reduceCtorEq, reduceIte, Nat.reduceEqDiff, Nat.reduceAdd, Nat.reduceLeDiff, Nat.reduceMul, Nat.reduceLT, Nat.reduceBEq, Nat.reduceSub, Int.reduceToNat, Int.reduceLT, Int.reduceLE, Int.reduceAdd, Int.reduceSub, Int.reduceMul, Int.reduceGT, Int.reduceGE, Int.reduceEq, Int.reduceNe, Int.reduceNeg]
  · simp (disch := first | omega | (simp only [ZL] <;> omega)) only [Z, Op.callOf, bslE, nilE, mslE, fadE, AV.cells, AV.isBot, AV.one, AV.flat, flatL, ids1, ids2, idsX, AV.lt, ltL, AObj.lt, finE, reduceCtorEq, reduceIte, Nat.reduceEqDiff, Nat.reduceAdd, Nat.reduceLeDiff, Nat.reduceMul, Nat.reduceLT, Nat.reduceBEq, Nat.reduceSub, Int.reduceToNat, Int.reduceLT, Int.reduceLE, Int.reduceAdd, Int.reduceSub, Int.reduceMul, Int.reduceGT, Int.reduceGE, Int.reduceEq, Int.reduceNe, Int.reduceNeg]
    repeat' first | exact Sub.rfl' _ | exact sub_nils _ | exact SubL.nil | refine sub_tup ?_ | refine sub_agg ?_ | refine SubL.cons ?_ ?_
theorem rraw_c (d : List UInt8) (h : d.length = 32) : APure Tryz.prog 97 [.agg (eB d)] (.str d) := by
  refine apure_fin mixed [] 400 Tryz.func97 Tryz.ntmps97 Tryz.results97 rfl rfl (by simp) rfl ?_
  simp (disch := first | omega | (simp only [ZL] <;> omega)) only [Z, Op.callOf, bslE, nilE, mslE, fadE, AV.cells, AV.isBot, AV.one, AV.flat, flatL, ids1, ids2, idsX, AV.lt, ltL, AObj.lt, finE, reduceCtorEq, reduceIte, Nat.reduceEqDiff, Nat.reduceAdd, Nat.reduceLeDiff, Nat.reduceMul, Nat.reduceLT, Nat.reduceBEq, Nat.reduceSub, Int.reduceToNat, Int.reduceLT, Int.reduceLE, Int.reduceAdd, Int.reduceSub, Int.reduceMul, Int.reduceGT, Int.reduceGE, Int.reduceEq, Int.reduceNe, Int.reduceNeg, eB_len]
  refine loopF mixed (fun p : Nat => mk [(1, .ptr 0 0), (3, .str (d.take p)), (4, .int .i64 p)] [(0, .box (eB d))] 1) (fun p => p ≤ 32) (fun p => 32 - p) 0 400 rfl rfl (by omega) ?_ ?_
  · refine less_mk (by simp) (by simp) ?_ ?_ <;> simp (disch := first | omega | (simp only [ZL] <;> omega)) only [Z, Op.callOf, bslE, nilE, mslE, fadE, AV.cells, AV.isBot, AV.one, AV.flat, flatL, ids1, ids2, idsX, AV.lt, ltL, AObj.lt, finE, reduceCtorEq, reduceIte, Nat.reduceEqDiff, Nat.reduceAdd, Nat.reduceLeDiff, Nat.reduceMul, Nat.reduceLT, Nat.reduceBEq, Nat.reduceSub, Int.reduceToNat, Int.reduceLT, Int.reduceLE, Int.reduceAdd, Int.reduceSub, Int.reduceMul, Int.reduceGT, Int.reduceGE, Int.reduceEq, Int.reduceNe, Int.reduceNeg, eB_lt]
  intro p hp
  simp (disch := first | omega | (simp only [ZL] <;> omega)) only [Z, Op.callOf, bslE, nilE, mslE, fadE, AV.cells, AV.isBot, AV.one, AV.flat, flatL, ids1, ids2, idsX, AV.lt, ltL, AObj.lt, finE, reduceCtorEq, reduceIte, Nat.reduceEqDiff, Nat.reduceAdd, Nat.reduceLeDiff, Nat.reduceMul, Nat.reduceLT, Nat.reduceBEq, Nat.reduceSub, Int.reduceToNat, Int.reduceLT, Int.reduceLE, Int.reduceAdd, Int.reduceSub, Int.reduceMul, Int.reduceGT, Int.reduceGE, Int.reduceEq, Int.reduceNe, Int.reduceNeg]
  refine condG_p (fun e => ?_) (fun e => ?_)
  · have hp' : p < 32 := by omega
    have ht : d.take p ++ [d.getD p 0] = d.take (p + 1) := by rw [getD_lt d p 0 (by omega)]; simp
    simp (disch := first | omega | (simp only [ZL] <;> omega)) only [Z, Op.callOf, bslE, nilE, mslE, fadE, AV.cells, AV.isBot, AV.one, AV.flat, flatL, ids1, ids2, idsX, AV.lt, ltL, AObj.lt, finE, reduceCtorEq, reduceIte, Nat.reduceEqDiff, Nat.reduceAdd, Nat.reduceLeDiff, Nat.reduceMul, Nat.reduceLT, Nat.reduceBEq, Nat.reduceSub, Int.reduceToNat, Int.reduceLT, Int.reduceLE, Int.reduceAdd, Int.reduceSub, Int.reduceMul, Int.reduceGT, Int.reduceGE, Int.reduceEq, Int.reduceNe, Int.reduceNeg, Nat.mul_one, eB_len, h, eB_get]
    refine finR_of (p + 1) (by omega) (by omega) ?_
    refine less_mk (by simp) (by simp) ?_ ?_ <;> simp (disch := first | omega | (simp only [ZL] <;> omega)) only [Z, Op.callOf, bslE, nilE, mslE, fadE, AV.cells, AV.isBot, AV.one, AV.flat, flatL, ids1, ids2, idsX, AV.lt, ltL, AObj.lt, finE, reduceCtorEq, reduceIte, Nat.reduceEqDiff, Nat.reduceAdd, Nat.reduceLeDiff, Nat.reduceMul, Nat.reduceLT, Nat.reduceBEq, Nat.reduceSub, Int.reduceToNat, Int.reduceLT, Int.reduceLE, Int.reduceAdd, Int.reduceSub, Int.reduceMul, Int.reduceGT, Int.reduceGE, Int.reduceEq, Int.reduceNe, Int.reduceNeg, eB_lt, i64_add1, ht]
  · have : p = 32 := by omega
    subst this
    simp (disch := first | omega | (simp only [ZL] <;> omega)) only [Z, Op.callOf, bslE, nilE, mslE, fadE, AV.cells, AV.isBot, AV.one, AV.flat, flatL, ids1, ids2, idsX, AV.lt, ltL, AObj.lt, finE, reduceCtorEq, reduceIte, Nat.reduceEqDiff, Nat.reduceAdd, Nat.reduceLeDiff, Nat.reduceMul, Nat.reduceLT, Nat.reduceBEq, Nat.reduceSub, Int.reduceToNat, Int.reduceLT, Int.reduceLE, Int.reduceAdd, Int.reduceSub, Int.reduceMul, Int.reduceGT, Int.reduceGE, Int.reduceEq, Int.reduceNe, Int.reduceNeg]
    refine sub_eq (congrArg _ ?_)
    exact List.take_of_length_le (by omega)
theorem rsum_c (s : List UInt8) (hs : s.length < 2^40) : APure Tryz.prog 98 [.sl 1 [[.str s]]] (.agg (eB (sumS s))) := by
  refine apure_fin mixed [] 400 Tryz.func98 Tryz.ntmps98 Tryz.results98 rfl rfl (by simp) rfl ?_
  simp (disch := first | omega | (simp only [ZL] <;> omega)) only [Z, Op.callOf, bslE, nilE, mslE, fadE, AV.cells, AV.isBot, AV.one, AV.flat, flatL, ids1, ids2, idsX, AV.lt, ltL, AObj.lt, finE, reduceCtorEq, reduceIte, Nat.reduceEqDiff, Nat.reduceAdd, Nat.reduceLeDiff, Nat.reduceMul, Nat.reduceLT, Nat.reduceBEq, Nat.reduceSub, Int.reduceToNat, Int.reduceLT, Int.reduceLE, Int.reduceAdd, Int.reduceSub, Int.reduceMul, Int.reduceGT, Int.reduceGE, Int.reduceEq, Int.reduceNe, Int.reduceNeg]
  refine callL_pure reight_c (by simp [ltL]) rfl ?_
  have h8 := eight_len
  simp (disch := first | omega | (simp only [ZL] <;> omega)) only [Z, Op.callOf, bslE, nilE, mslE, fadE, AV.cells, AV.isBot, AV.one, AV.flat, flatL, ids1, ids2, idsX, AV.lt, ltL, AObj.lt, finE, reduceCtorEq, reduceIte, Nat.reduceEqDiff, Nat.reduceAdd, Nat.reduceLeDiff, Nat.reduceMul, Nat.reduceLT, Nat.reduceBEq, Nat.reduceSub, Int.reduceToNat, Int.reduceLT, Int.reduceLE, Int.reduceAdd, Int.reduceSub, Int.reduceMul, Int.reduceGT, Int.reduceGE, Int.reduceEq, Int.reduceNe, Int.reduceNeg, e32_len, h8, e32_one, e32_set0, e32_get0, e32_set, Nat.mul_one]
  have hs0 : sum0.length = 8 := by simp [sum0, eightS]
  have hs1 : eightS.set 0 (eightS.getD 0 0 ^^^ UInt32.ofNat 16842784) = sum0 := rfl
  simp (disch := first | omega | (simp only [ZL] <;> omega)) only [Z, Op.callOf, bslE, nilE, mslE, fadE, AV.cells, AV.isBot, AV.one, AV.flat, flatL, ids1, ids2, idsX, AV.lt, ltL, AObj.lt, finE, reduceCtorEq, reduceIte, Nat.reduceEqDiff, Nat.reduceAdd, Nat.reduceLeDiff, Nat.reduceMul, Nat.reduceLT, Nat.reduceBEq, Nat.reduceSub, Int.reduceToNat, Int.reduceLT, Int.reduceLE, Int.reduceAdd, Int.reduceSub, Int.reduceMul, Int.reduceGT, Int.reduceGE, Int.reduceEq, Int.reduceNe, Int.reduceNeg, e32_len, hs0, hs1, e32_tk8]
  refine callD_pure (rjoin1_c s hs) (by simp [ltL, AV.lt]) ?_
  simp (disch := first | omega | (simp only [ZL] <;> omega)) only [Z, Op.callOf, bslE, nilE, mslE, fadE, AV.cells, AV.isBot, AV.one, AV.flat, flatL, ids1, ids2, idsX, AV.lt, ltL, AObj.lt, finE, reduceCtorEq, reduceIte, Nat.reduceEqDiff, Nat.reduceAdd, Nat.reduceLeDiff, Nat.reduceMul, Nat.reduceLT, Nat.reduceBEq, Nat.reduceSub, Int.reduceToNat, Int.reduceLT, Int.reduceLE, Int.reduceAdd, Int.reduceSub, Int.reduceMul, Int.reduceGT, Int.reduceGE, Int.reduceEq, Int.reduceNe, Int.reduceNeg]
  refine callD_pure (rdigest_c sum0 hs0 s hs) (by simp [ltL, AV.lt, e32_lt]) ?_
  have hsl := sumS_len s
  change (digestS sum0 s).length = 32 at hsl
  simp (disch := first | omega | (simp only [ZL] <;> omega)) only [Z, Op.callOf, bslE, nilE, mslE, fadE, AV.cells, AV.isBot, AV.one, AV.flat, flatL, ids1, ids2, idsX, AV.lt, ltL, AObj.lt, finE, reduceCtorEq, reduceIte, Nat.reduceEqDiff, Nat.reduceAdd, Nat.reduceLeDiff, Nat.reduceMul, Nat.reduceLT, Nat.reduceBEq, Nat.reduceSub, Int.reduceToNat, Int.reduceLT, Int.reduceLE, Int.reduceAdd, Int.reduceSub, Int.reduceMul, Int.reduceGT, Int.reduceGE, Int.reduceEq, Int.reduceNe, Int.reduceNeg, eB_len, hsl, eB_one, eB_set0]
  refine okK_of (by kernel_rfl) ?_
  simp (disch := first | omega | (simp only [ZL] <;> omega)) only [Z, Op.callOf, bslE, nilE, mslE, fadE, AV.cells, AV.isBot, AV.one, AV.flat, flatL, ids1, ids2, idsX, AV.lt, ltL, AObj.lt, finE, reduceCtorEq, reduceIte, Nat.reduceEqDiff, Nat.reduceAdd, Nat.reduceLeDiff, Nat.reduceMul, Nat.reduceLT, Nat.reduceBEq, Nat.reduceSub, Int.reduceToNat, Int.reduceLT, Int.reduceLE, Int.reduceAdd, Int.reduceSub, Int.reduceMul, Int.reduceGT, Int.reduceGE, Int.reduceEq, Int.reduceNe, Int.reduceNeg, eB_len, hsl, eB_tk32, eB_set0, eB_lt, frzM_eB]
  repeat' first | exact Sub.rfl' _ | exact sub_nils _ | exact SubL.nil | refine sub_tup ?_ | refine sub_agg ?_ | refine SubL.cons ?_ ?_
theorem rsum37_c (s : List UInt8) (hs : s.length < 2^40) : APure Tryz.prog 58 [.str s] (.str (sumS s)) := by
  refine apure_fin mixed [] 400 Tryz.func58 Tryz.ntmps58 Tryz.results58 rfl rfl (by simp) rfl ?_
  simp (disch := first | omega | (simp only [ZL] <;> omega)) only [Z, Op.callOf, bslE, nilE, mslE, fadE, AV.cells, AV.isBot, AV.one, AV.flat, flatL, ids1, ids2, idsX, AV.lt, ltL, AObj.lt, finE, reduceCtorEq, reduceIte, Nat.reduceEqDiff, Nat.reduceAdd, Nat.reduceLeDiff, Nat.reduceMul, Nat.reduceLT, Nat.reduceBEq, Nat.reduceSub, Int.reduceToNat, Int.reduceLT, Int.reduceLE, Int.reduceAdd, Int.reduceSub, Int.reduceMul, Int.reduceGT, Int.reduceGE, Int.reduceEq, Int.reduceNe, Int.reduceNeg]
  refine callL_fz (rsum_c s hs) (by simp [ltL, AV.lt]) rfl ?_
  simp (disch := first | omega | (simp only [ZL] <;> omega)) only [Z, Op.callOf, bslE, nilE, mslE, fadE, AV.cells, AV.isBot, AV.one, AV.flat, flatL, ids1, ids2, idsX, AV.lt, ltL, AObj.lt, finE, reduceCtorEq, reduceIte, Nat.reduceEqDiff, Nat.reduceAdd, Nat.reduceLeDiff, Nat.reduceMul, Nat.reduceLT, Nat.reduceBEq, Nat.reduceSub, Int.reduceToNat, Int.reduceLT, Int.reduceLE, Int.reduceAdd, Int.reduceSub, Int.reduceMul, Int.reduceGT, Int.reduceGE, Int.reduceEq, Int.reduceNe, Int.reduceNeg]
  refine callL_pure (rraw_c _ (sumS_len s)) (by simp [ltL, AV.lt, eB_lt]) rfl ?_
  simp (disch := first | omega | (simp only [ZL] <;> omega)) only [Z, Op.callOf, bslE, nilE, mslE, fadE, AV.cells, AV.isBot, AV.one, AV.flat, flatL, ids1, ids2, idsX, AV.lt, ltL, AObj.lt, finE, reduceCtorEq, reduceIte, Nat.reduceEqDiff, Nat.reduceAdd, Nat.reduceLeDiff, Nat.reduceMul, Nat.reduceLT, Nat.reduceBEq, Nat.reduceSub, Int.reduceToNat, Int.reduceLT, Int.reduceLE, Int.reduceAdd, Int.reduceSub, Int.reduceMul, Int.reduceGT, Int.reduceGE, Int.reduceEq, Int.reduceNe, Int.reduceNeg]
  repeat' first | exact Sub.rfl' _ | exact sub_nils _ | exact SubL.nil | refine sub_tup ?_ | refine sub_agg ?_ | refine SubL.cons ?_ ?_

theorem digB_len (n : Nat) (m : Nat) (h : n < 10 ^ (m + 1)) : (digB n).length ≤ m + 1 := by
  induction m generalizing n with
  | zero => rw [digB, if_pos (by simpa using h)]; simp
  | succ m ih =>
    rw [digB]
    split
    · simp
    · have := ih (n / 10) (by rw [Nat.pow_succ] at h; omega)
      simp; omega
theorem decB_len (n : Int) (h : i64ok n) : (decB n).length ≤ 20 := by
  have : (digB n.natAbs).length ≤ 19 := digB_len n.natAbs 18 (by unfold i64ok at h; omega)
  unfold decB; split <;> simp <;> omega
theorem decB_small (n : Int) (h0 : 0 ≤ n) (h1 : n < 10) : decB n = [UInt8.ofNat (48 + n.toNat)] := by
  unfold decB
  rw [if_neg (by omega), digB, if_pos (by omega)]
  congr 2; omega
theorem decB_neg (n : Int) (h0 : n < 0) (h1 : -10 < n) : decB n = 45 :: decB (-n) := by
  unfold decB
  rw [if_pos h0, if_neg (by omega), Int.natAbs_neg]
theorem decB_big (n : Int) (h : n ≤ -10 ∨ 10 ≤ n) (last : Int) (hl : last = (n.natAbs % 10 : Nat)) : decB n = decB (Int.tdiv n 10) ++ decB last := by
  have hq : (Int.tdiv n 10).natAbs = n.natAbs / 10 := by rw [Int.natAbs_tdiv]; rfl
  rw [decB_small last (by omega) (by omega)]
  have e : last.toNat = n.natAbs % 10 := by omega
  rw [e]
  unfold decB
  rw [hq]
  rcases h with h | h
  · have : Int.tdiv n 10 < 0 := by
      have := Int.neg_tdiv n 10
      have h2 : 0 < Int.tdiv (-n) 10 := by rw [Int.tdiv_eq_ediv_of_nonneg (by omega)]; omega
      omega
    rw [if_pos (by omega), if_pos this, digB, if_neg (by omega)]
    simp
  · have : ¬ Int.tdiv n 10 < 0 := by rw [Int.tdiv_eq_ediv_of_nonneg (by omega)]; omega
    rw [if_neg (by omega), if_neg this, digB, if_neg (by omega)]
theorem w8i (n : Int) (h0 : 0 ≤ n) (h1 : n < 10) : IntKind.u8.wrap (48 + n) = ((UInt8.ofNat (48 + n.toNat)).toNat : Int) := by
  rw [← w8]; congr 1; omega
theorem rdec_c : ∀ (m : Nat) (n : Int), 2 * n.natAbs + (if n < 0 then 1 else 0) ≤ m → i64ok n → APure Tryz.prog 91 [.int .i64 n] (.str (decB n)) := by
  intro m
  induction m with
  | zero =>
    intro n hm hn
    have : n = 0 := by split at hm <;> omega
    subst this
    refine apure_fin mixed [] 400 Tryz.func91 Tryz.ntmps91 Tryz.results91 rfl rfl (by simp) rfl ?_
    simp (disch := first | omega | (simp only [ZL] <;> omega)) only [Z, Op.callOf, bslE, nilE, mslE, fadE, AV.cells, AV.isBot, AV.one, AV.flat, flatL, ids1, ids2, idsX, AV.lt, ltL, AObj.lt, finE, reduceCtorEq, reduceIte, Nat.reduceEqDiff, Nat.reduceAdd, Nat.reduceLeDiff, Nat.reduceMul, Nat.reduceLT, Nat.reduceBEq, Nat.reduceSub, Int.reduceToNat, Int.reduceLT, Int.reduceLE, Int.reduceAdd, Int.reduceSub, Int.reduceMul, Int.reduceGT, Int.reduceGE, Int.reduceEq, Int.reduceNe, Int.reduceNeg, w8c]
    rw [decB_small 0 (by decide) (by decide)]
    repeat' first | exact Sub.rfl' _ | exact sub_nils _ | exact SubL.nil | refine sub_tup ?_ | refine sub_agg ?_ | refine SubL.cons ?_ ?_
  | succ m ih =>
    intro n hm hn
    have hn' := hn
    unfold i64ok at hn'
    by_cases c1 : 0 ≤ n ∧ n < 10
    · obtain ⟨c1, c2⟩ := c1
      refine apure_fin mixed [] 400 Tryz.func91 Tryz.ntmps91 Tryz.results91 rfl rfl (by simp) rfl ?_
      simp (disch := first | omega | (simp only [ZL] <;> omega)) only [Z, Op.callOf, bslE, nilE, mslE, fadE, AV.cells, AV.isBot, AV.one, AV.flat, flatL, ids1, ids2, idsX, AV.lt, ltL, AObj.lt, finE, reduceCtorEq, reduceIte, Nat.reduceEqDiff, Nat.reduceAdd, Nat.reduceLeDiff, Nat.reduceMul, Nat.reduceLT, Nat.reduceBEq, Nat.reduceSub, Int.reduceToNat, Int.reduceLT, Int.reduceLE, Int.reduceAdd, Int.reduceSub, Int.reduceMul, Int.reduceGT, Int.reduceGE, Int.reduceEq, Int.reduceNe, Int.reduceNeg, c1, c2, w8i]
      rw [decB_small n c1 c2]
      repeat' first | exact Sub.rfl' _ | exact sub_nils _ | exact SubL.nil | refine sub_tup ?_ | refine sub_agg ?_ | refine SubL.cons ?_ ?_
    by_cases c2 : n < 0 ∧ -10 < n
    · obtain ⟨c2, c3⟩ := c2
      have c4 : ¬ 0 ≤ n := by omega
      refine apure_fin mixed [] 400 Tryz.func91 Tryz.ntmps91 Tryz.results91 rfl rfl (by simp) rfl ?_
      simp (disch := first | omega | (simp only [ZL] <;> omega)) only [Z, Op.callOf, bslE, nilE, mslE, fadE, AV.cells, AV.isBot, AV.one, AV.flat, flatL, ids1, ids2, idsX, AV.lt, ltL, AObj.lt, finE, reduceCtorEq, reduceIte, Nat.reduceEqDiff, Nat.reduceAdd, Nat.reduceLeDiff, Nat.reduceMul, Nat.reduceLT, Nat.reduceBEq, Nat.reduceSub, Int.reduceToNat, Int.reduceLT, Int.reduceLE, Int.reduceAdd, Int.reduceSub, Int.reduceMul, Int.reduceGT, Int.reduceGE, Int.reduceEq, Int.reduceNe, Int.reduceNeg, c2, c3, c4]
      refine callL_pure (ih (0 - n) (by split at hm <;> split <;> omega) (by unfold i64ok; omega)) (by simp [ltL, AV.lt]) rfl ?_
      rw [decB_small (0 - n) (by omega) (by omega)]
      simp (disch := first | omega | (simp only [ZL] <;> omega)) only [Z, Op.callOf, bslE, nilE, mslE, fadE, AV.cells, AV.isBot, AV.one, AV.flat, flatL, ids1, ids2, idsX, AV.lt, ltL, AObj.lt, finE, reduceCtorEq, reduceIte, Nat.reduceEqDiff, Nat.reduceAdd, Nat.reduceLeDiff, Nat.reduceMul, Nat.reduceLT, Nat.reduceBEq, Nat.reduceSub, Int.reduceToNat, Int.reduceLT, Int.reduceLE, Int.reduceAdd, Int.reduceSub, Int.reduceMul, Int.reduceGT, Int.reduceGE, Int.reduceEq, Int.reduceNe, Int.reduceNeg]
      rw [decB_neg n c2 c3, decB_small (-n) (by omega) (by omega), Int.zero_sub]
      repeat' first | exact Sub.rfl' _ | exact sub_nils _ | exact SubL.nil | refine sub_tup ?_ | refine sub_agg ?_ | refine SubL.cons ?_ ?_
    have hbig : n ≤ -10 ∨ 10 ≤ n := by omega
    have hq : (Int.tdiv n 10).natAbs = n.natAbs / 10 := by rw [Int.natAbs_tdiv]; rfl
    have hr := Int.natAbs_tmod n 10
    have hr' : (Int.tmod n 10).natAbs = n.natAbs % 10 := by rw [hr]; rfl
    have hql := decB_len (Int.tdiv n 10) (by unfold i64ok; omega)
    rcases hbig with h | h
    · have c1 : ¬ 0 ≤ n := by omega
      have c3 : n < 0 := by omega
      have c2 : ¬ -10 < n := by omega
      have hneg : Int.tmod n 10 ≤ 0 := by
        have := Int.neg_tmod n 10
        have h2 : 0 ≤ Int.tmod (-n) 10 := by rw [Int.tmod_eq_emod_of_nonneg (by omega)]; omega
        omega
      have hlen : (decB ((n.natAbs % 10 : Nat) : Int)).length ≤ 20 := decB_len _ (by unfold i64ok; omega)
      by_cases hz : Int.tmod n 10 < 0
      · refine apure_fin mixed [] 400 Tryz.func91 Tryz.ntmps91 Tryz.results91 rfl rfl (by simp) rfl ?_
        simp (disch := first | omega | (simp only [ZL] <;> omega)) only [Z, Op.callOf, bslE, nilE, mslE, fadE, AV.cells, AV.isBot, AV.one, AV.flat, flatL, ids1, ids2, idsX, AV.lt, ltL, AObj.lt, finE, reduceCtorEq, reduceIte, Nat.reduceEqDiff, Nat.reduceAdd, Nat.reduceLeDiff, Nat.reduceMul, Nat.reduceLT, Nat.reduceBEq, Nat.reduceSub, Int.reduceToNat, Int.reduceLT, Int.reduceLE, Int.reduceAdd, Int.reduceSub, Int.reduceMul, Int.reduceGT, Int.reduceGE, Int.reduceEq, Int.reduceNe, Int.reduceNeg, c1, c2, c3, hz]
        refine callL_pure (ih _ (by split at hm <;> split <;> omega) (by unfold i64ok; omega)) (by simp [ltL, AV.lt]) rfl ?_
        simp (disch := first | omega | (simp only [ZL] <;> omega)) only [Z, Op.callOf, bslE, nilE, mslE, fadE, AV.cells, AV.isBot, AV.one, AV.flat, flatL, ids1, ids2, idsX, AV.lt, ltL, AObj.lt, finE, reduceCtorEq, reduceIte, Nat.reduceEqDiff, Nat.reduceAdd, Nat.reduceLeDiff, Nat.reduceMul, Nat.reduceLT, Nat.reduceBEq, Nat.reduceSub, Int.reduceToNat, Int.reduceLT, Int.reduceLE, Int.reduceAdd, Int.reduceSub, Int.reduceMul, Int.reduceGT, Int.reduceGE, Int.reduceEq, Int.reduceNe, Int.reduceNeg]
        have e : 0 - Int.tmod n 10 = ((n.natAbs % 10 : Nat) : Int) := by omega
        rw [e]
        refine callL_pure (ih _ (by split at hm <;> split <;> omega) (by unfold i64ok; omega)) (by simp [ltL, AV.lt]) rfl ?_
        simp (disch := first | omega | (simp only [ZL] <;> omega)) only [Z, Op.callOf, bslE, nilE, mslE, fadE, AV.cells, AV.isBot, AV.one, AV.flat, flatL, ids1, ids2, idsX, AV.lt, ltL, AObj.lt, finE, reduceCtorEq, reduceIte, Nat.reduceEqDiff, Nat.reduceAdd, Nat.reduceLeDiff, Nat.reduceMul, Nat.reduceLT, Nat.reduceBEq, Nat.reduceSub, Int.reduceToNat, Int.reduceLT, Int.reduceLE, Int.reduceAdd, Int.reduceSub, Int.reduceMul, Int.reduceGT, Int.reduceGE, Int.reduceEq, Int.reduceNe, Int.reduceNeg]
        rw [decB_big n (.inl h) _ rfl]
        repeat' first | exact Sub.rfl' _ | exact sub_nils _ | exact SubL.nil | refine sub_tup ?_ | refine sub_agg ?_ | refine SubL.cons ?_ ?_
      · have e : Int.tmod n 10 = ((n.natAbs % 10 : Nat) : Int) := by omega
        have hz' : ¬ ((n.natAbs % 10 : Nat) : Int) < 0 := by omega
        refine apure_fin mixed [] 400 Tryz.func91 Tryz.ntmps91 Tryz.results91 rfl rfl (by simp) rfl ?_
        simp (disch := first | omega | (simp only [ZL] <;> omega)) only [Z, Op.callOf, bslE, nilE, mslE, fadE, AV.cells, AV.isBot, AV.one, AV.flat, flatL, ids1, ids2, idsX, AV.lt, ltL, AObj.lt, finE, reduceCtorEq, reduceIte, Nat.reduceEqDiff, Nat.reduceAdd, Nat.reduceLeDiff, Nat.reduceMul, Nat.reduceLT, Nat.reduceBEq, Nat.reduceSub, Int.reduceToNat, Int.reduceLT, Int.reduceLE, Int.reduceAdd, Int.reduceSub, Int.reduceMul, Int.reduceGT, Int.reduceGE, Int.reduceEq, Int.reduceNe, Int.reduceNeg, c1, c2, c3, e, hz']
        refine callL_pure (ih _ (by split at hm <;> split <;> omega) (by unfold i64ok; omega)) (by simp [ltL, AV.lt]) rfl ?_
        simp (disch := first | omega | (simp only [ZL] <;> omega)) only [Z, Op.callOf, bslE, nilE, mslE, fadE, AV.cells, AV.isBot, AV.one, AV.flat, flatL, ids1, ids2, idsX, AV.lt, ltL, AObj.lt, finE, reduceCtorEq, reduceIte, Nat.reduceEqDiff, Nat.reduceAdd, Nat.reduceLeDiff, Nat.reduceMul, Nat.reduceLT, Nat.reduceBEq, Nat.reduceSub, Int.reduceToNat, Int.reduceLT, Int.reduceLE, Int.reduceAdd, Int.reduceSub, Int.reduceMul, Int.reduceGT, Int.reduceGE, Int.reduceEq, Int.reduceNe, Int.reduceNeg]
        refine callL_pure (ih _ (by split at hm <;> split <;> omega) (by unfold i64ok; omega)) (by simp [ltL, AV.lt]) rfl ?_
        simp (disch := first | omega | (simp only [ZL] <;> omega)) only [Z, Op.callOf, bslE, nilE, mslE, fadE, AV.cells, AV.isBot, AV.one, AV.flat, flatL, ids1, ids2, idsX, AV.lt, ltL, AObj.lt, finE, reduceCtorEq, reduceIte, Nat.reduceEqDiff, Nat.reduceAdd, Nat.reduceLeDiff, Nat.reduceMul, Nat.reduceLT, Nat.reduceBEq, Nat.reduceSub, Int.reduceToNat, Int.reduceLT, Int.reduceLE, Int.reduceAdd, Int.reduceSub, Int.reduceMul, Int.reduceGT, Int.reduceGE, Int.reduceEq, Int.reduceNe, Int.reduceNeg]
        rw [decB_big n (.inl h) _ rfl]
        repeat' first | exact Sub.rfl' _ | exact sub_nils _ | exact SubL.nil | refine sub_tup ?_ | refine sub_agg ?_ | refine SubL.cons ?_ ?_
    · have c1 : 0 ≤ n := by omega
      have c3 : ¬ n < 0 := by omega
      have c2 : ¬ n < 10 := by omega
      have e : Int.tmod n 10 = ((n.natAbs % 10 : Nat) : Int) := by rw [Int.tmod_eq_emod_of_nonneg (by omega)]; omega
      have hz' : ¬ ((n.natAbs % 10 : Nat) : Int) < 0 := by omega
      have hlen : (decB ((n.natAbs % 10 : Nat) : Int)).length ≤ 20 := decB_len _ (by unfold i64ok; omega)
      refine apure_fin mixed [] 400 Tryz.func91 Tryz.ntmps91 Tryz.results91 rfl rfl (by simp) rfl ?_
      simp (disch := first | omega | (simp only [ZL] <;> omega)) only [Z, Op.callOf, bslE, nilE, mslE, fadE, AV.cells, AV.isBot, AV.one, AV.flat, flatL, ids1, ids2, idsX, AV.lt, ltL, AObj.lt, finE, reduceCtorEq, reduceIte, Nat.reduceEqDiff, Nat.reduceAdd, Nat.reduceLeDiff, Nat.reduceMul, Nat.reduceLT, Nat.reduceBEq, Nat.reduceSub, Int.reduceToNat, Int.reduceLT, Int.reduceLE, Int.reduceAdd, Int.reduceSub, Int.reduceMul, Int.reduceGT, Int.reduceGE, Int.reduceEq, Int.reduceNe, Int.reduceNeg, c1, c2, c3, e, hz']
      refine callL_pure (ih _ (by split at hm <;> split <;> omega) (by unfold i64ok; omega)) (by simp [ltL, AV.lt]) rfl ?_
      simp (disch := first | omega | (simp only [ZL] <;> omega)) only [Z, Op.callOf, bslE, nilE, mslE, fadE, AV.cells, AV.isBot, AV.one, AV.flat, flatL, ids1, ids2, idsX, AV.lt, ltL, AObj.lt, finE, reduceCtorEq, reduceIte, Nat.reduceEqDiff, Nat.reduceAdd, Nat.reduceLeDiff, Nat.reduceMul, Nat.reduceLT, Nat.reduceBEq, Nat.reduceSub, Int.reduceToNat, Int.reduceLT, Int.reduceLE, Int.reduceAdd, Int.reduceSub, Int.reduceMul, Int.reduceGT, Int.reduceGE, Int.reduceEq, Int.reduceNe, Int.reduceNeg]
      refine callL_pure (ih _ (by split at hm <;> split <;> omega) (by unfold i64ok; omega)) (by simp [ltL, AV.lt]) rfl ?_
      simp (disch := first | omega | (simp only [ZL] <;> omega)) only [Z, Op.callOf, bslE, nilE, mslE, fadE, AV.cells, AV.isBot, AV.one, AV.flat, flatL, ids1, ids2, idsX, AV.lt, ltL, AObj.lt, finE, reduceCtorEq, reduceIte, Nat.reduceEqDiff, Nat.reduceAdd, Nat.reduceLeDiff, Nat.reduceMul, Nat.reduceLT, Nat.reduceBEq, Nat.reduceSub, Int.reduceToNat, Int.reduceLT, Int.reduceLE, Int.reduceAdd, Int.reduceSub, Int.reduceMul, Int.reduceGT, Int.reduceGE, Int.reduceEq, Int.reduceNe, Int.reduceNeg]
      rw [decB_big n (.inr h) _ rfl]
      repeat' first | exact Sub.rfl' _ | exact sub_nils _ | exact SubL.nil | refine sub_tup ?_ | refine sub_agg ?_ | refine SubL.cons ?_ ?_
end Go.Ab
