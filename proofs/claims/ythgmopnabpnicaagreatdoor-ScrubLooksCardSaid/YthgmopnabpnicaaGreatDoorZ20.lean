import Derived.Test.YthgmopnabpnicaaGreatDoorZ19
set_option linter.all false
namespace Go.Ab
open Go Go.Proofs
theorem c64_r (n : Nat) : IntKind.u32.wrap (Int.tmod (n : Int) 4294967296) = ((UInt32.ofNat n).toNat : Int) := by
  rw [Int.tmod_eq_emod_of_nonneg (by omega), IntKind.wrap_u32]; simp
theorem c64_q (n : Nat) (h : n < 2^64) : IntKind.u64.wrap (Int.tdiv (n : Int) 4294967296) = ((n / 4294967296 : Nat) : Int) := by
  rw [Int.tdiv_eq_ediv_of_nonneg (by omega), IntKind.wrap_u64]; omega
theorem v32_comp (x : UInt32) : IntKind.u32.wrap (4294967295 - (x.toNat : Int)) = ((~~~x).toNat : Int) := by
  have hx := x.toNat_lt
  rw [IntKind.wrap_u32, UInt32.toNat_not]
  simp; omega
theorem rowLits_len : rowLits.length = 10 := by decide +kernel
theorem dg_4 (i : Nat) : (i : Int) + 4 = ((i + 4 : Nat) : Int) := by omega
theorem dg_12 (i : Nat) : (i : Int) + 12 = ((i + 12 : Nat) : Int) := by omega
theorem dg_s4 (i : Nat) (h : 4 ≤ i) : (i : Int) - 4 = ((i - 4 : Nat) : Int) := by omega
theorem dg_s8 (i : Nat) (h : 8 ≤ i) : (i : Int) - 8 = ((i - 8 : Nat) : Int) := by omega
theorem app8_lt (h : List UInt32) (i : Nat) (hh : h.length = 8) (hi : i < 8) : (h ++ eightS).getD i 0 = h.getD i 0 := by
  simp [List.getD, List.getElem?_append_left (show i < h.length by omega)]
theorem app8_ge (h : List UInt32) (i : Nat) (hh : h.length = 8) (hi : 8 ≤ i) : (h ++ eightS).getD i 0 = eightS.getD (i - 8) 0 := by
  simp [List.getD, List.getElem?_append_right (show h.length ≤ i by omega), hh]
variable [Glob] [LibC]
set_option maxHeartbeats 1000000

theorem rtake_c (h : List UInt32) (hh : h.length = 8) (block : List UInt8) (hb : block.length = 64) (count : Nat) (hc : count < 2^64) (last : Bool) :
    APure Tryz.prog 149 [.agg (e32 h), .str block, .int .u64 count, .bool last] (.agg (e32 (takeS h block count last))) := by
  refine apure_fin mixed [] 400 Tryz.func149 Tryz.ntmps149 Tryz.results149 rfl rfl (by simp) rfl ?_
  simp (disch := first | omega | (simp only [ZL] <;> omega)) only [Z, Op.callOf, bslE, nilE, mslE, fadE, AV.cells, AV.isBot, AV.one, AV.flat, flatL, ids1, ids2, idsX, AV.lt, ltL, AObj.lt, finE, reduceCtorEq, reduceIte, Nat.reduceEqDiff, Nat.reduceAdd, Nat.reduceLeDiff, Nat.reduceMul, Nat.reduceLT, Nat.reduceBEq, Nat.reduceSub, Int.reduceToNat, Int.reduceLT, Int.reduceLE, Int.reduceAdd, Int.reduceSub, Int.reduceMul, Int.reduceGT, Int.reduceGE, Int.reduceEq, Int.reduceNe, Int.reduceNeg, e32_len]
  refine callL_pure reight_c (by simp [ltL]) rfl ?_
  have h8 := eight_len
  simp (disch := first | omega | (simp only [ZL] <;> omega)) only [Z, Op.callOf, bslE, nilE, mslE, fadE, AV.cells, AV.isBot, AV.one, AV.flat, flatL, ids1, ids2, idsX, AV.lt, ltL, AObj.lt, finE, reduceCtorEq, reduceIte, Nat.reduceEqDiff, Nat.reduceAdd, Nat.reduceLeDiff, Nat.reduceMul, Nat.reduceLT, Nat.reduceBEq, Nat.reduceSub, Int.reduceToNat, Int.reduceLT, Int.reduceLE, Int.reduceAdd, Int.reduceSub, Int.reduceMul, Int.reduceGT, Int.reduceGE, Int.reduceEq, Int.reduceNe, Int.reduceNeg, e32_len, e32_one, h8, e32_set0]
  refine loopF mixed (fun p : Nat × List UInt32 × List UInt32 => mk [(1, .str block), (2, .int .u64 count), (3, .bool last), (4, .ptr 0 0), (8, .ptr 1 0), (9, .ptr 2 0), (10, .ptr 3 0), (11, .ptr 4 0), (12, .int .i64 p.1)]
      [(0, .box (e32 h)), (1, .box (e32 (List.replicate 8 0))), (2, .box (e32 p.2.2)), (3, .box (e32 p.2.1)), (4, .box (e32 eightS))] 5)
    (fun p => p.1 ≤ 16 ∧ p.2.1.length = 16 ∧ p.2.2.length = 16 ∧ (∀ i, i < p.1 → p.2.1.getD i 0 = (wordsS block).getD i 0) ∧ ∀ i, i < p.1 → p.2.2.getD i 0 = (h ++ eightS).getD i 0) (fun p => 16 - p.1) (0, zero16, zero16) 400 rfl rfl
      ⟨by simp, by simp [zero16], by simp [zero16], by intro i hi; omega, by intro i hi; omega⟩ ?_ ?_
  · refine less_mk (by simp) (by simp) ?_ ?_ <;> simp (disch := first | omega | (simp only [ZL] <;> omega)) only [Z, Op.callOf, bslE, nilE, mslE, fadE, AV.cells, AV.isBot, AV.one, AV.flat, flatL, ids1, ids2, idsX, AV.lt, ltL, AObj.lt, finE, reduceCtorEq, reduceIte, Nat.reduceEqDiff, Nat.reduceAdd, Nat.reduceLeDiff, Nat.reduceMul, Nat.reduceLT, Nat.reduceBEq, Nat.reduceSub, Int.reduceToNat, Int.reduceLT, Int.reduceLE, Int.reduceAdd, Int.reduceSub, Int.reduceMul, Int.reduceGT, Int.reduceGE, Int.reduceEq, Int.reduceNe, Int.reduceNeg, e32_lt]
    exact ⟨rfl, rfl⟩
  rintro ⟨k, m, v⟩ ⟨hk, hm, hv, hw, hx⟩
  dsimp only at hk hm hv hw hx
  simp (disch := first | omega | (simp only [ZL] <;> omega)) only [Z, Op.callOf, bslE, nilE, mslE, fadE, AV.cells, AV.isBot, AV.one, AV.flat, flatL, ids1, ids2, idsX, AV.lt, ltL, AObj.lt, finE, reduceCtorEq, reduceIte, Nat.reduceEqDiff, Nat.reduceAdd, Nat.reduceLeDiff, Nat.reduceMul, Nat.reduceLT, Nat.reduceBEq, Nat.reduceSub, Int.reduceToNat, Int.reduceLT, Int.reduceLE, Int.reduceAdd, Int.reduceSub, Int.reduceMul, Int.reduceGT, Int.reduceGE, Int.reduceEq, Int.reduceNe, Int.reduceNeg]
  refine condG_p (fun e => ?_) (fun e => ?_)
  · have hk' : k < 16 := by omega
    have hword : (((block.getD (4 * k) 0).toUInt32 + (block.getD (4 * k + 1) 0).toUInt32 * UInt32.ofNat 256) + (block.getD (4 * k + 2) 0).toUInt32 * UInt32.ofNat 65536) + (block.getD (4 * k + 3) 0).toUInt32 * UInt32.ofNat 16777216 = (wordsS block).getD k 0 := by
      rw [words_get _ _ hk', word_sum]
      simp only [wordS, getD_drop8, Nat.add_zero]
    simp (disch := first | omega | (simp only [ZL] <;> omega)) only [Z, Op.callOf, bslE, nilE, mslE, fadE, AV.cells, AV.isBot, AV.one, AV.flat, flatL, ids1, ids2, idsX, AV.lt, ltL, AObj.lt, finE, reduceCtorEq, reduceIte, Nat.reduceEqDiff, Nat.reduceAdd, Nat.reduceLeDiff, Nat.reduceMul, Nat.reduceLT, Nat.reduceBEq, Nat.reduceSub, Int.reduceToNat, Int.reduceLT, Int.reduceLE, Int.reduceAdd, Int.reduceSub, Int.reduceMul, Int.reduceGT, Int.reduceGE, Int.reduceEq, Int.reduceNe, Int.reduceNeg, dg_4m, dg_1, dg_2, dg_3, c8_32, Nat.mul_one, e32_len, e32_set, hword]
    refine okK_of (by kernel_rfl) ?_
    by_cases e8 : (k : Int) < 8
    · have k8 : k < 8 := by omega
      simp (disch := first | omega | (simp only [ZL] <;> omega)) only [Z, Op.callOf, bslE, nilE, mslE, fadE, AV.cells, AV.isBot, AV.one, AV.flat, flatL, ids1, ids2, idsX, AV.lt, ltL, AObj.lt, finE, reduceCtorEq, reduceIte, Nat.reduceEqDiff, Nat.reduceAdd, Nat.reduceLeDiff, Nat.reduceMul, Nat.reduceLT, Nat.reduceBEq, Nat.reduceSub, Int.reduceToNat, Int.reduceLT, Int.reduceLE, Int.reduceAdd, Int.reduceSub, Int.reduceMul, Int.reduceGT, Int.reduceGE, Int.reduceEq, Int.reduceNe, Int.reduceNeg, e8, Nat.mul_one, e32_len, e32_get, e32_set]
      refine finR_of (k + 1, m.set k ((wordsS block).getD k 0), v.set k (h.getD k 0)) ⟨by dsimp only; omega, by simpa using hm, by simpa using hv, fun i hi => ?_, fun i hi => ?_⟩ (by dsimp only; omega) ?_
      · dsimp only at hi ⊢
        by_cases ei : k = i
        · subst ei; rw [getD_set_eq _ _ _ (by omega)]
        · rw [getD_set_ne32 _ _ _ _ ei]; exact hw i (by omega)
      · dsimp only at hi ⊢
        by_cases ei : k = i
        · subst ei; rw [getD_set_eq _ _ _ (by omega), app8_lt _ _ hh k8]
        · rw [getD_set_ne32 _ _ _ _ ei]; exact hx i (by omega)
      · refine less_mk (by simp) (by simp) ?_ ?_ <;> simp (disch := first | omega | (simp only [ZL] <;> omega)) only [Z, Op.callOf, bslE, nilE, mslE, fadE, AV.cells, AV.isBot, AV.one, AV.flat, flatL, ids1, ids2, idsX, AV.lt, ltL, AObj.lt, finE, reduceCtorEq, reduceIte, Nat.reduceEqDiff, Nat.reduceAdd, Nat.reduceLeDiff, Nat.reduceMul, Nat.reduceLT, Nat.reduceBEq, Nat.reduceSub, Int.reduceToNat, Int.reduceLT, Int.reduceLE, Int.reduceAdd, Int.reduceSub, Int.reduceMul, Int.reduceGT, Int.reduceGE, Int.reduceEq, Int.reduceNe, Int.reduceNeg, e32_lt, i64_add1]
    · have k8 : 8 ≤ k := by omega
      simp (disch := first | omega | (simp only [ZL] <;> omega)) only [Z, Op.callOf, bslE, nilE, mslE, fadE, AV.cells, AV.isBot, AV.one, AV.flat, flatL, ids1, ids2, idsX, AV.lt, ltL, AObj.lt, finE, reduceCtorEq, reduceIte, Nat.reduceEqDiff, Nat.reduceAdd, Nat.reduceLeDiff, Nat.reduceMul, Nat.reduceLT, Nat.reduceBEq, Nat.reduceSub, Int.reduceToNat, Int.reduceLT, Int.reduceLE, Int.reduceAdd, Int.reduceSub, Int.reduceMul, Int.reduceGT, Int.reduceGE, Int.reduceEq, Int.reduceNe, Int.reduceNeg, e8, dg_s8, h8, Nat.mul_one, e32_len, e32_get, e32_set]
      refine finR_of (k + 1, m.set k ((wordsS block).getD k 0), v.set k (eightS.getD (k - 8) 0)) ⟨by dsimp only; omega, by simpa using hm, by simpa using hv, fun i hi => ?_, fun i hi => ?_⟩ (by dsimp only; omega) ?_
      · dsimp only at hi ⊢
        by_cases ei : k = i
        · subst ei; rw [getD_set_eq _ _ _ (by omega)]
        · rw [getD_set_ne32 _ _ _ _ ei]; exact hw i (by omega)
      · dsimp only at hi ⊢
        by_cases ei : k = i
        · subst ei; rw [getD_set_eq _ _ _ (by omega), app8_ge _ _ hh k8]
        · rw [getD_set_ne32 _ _ _ _ ei]; exact hx i (by omega)
      · refine less_mk (by simp) (by simp) ?_ ?_ <;> simp (disch := first | omega | (simp only [ZL] <;> omega)) only [Z, Op.callOf, bslE, nilE, mslE, fadE, AV.cells, AV.isBot, AV.one, AV.flat, flatL, ids1, ids2, idsX, AV.lt, ltL, AObj.lt, finE, reduceCtorEq, reduceIte, Nat.reduceEqDiff, Nat.reduceAdd, Nat.reduceLeDiff, Nat.reduceMul, Nat.reduceLT, Nat.reduceBEq, Nat.reduceSub, Int.reduceToNat, Int.reduceLT, Int.reduceLE, Int.reduceAdd, Int.reduceSub, Int.reduceMul, Int.reduceGT, Int.reduceGE, Int.reduceEq, Int.reduceNe, Int.reduceNeg, e32_lt, i64_add1]
  · have hmw : m = wordsS block := list_ext16 _ _ 16 hm (words_len _) fun i hi => hw i (by omega)
    have hvw : v = h ++ eightS := list_ext16 _ _ 16 hv (by simp [hh, h8]) fun i hi => hx i (by omega)
    subst hmw
    subst hvw
    simp (disch := first | omega | (simp only [ZL] <;> omega)) only [Z, Op.callOf, bslE, nilE, mslE, fadE, AV.cells, AV.isBot, AV.one, AV.flat, flatL, ids1, ids2, idsX, AV.lt, ltL, AObj.lt, finE, reduceCtorEq, reduceIte, Nat.reduceEqDiff, Nat.reduceAdd, Nat.reduceLeDiff, Nat.reduceMul, Nat.reduceLT, Nat.reduceBEq, Nat.reduceSub, Int.reduceToNat, Int.reduceLT, Int.reduceLE, Int.reduceAdd, Int.reduceSub, Int.reduceMul, Int.reduceGT, Int.reduceGE, Int.reduceEq, Int.reduceNe, Int.reduceNeg, e32_len, Nat.mul_one, e32_get, e32_set, c64_r count, c64_q count hc, c64_32 (count / 4294967296), List.length_set]
    refine condG_b (fun e1 => ?_) (fun e1 => ?_)
    · simp (disch := first | omega | (simp only [ZL] <;> omega)) only [Z, Op.callOf, bslE, nilE, mslE, fadE, AV.cells, AV.isBot, AV.one, AV.flat, flatL, ids1, ids2, idsX, AV.lt, ltL, AObj.lt, finE, reduceCtorEq, reduceIte, Nat.reduceEqDiff, Nat.reduceAdd, Nat.reduceLeDiff, Nat.reduceMul, Nat.reduceLT, Nat.reduceBEq, Nat.reduceSub, Int.reduceToNat, Int.reduceLT, Int.reduceLE, Int.reduceAdd, Int.reduceSub, Int.reduceMul, Int.reduceGT, Int.reduceGE, Int.reduceEq, Int.reduceNe, Int.reduceNeg, e32_len, Nat.mul_one, e32_get, e32_set, List.length_set, v32_comp]
      have hm16 := words_len block
      have hs16 := start_len h count last hh
      refine loopF mixed (fun p : Nat × List UInt32 => mk [(4, .ptr 0 0), (8, .ptr 1 0), (9, .ptr 2 0), (10, .ptr 3 0), (13, .int .i64 p.1)]
          [(0, .box (e32 h)), (1, .box (e32 (List.replicate 8 0))), (3, .box (e32 (wordsS block))), (2, .box (e32 p.2))] 5)
        (fun p => p.1 ≤ 10 ∧ p.2.length = 16 ∧ outerR (wordsS block) (10 - p.1) p.1 p.2 = outerR (wordsS block) 10 0 (startV h count last)) (fun p => 10 - p.1) (0, startV h count last) 400 rfl rfl ⟨by simp, hs16, rfl⟩ ?_ ?_
      · refine less_mk (by simp) (by simp) ?_ ?_ <;> simp (disch := first | omega | (simp only [ZL] <;> omega)) only [Z, Op.callOf, bslE, nilE, mslE, fadE, AV.cells, AV.isBot, AV.one, AV.flat, flatL, ids1, ids2, idsX, AV.lt, ltL, AObj.lt, finE, reduceCtorEq, reduceIte, Nat.reduceEqDiff, Nat.reduceAdd, Nat.reduceLeDiff, Nat.reduceMul, Nat.reduceLT, Nat.reduceBEq, Nat.reduceSub, Int.reduceToNat, Int.reduceLT, Int.reduceLE, Int.reduceAdd, Int.reduceSub, Int.reduceMul, Int.reduceGT, Int.reduceGE, Int.reduceEq, Int.reduceNe, Int.reduceNeg, e32_lt]
        subst e1
        rfl
      rintro ⟨r, v⟩ ⟨hr, hv, hJ⟩
      dsimp only at hr hv hJ
      simp (disch := first | omega | (simp only [ZL] <;> omega)) only [Z, Op.callOf, bslE, nilE, mslE, fadE, AV.cells, AV.isBot, AV.one, AV.flat, flatL, ids1, ids2, idsX, AV.lt, ltL, AObj.lt, finE, reduceCtorEq, reduceIte, Nat.reduceEqDiff, Nat.reduceAdd, Nat.reduceLeDiff, Nat.reduceMul, Nat.reduceLT, Nat.reduceBEq, Nat.reduceSub, Int.reduceToNat, Int.reduceLT, Int.reduceLE, Int.reduceAdd, Int.reduceSub, Int.reduceMul, Int.reduceGT, Int.reduceGE, Int.reduceEq, Int.reduceNe, Int.reduceNeg]
      refine condG_p (fun e => ?_) (fun e => ?_)
      · have hr' : r < 10 := by omega
        obtain ⟨m10, hm10⟩ : ∃ m, 10 - r = m + 1 := ⟨9 - r, by omega⟩
        rw [hm10, outerR] at hJ
        have hrl := rowLits_len
        have hlit := rowLit_at ⟨r, hr'⟩
        dsimp only at hlit
        have hge : rowLits[r]'(by omega) = rowLits.getD r [] := (getD_lt rowLits r [] (by omega)).symm
        simp (disch := first | omega | (simp only [ZL] <;> omega)) only [Z, Op.callOf, bslE, nilE, mslE, fadE, AV.cells, AV.isBot, AV.one, AV.flat, flatL, ids1, ids2, idsX, AV.lt, ltL, AObj.lt, finE, reduceCtorEq, reduceIte, Nat.reduceEqDiff, Nat.reduceAdd, Nat.reduceLeDiff, Nat.reduceMul, Nat.reduceLT, Nat.reduceBEq, Nat.reduceSub, Int.reduceToNat, Int.reduceLT, Int.reduceLE, Int.reduceAdd, Int.reduceSub, Int.reduceMul, Int.reduceGT, Int.reduceGE, Int.reduceEq, Int.reduceNe, Int.reduceNeg]
        refine callL_pure rrows_c (by simp [ltL]) rfl ?_
        simp (disch := first | omega | (simp only [ZL] <;> omega)) only [Z, Op.callOf, bslE, nilE, mslE, fadE, AV.cells, AV.isBot, AV.one, AV.flat, flatL, ids1, ids2, idsX, AV.lt, ltL, AObj.lt, finE, reduceCtorEq, reduceIte, Nat.reduceEqDiff, Nat.reduceAdd, Nat.reduceLeDiff, Nat.reduceMul, Nat.reduceLT, Nat.reduceBEq, Nat.reduceSub, Int.reduceToNat, Int.reduceLT, Int.reduceLE, Int.reduceAdd, Int.reduceSub, Int.reduceMul, Int.reduceGT, Int.reduceGE, Int.reduceEq, Int.reduceNe, Int.reduceNeg, encT, hge]
        have hlen : (rowLits.getD r []).length = 16 := (hlit ⟨0, by decide⟩).2.2
        generalize rowLits.getD r [] = lit at hlit hlen ⊢
        refine loopF mixed (fun p : Nat × List UInt32 => mk [(4, .ptr 0 0), (8, .ptr 1 0), (9, .ptr 2 0), (10, .ptr 3 0), (13, .int .i64 r), (14, .str lit), (15, .int .i64 p.1)]
            [(0, .box (e32 h)), (1, .box (e32 (List.replicate 8 0))), (3, .box (e32 (wordsS block))), (2, .box (e32 p.2))] 5)
          (fun p => p.1 ≤ 8 ∧ p.2.length = 16 ∧ innerR (wordsS block) r (8 - p.1) p.1 p.2 = innerR (wordsS block) r 8 0 v) (fun p => 8 - p.1) (0, v) 400 rfl rfl ⟨by simp, hv, rfl⟩ ?_ ?_
        · refine less_mk (by simp) (by simp) ?_ ?_ <;> simp (disch := first | omega | (simp only [ZL] <;> omega)) only [Z, Op.callOf, bslE, nilE, mslE, fadE, AV.cells, AV.isBot, AV.one, AV.flat, flatL, ids1, ids2, idsX, AV.lt, ltL, AObj.lt, finE, reduceCtorEq, reduceIte, Nat.reduceEqDiff, Nat.reduceAdd, Nat.reduceLeDiff, Nat.reduceMul, Nat.reduceLT, Nat.reduceBEq, Nat.reduceSub, Int.reduceToNat, Int.reduceLT, Int.reduceLE, Int.reduceAdd, Int.reduceSub, Int.reduceMul, Int.reduceGT, Int.reduceGE, Int.reduceEq, Int.reduceNe, Int.reduceNeg, e32_lt]
        rintro ⟨j, u⟩ ⟨hj, hu, hI⟩
        dsimp only at hj hu hI
        simp (disch := first | omega | (simp only [ZL] <;> omega)) only [Z, Op.callOf, bslE, nilE, mslE, fadE, AV.cells, AV.isBot, AV.one, AV.flat, flatL, ids1, ids2, idsX, AV.lt, ltL, AObj.lt, finE, reduceCtorEq, reduceIte, Nat.reduceEqDiff, Nat.reduceAdd, Nat.reduceLeDiff, Nat.reduceMul, Nat.reduceLT, Nat.reduceBEq, Nat.reduceSub, Int.reduceToNat, Int.reduceLT, Int.reduceLE, Int.reduceAdd, Int.reduceSub, Int.reduceMul, Int.reduceGT, Int.reduceGE, Int.reduceEq, Int.reduceNe, Int.reduceNeg]
        refine condG_p (fun e2 => ?_) (fun e2 => ?_)
        · have hj' : j < 8 := by omega
          obtain ⟨q, hq⟩ : ∃ q, 8 - j = q + 1 := ⟨7 - j, by omega⟩
          rw [hq, innerR] at hI
          obtain ⟨p1, p2, _⟩ := hlit ⟨2 * j, by omega⟩
          obtain ⟨p3, p4, _⟩ := hlit ⟨2 * j + 1, by omega⟩
          dsimp only at p1 p2 p3 p4
          have w1 := (rowN_lt r (2 * j) hr' (by omega)).1
          have w2 := (rowN_lt r (2 * j + 1) hr' (by omega)).1
          simp (disch := first | omega | (simp only [ZL] <;> omega)) only [Z, Op.callOf, bslE, nilE, mslE, fadE, AV.cells, AV.isBot, AV.one, AV.flat, flatL, ids1, ids2, idsX, AV.lt, ltL, AObj.lt, finE, reduceCtorEq, reduceIte, Nat.reduceEqDiff, Nat.reduceAdd, Nat.reduceLeDiff, Nat.reduceMul, Nat.reduceLT, Nat.reduceBEq, Nat.reduceSub, Int.reduceToNat, Int.reduceLT, Int.reduceLE, Int.reduceAdd, Int.reduceSub, Int.reduceMul, Int.reduceGT, Int.reduceGE, Int.reduceEq, Int.reduceNe, Int.reduceNeg, dg2, dg_1]
          refine callD_pure (place_c _ p1) (by simp [ltL, AV.lt]) ?_
          rw [p2]
          simp (disch := first | omega | (simp only [ZL] <;> omega)) only [Z, Op.callOf, bslE, nilE, mslE, fadE, AV.cells, AV.isBot, AV.one, AV.flat, flatL, ids1, ids2, idsX, AV.lt, ltL, AObj.lt, finE, reduceCtorEq, reduceIte, Nat.reduceEqDiff, Nat.reduceAdd, Nat.reduceLeDiff, Nat.reduceMul, Nat.reduceLT, Nat.reduceBEq, Nat.reduceSub, Int.reduceToNat, Int.reduceLT, Int.reduceLE, Int.reduceAdd, Int.reduceSub, Int.reduceMul, Int.reduceGT, Int.reduceGE, Int.reduceEq, Int.reduceNe, Int.reduceNeg, dg2, dg_1, Nat.mul_one, e32_len, e32_get]
          refine callD_pure (place_c _ p3) (by simp [ltL, AV.lt]) ?_
          rw [p4]
          simp (disch := first | omega | (simp only [ZL] <;> omega)) only [Z, Op.callOf, bslE, nilE, mslE, fadE, AV.cells, AV.isBot, AV.one, AV.flat, flatL, ids1, ids2, idsX, AV.lt, ltL, AObj.lt, finE, reduceCtorEq, reduceIte, Nat.reduceEqDiff, Nat.reduceAdd, Nat.reduceLeDiff, Nat.reduceMul, Nat.reduceLT, Nat.reduceBEq, Nat.reduceSub, Int.reduceToNat, Int.reduceLT, Int.reduceLE, Int.reduceAdd, Int.reduceSub, Int.reduceMul, Int.reduceGT, Int.reduceGE, Int.reduceEq, Int.reduceNe, Int.reduceNeg, dg2, dg_1, Nat.mul_one, e32_len, e32_get]
          refine okK_of (by kernel_rfl) ?_
          by_cases e3 : (j : Int) < 4
          · have j4 : j < 4 := by omega
            rw [stepS, if_pos j4] at hI
            simp (disch := first | omega | (simp only [ZL] <;> omega)) only [Z, Op.callOf, bslE, nilE, mslE, fadE, AV.cells, AV.isBot, AV.one, AV.flat, flatL, ids1, ids2, idsX, AV.lt, ltL, AObj.lt, finE, reduceCtorEq, reduceIte, Nat.reduceEqDiff, Nat.reduceAdd, Nat.reduceLeDiff, Nat.reduceMul, Nat.reduceLT, Nat.reduceBEq, Nat.reduceSub, Int.reduceToNat, Int.reduceLT, Int.reduceLE, Int.reduceAdd, Int.reduceSub, Int.reduceMul, Int.reduceGT, Int.reduceGE, Int.reduceEq, Int.reduceNe, Int.reduceNeg, e3, dg_4, dg_8, dg_12, e32_len, hu, e32_tk16]
            refine callL_pure (rmix_c u j (j + 4) (j + 8) (j + 12) _ _ hu (by omega) (by omega) (by omega) (by omega)) (by simp [ltL, AV.lt, e32_lt]) rfl ?_
            have hl := mix_len u j (j + 4) (j + 8) (j + 12) ((wordsS block).getD (rowN r (2 * j)) 0) ((wordsS block).getD (rowN r (2 * j + 1)) 0)
            simp (disch := first | omega | (simp only [ZL] <;> omega)) only [Z, Op.callOf, bslE, nilE, mslE, fadE, AV.cells, AV.isBot, AV.one, AV.flat, flatL, ids1, ids2, idsX, AV.lt, ltL, AObj.lt, finE, reduceCtorEq, reduceIte, Nat.reduceEqDiff, Nat.reduceAdd, Nat.reduceLeDiff, Nat.reduceMul, Nat.reduceLT, Nat.reduceBEq, Nat.reduceSub, Int.reduceToNat, Int.reduceLT, Int.reduceLE, Int.reduceAdd, Int.reduceSub, Int.reduceMul, Int.reduceGT, Int.reduceGE, Int.reduceEq, Int.reduceNe, Int.reduceNeg, e32_len, hu, hl, e32_one, e32_s08]
            refine finR_of (j + 1, mixS u j (j + 4) (j + 8) (j + 12) ((wordsS block).getD (rowN r (2 * j)) 0) ((wordsS block).getD (rowN r (2 * j + 1)) 0)) ⟨by dsimp only; omega, by rw [hl]; exact hu, ?_⟩ (by dsimp only; omega) ?_
            · dsimp only
              rw [show 8 - (j + 1) = q by omega, Nat.add_comm j 4, Nat.add_comm j 8, Nat.add_comm j 12]; exact hI
            · refine less_mk (by simp) (by simp) ?_ ?_ <;> simp (disch := first | omega | (simp only [ZL] <;> omega)) only [Z, Op.callOf, bslE, nilE, mslE, fadE, AV.cells, AV.isBot, AV.one, AV.flat, flatL, ids1, ids2, idsX, AV.lt, ltL, AObj.lt, finE, reduceCtorEq, reduceIte, Nat.reduceEqDiff, Nat.reduceAdd, Nat.reduceLeDiff, Nat.reduceMul, Nat.reduceLT, Nat.reduceBEq, Nat.reduceSub, Int.reduceToNat, Int.reduceLT, Int.reduceLE, Int.reduceAdd, Int.reduceSub, Int.reduceMul, Int.reduceGT, Int.reduceGE, Int.reduceEq, Int.reduceNe, Int.reduceNeg, e32_lt, i64_add1]
          · have j4 : 4 ≤ j := by omega
            rw [stepS, if_neg (by omega)] at hI
            simp (disch := first | omega | (simp only [ZL] <;> omega)) only [Z, Op.callOf, bslE, nilE, mslE, fadE, AV.cells, AV.isBot, AV.one, AV.flat, flatL, ids1, ids2, idsX, AV.lt, ltL, AObj.lt, finE, reduceCtorEq, reduceIte, Nat.reduceEqDiff, Nat.reduceAdd, Nat.reduceLeDiff, Nat.reduceMul, Nat.reduceLT, Nat.reduceBEq, Nat.reduceSub, Int.reduceToNat, Int.reduceLT, Int.reduceLE, Int.reduceAdd, Int.reduceSub, Int.reduceMul, Int.reduceGT, Int.reduceGE, Int.reduceEq, Int.reduceNe, Int.reduceNeg, e3, dg_s4, dg_a, dg_b, dg_c, dg_1, dg_2, dg_3, dg_m, e32_len, hu, e32_tk16]
            refine callL_pure (rmix_c u (j - 4) (4 + (j - 4 + 1) % 4) (8 + (j - 4 + 2) % 4) (12 + (j - 4 + 3) % 4) _ _ hu (by omega) (by omega) (by omega) (by omega)) (by simp [ltL, AV.lt, e32_lt]) rfl ?_
            have hl := mix_len u (j - 4) (4 + (j - 4 + 1) % 4) (8 + (j - 4 + 2) % 4) (12 + (j - 4 + 3) % 4) ((wordsS block).getD (rowN r (2 * j)) 0) ((wordsS block).getD (rowN r (2 * j + 1)) 0)
            simp (disch := first | omega | (simp only [ZL] <;> omega)) only [Z, Op.callOf, bslE, nilE, mslE, fadE, AV.cells, AV.isBot, AV.one, AV.flat, flatL, ids1, ids2, idsX, AV.lt, ltL, AObj.lt, finE, reduceCtorEq, reduceIte, Nat.reduceEqDiff, Nat.reduceAdd, Nat.reduceLeDiff, Nat.reduceMul, Nat.reduceLT, Nat.reduceBEq, Nat.reduceSub, Int.reduceToNat, Int.reduceLT, Int.reduceLE, Int.reduceAdd, Int.reduceSub, Int.reduceMul, Int.reduceGT, Int.reduceGE, Int.reduceEq, Int.reduceNe, Int.reduceNeg, e32_len, hu, hl, e32_one, e32_s08]
            refine finR_of (j + 1, mixS u (j - 4) (4 + (j - 4 + 1) % 4) (8 + (j - 4 + 2) % 4) (12 + (j - 4 + 3) % 4) ((wordsS block).getD (rowN r (2 * j)) 0) ((wordsS block).getD (rowN r (2 * j + 1)) 0)) ⟨by dsimp only; omega, by rw [hl]; exact hu, ?_⟩ (by dsimp only; omega) ?_
            · dsimp only
              rw [show 8 - (j + 1) = q by omega]; exact hI
            · refine less_mk (by simp) (by simp) ?_ ?_ <;> simp (disch := first | omega | (simp only [ZL] <;> omega)) only [Z, Op.callOf, bslE, nilE, mslE, fadE, AV.cells, AV.isBot, AV.one, AV.flat, flatL, ids1, ids2, idsX, AV.lt, ltL, AObj.lt, finE, reduceCtorEq, reduceIte, Nat.reduceEqDiff, Nat.reduceAdd, Nat.reduceLeDiff, Nat.reduceMul, Nat.reduceLT, Nat.reduceBEq, Nat.reduceSub, Int.reduceToNat, Int.reduceLT, Int.reduceLE, Int.reduceAdd, Int.reduceSub, Int.reduceMul, Int.reduceGT, Int.reduceGE, Int.reduceEq, Int.reduceNe, Int.reduceNeg, e32_lt, i64_add1]
        · have : j = 8 := by omega
          subst this
          rw [Nat.sub_self, innerR] at hI
          simp (disch := first | omega | (simp only [ZL] <;> omega)) only [Z, Op.callOf, bslE, nilE, mslE, fadE, AV.cells, AV.isBot, AV.one, AV.flat, flatL, ids1, ids2, idsX, AV.lt, ltL, AObj.lt, finE, reduceCtorEq, reduceIte, Nat.reduceEqDiff, Nat.reduceAdd, Nat.reduceLeDiff, Nat.reduceMul, Nat.reduceLT, Nat.reduceBEq, Nat.reduceSub, Int.reduceToNat, Int.reduceLT, Int.reduceLE, Int.reduceAdd, Int.reduceSub, Int.reduceMul, Int.reduceGT, Int.reduceGE, Int.reduceEq, Int.reduceNe, Int.reduceNeg]
          refine finR_of (r + 1, u) ⟨by dsimp only; omega, hu, ?_⟩ (by dsimp only; omega) ?_
          · dsimp only
            rw [show 10 - (r + 1) = m10 by omega, hI]; exact hJ
          · refine less_mk (by simp) (by simp) ?_ ?_ <;> simp (disch := first | omega | (simp only [ZL] <;> omega)) only [Z, Op.callOf, bslE, nilE, mslE, fadE, AV.cells, AV.isBot, AV.one, AV.flat, flatL, ids1, ids2, idsX, AV.lt, ltL, AObj.lt, finE, reduceCtorEq, reduceIte, Nat.reduceEqDiff, Nat.reduceAdd, Nat.reduceLeDiff, Nat.reduceMul, Nat.reduceLT, Nat.reduceBEq, Nat.reduceSub, Int.reduceToNat, Int.reduceLT, Int.reduceLE, Int.reduceAdd, Int.reduceSub, Int.reduceMul, Int.reduceGT, Int.reduceGE, Int.reduceEq, Int.reduceNe, Int.reduceNeg, e32_lt, i64_add1]
      · have hr10 : r = 10 := by omega
        subst hr10
        rw [Nat.sub_self, outerR] at hJ
        simp (disch := first | omega | (simp only [ZL] <;> omega)) only [Z, Op.callOf, bslE, nilE, mslE, fadE, AV.cells, AV.isBot, AV.one, AV.flat, flatL, ids1, ids2, idsX, AV.lt, ltL, AObj.lt, finE, reduceCtorEq, reduceIte, Nat.reduceEqDiff, Nat.reduceAdd, Nat.reduceLeDiff, Nat.reduceMul, Nat.reduceLT, Nat.reduceBEq, Nat.reduceSub, Int.reduceToNat, Int.reduceLT, Int.reduceLE, Int.reduceAdd, Int.reduceSub, Int.reduceMul, Int.reduceGT, Int.reduceGE, Int.reduceEq, Int.reduceNe, Int.reduceNeg]
        have ht : ∀ i, i < 8 → (takeS h block count last).getD i 0 = h.getD i 0 ^^^ (v.getD i 0 ^^^ v.getD (i + 8) 0) := by
          intro i hi
          rw [hJ]
          simp [takeS, List.getD, hi]
        have htl := take_len h block count last
        generalize takeS h block count last = T at ht htl ⊢
        clear hJ hs16
        refine loopF mixed (fun p : Nat × List UInt32 => mk [(4, .ptr 0 0), (8, .ptr 1 0), (9, .ptr 2 0), (19, .int .i64 p.1)]
            [(0, .box (e32 p.2)), (1, .box (e32 (List.replicate 8 0))), (2, .box (e32 v))] 5)
          (fun p => p.1 ≤ 8 ∧ p.2.length = 8 ∧ (∀ i, i < p.1 → p.2.getD i 0 = T.getD i 0) ∧ ∀ i, p.1 ≤ i → p.2.getD i 0 = h.getD i 0) (fun p => 8 - p.1) (0, h) 400 rfl rfl ⟨by simp, hh, by intro i hi; omega, fun _ _ => rfl⟩ ?_ ?_
        · refine less_mk (by simp) (by simp) ?_ ?_ <;> simp (disch := first | omega | (simp only [ZL] <;> omega)) only [Z, Op.callOf, bslE, nilE, mslE, fadE, AV.cells, AV.isBot, AV.one, AV.flat, flatL, ids1, ids2, idsX, AV.lt, ltL, AObj.lt, finE, reduceCtorEq, reduceIte, Nat.reduceEqDiff, Nat.reduceAdd, Nat.reduceLeDiff, Nat.reduceMul, Nat.reduceLT, Nat.reduceBEq, Nat.reduceSub, Int.reduceToNat, Int.reduceLT, Int.reduceLE, Int.reduceAdd, Int.reduceSub, Int.reduceMul, Int.reduceGT, Int.reduceGE, Int.reduceEq, Int.reduceNe, Int.reduceNeg, e32_lt]
        rintro ⟨k, g⟩ ⟨hk, hgl, ha, hb2⟩
        dsimp only at hk hgl ha hb2
        simp (disch := first | omega | (simp only [ZL] <;> omega)) only [Z, Op.callOf, bslE, nilE, mslE, fadE, AV.cells, AV.isBot, AV.one, AV.flat, flatL, ids1, ids2, idsX, AV.lt, ltL, AObj.lt, finE, reduceCtorEq, reduceIte, Nat.reduceEqDiff, Nat.reduceAdd, Nat.reduceLeDiff, Nat.reduceMul, Nat.reduceLT, Nat.reduceBEq, Nat.reduceSub, Int.reduceToNat, Int.reduceLT, Int.reduceLE, Int.reduceAdd, Int.reduceSub, Int.reduceMul, Int.reduceGT, Int.reduceGE, Int.reduceEq, Int.reduceNe, Int.reduceNeg]
        refine condG_p (fun e => ?_) (fun e => ?_)
        · have hk' : k < 8 := by omega
          simp (disch := first | omega | (simp only [ZL] <;> omega)) only [Z, Op.callOf, bslE, nilE, mslE, fadE, AV.cells, AV.isBot, AV.one, AV.flat, flatL, ids1, ids2, idsX, AV.lt, ltL, AObj.lt, finE, reduceCtorEq, reduceIte, Nat.reduceEqDiff, Nat.reduceAdd, Nat.reduceLeDiff, Nat.reduceMul, Nat.reduceLT, Nat.reduceBEq, Nat.reduceSub, Int.reduceToNat, Int.reduceLT, Int.reduceLE, Int.reduceAdd, Int.reduceSub, Int.reduceMul, Int.reduceGT, Int.reduceGE, Int.reduceEq, Int.reduceNe, Int.reduceNeg, dg_8, Nat.mul_one, e32_len, e32_get, e32_set]
          refine okK_of (by kernel_rfl) ?_
          simp (disch := first | omega | (simp only [ZL] <;> omega)) only [Z, Op.callOf, bslE, nilE, mslE, fadE, AV.cells, AV.isBot, AV.one, AV.flat, flatL, ids1, ids2, idsX, AV.lt, ltL, AObj.lt, finE, reduceCtorEq, reduceIte, Nat.reduceEqDiff, Nat.reduceAdd, Nat.reduceLeDiff, Nat.reduceMul, Nat.reduceLT, Nat.reduceBEq, Nat.reduceSub, Int.reduceToNat, Int.reduceLT, Int.reduceLE, Int.reduceAdd, Int.reduceSub, Int.reduceMul, Int.reduceGT, Int.reduceGE, Int.reduceEq, Int.reduceNe, Int.reduceNeg, dg_8, Nat.mul_one, e32_len, e32_get, e32_set]
          refine finR_of (k + 1, g.set k ((g.getD k 0 ^^^ v.getD k 0) ^^^ v.getD (k + 8) 0)) ⟨by dsimp only; omega, by simpa using hgl, fun i hi => ?_, fun i hi => ?_⟩ (by dsimp only; omega) ?_
          · dsimp only at hi ⊢
            by_cases ei : k = i
            · subst ei
              rw [getD_set_eq _ _ _ (by omega), ht _ hk', hb2 _ (Nat.le_refl _), UInt32.xor_assoc]
            · rw [getD_set_ne32 _ _ _ _ ei]; exact ha i (by omega)
          · dsimp only at hi ⊢
            rw [getD_set_ne32 _ _ _ _ (by omega)]; exact hb2 i (by omega)
          · refine less_mk (by simp) (by simp) ?_ ?_ <;> simp (disch := first | omega | (simp only [ZL] <;> omega)) only [Z, Op.callOf, bslE, nilE, mslE, fadE, AV.cells, AV.isBot, AV.one, AV.flat, flatL, ids1, ids2, idsX, AV.lt, ltL, AObj.lt, finE, reduceCtorEq, reduceIte, Nat.reduceEqDiff, Nat.reduceAdd, Nat.reduceLeDiff, Nat.reduceMul, Nat.reduceLT, Nat.reduceBEq, Nat.reduceSub, Int.reduceToNat, Int.reduceLT, Int.reduceLE, Int.reduceAdd, Int.reduceSub, Int.reduceMul, Int.reduceGT, Int.reduceGE, Int.reduceEq, Int.reduceNe, Int.reduceNeg, e32_lt, i64_add1]
        · have hgT : g = T := list_ext16 _ _ 8 hgl htl fun i hi => ha i (by omega)
          subst hgT
          have s8 : ∀ l : List UInt32, l.length = 8 → setL (e32 l) 0 (e32 g) = e32 g := fun l hl => setL_0 _ _ (by rw [e32_len, e32_len, hl, hgl])
          simp (disch := first | omega | (simp only [ZL] <;> omega)) only [Z, Op.callOf, bslE, nilE, mslE, fadE, AV.cells, AV.isBot, AV.one, AV.flat, flatL, ids1, ids2, idsX, AV.lt, ltL, AObj.lt, finE, reduceCtorEq, reduceIte, Nat.reduceEqDiff, Nat.reduceAdd, Nat.reduceLeDiff, Nat.reduceMul, Nat.reduceLT, Nat.reduceBEq, Nat.reduceSub, Int.reduceToNat, Int.reduceLT, Int.reduceLE, Int.reduceAdd, Int.reduceSub, Int.reduceMul, Int.reduceGT, Int.reduceGE, Int.reduceEq, Int.reduceNe, Int.reduceNeg, e32_len, hgl, e32_tk8, e32_one, s8, frzM_e32, e32_lt]
          repeat' first | exact Sub.rfl' _ | exact sub_nils _ | exact SubL.nil | refine sub_tup ?_ | refine sub_agg ?_ | refine SubL.cons ?_ ?_
    · simp (disch := first | omega | (simp only [ZL] <;> omega)) only [Z, Op.callOf, bslE, nilE, mslE, fadE, AV.cells, AV.isBot, AV.one, AV.flat, flatL, ids1, ids2, idsX, AV.lt, ltL, AObj.lt, finE, reduceCtorEq, reduceIte, Nat.reduceEqDiff, Nat.reduceAdd, Nat.reduceLeDiff, Nat.reduceMul, Nat.reduceLT, Nat.reduceBEq, Nat.reduceSub, Int.reduceToNat, Int.reduceLT, Int.reduceLE, Int.reduceAdd, Int.reduceSub, Int.reduceMul, Int.reduceGT, Int.reduceGE, Int.reduceEq, Int.reduceNe, Int.reduceNeg, e32_len, Nat.mul_one, e32_get, e32_set, List.length_set]
      have hm16 := words_len block
      have hs16 := start_len h count last hh
      refine loopF mixed (fun p : Nat × List UInt32 => mk [(4, .ptr 0 0), (8, .ptr 1 0), (9, .ptr 2 0), (10, .ptr 3 0), (13, .int .i64 p.1)]
          [(0, .box (e32 h)), (1, .box (e32 (List.replicate 8 0))), (3, .box (e32 (wordsS block))), (2, .box (e32 p.2))] 5)
        (fun p => p.1 ≤ 10 ∧ p.2.length = 16 ∧ outerR (wordsS block) (10 - p.1) p.1 p.2 = outerR (wordsS block) 10 0 (startV h count last)) (fun p => 10 - p.1) (0, startV h count last) 400 rfl rfl ⟨by simp, hs16, rfl⟩ ?_ ?_
      · refine less_mk (by simp) (by simp) ?_ ?_ <;> simp (disch := first | omega | (simp only [ZL] <;> omega)) only [Z, Op.callOf, bslE, nilE, mslE, fadE, AV.cells, AV.isBot, AV.one, AV.flat, flatL, ids1, ids2, idsX, AV.lt, ltL, AObj.lt, finE, reduceCtorEq, reduceIte, Nat.reduceEqDiff, Nat.reduceAdd, Nat.reduceLeDiff, Nat.reduceMul, Nat.reduceLT, Nat.reduceBEq, Nat.reduceSub, Int.reduceToNat, Int.reduceLT, Int.reduceLE, Int.reduceAdd, Int.reduceSub, Int.reduceMul, Int.reduceGT, Int.reduceGE, Int.reduceEq, Int.reduceNe, Int.reduceNeg, e32_lt]
        subst e1
        rfl
      rintro ⟨r, v⟩ ⟨hr, hv, hJ⟩
      dsimp only at hr hv hJ
      simp (disch := first | omega | (simp only [ZL] <;> omega)) only [Z, Op.callOf, bslE, nilE, mslE, fadE, AV.cells, AV.isBot, AV.one, AV.flat, flatL, ids1, ids2, idsX, AV.lt, ltL, AObj.lt, finE, reduceCtorEq, reduceIte, Nat.reduceEqDiff, Nat.reduceAdd, Nat.reduceLeDiff, Nat.reduceMul, Nat.reduceLT, Nat.reduceBEq, Nat.reduceSub, Int.reduceToNat, Int.reduceLT, Int.reduceLE, Int.reduceAdd, Int.reduceSub, Int.reduceMul, Int.reduceGT, Int.reduceGE, Int.reduceEq, Int.reduceNe, Int.reduceNeg]
      refine condG_p (fun e => ?_) (fun e => ?_)
      · have hr' : r < 10 := by omega
        obtain ⟨m10, hm10⟩ : ∃ m, 10 - r = m + 1 := ⟨9 - r, by omega⟩
        rw [hm10, outerR] at hJ
        have hrl := rowLits_len
        have hlit := rowLit_at ⟨r, hr'⟩
        dsimp only at hlit
        have hge : rowLits[r]'(by omega) = rowLits.getD r [] := (getD_lt rowLits r [] (by omega)).symm
        simp (disch := first | omega | (simp only [ZL] <;> omega)) only [Z, Op.callOf, bslE, nilE, mslE, fadE, AV.cells, AV.isBot, AV.one, AV.flat, flatL, ids1, ids2, idsX, AV.lt, ltL, AObj.lt, finE, reduceCtorEq, reduceIte, Nat.reduceEqDiff, Nat.reduceAdd, Nat.reduceLeDiff, Nat.reduceMul, Nat.reduceLT, Nat.reduceBEq, Nat.reduceSub, Int.reduceToNat, Int.reduceLT, Int.reduceLE, Int.reduceAdd, Int.reduceSub, Int.reduceMul, Int.reduceGT, Int.reduceGE, Int.reduceEq, Int.reduceNe, Int.reduceNeg]
        refine callL_pure rrows_c (by simp [ltL]) rfl ?_
        simp (disch := first | omega | (simp only [ZL] <;> omega)) only [Z, Op.callOf, bslE, nilE, mslE, fadE, AV.cells, AV.isBot, AV.one, AV.flat, flatL, ids1, ids2, idsX, AV.lt, ltL, AObj.lt, finE, reduceCtorEq, reduceIte, Nat.reduceEqDiff, Nat.reduceAdd, Nat.reduceLeDiff, Nat.reduceMul, Nat.reduceLT, Nat.reduceBEq, Nat.reduceSub, Int.reduceToNat, Int.reduceLT, Int.reduceLE, Int.reduceAdd, Int.reduceSub, Int.reduceMul, Int.reduceGT, Int.reduceGE, Int.reduceEq, Int.reduceNe, Int.reduceNeg, encT, hge]
        have hlen : (rowLits.getD r []).length = 16 := (hlit ⟨0, by decide⟩).2.2
        generalize rowLits.getD r [] = lit at hlit hlen ⊢
        refine loopF mixed (fun p : Nat × List UInt32 => mk [(4, .ptr 0 0), (8, .ptr 1 0), (9, .ptr 2 0), (10, .ptr 3 0), (13, .int .i64 r), (14, .str lit), (15, .int .i64 p.1)]
            [(0, .box (e32 h)), (1, .box (e32 (List.replicate 8 0))), (3, .box (e32 (wordsS block))), (2, .box (e32 p.2))] 5)
          (fun p => p.1 ≤ 8 ∧ p.2.length = 16 ∧ innerR (wordsS block) r (8 - p.1) p.1 p.2 = innerR (wordsS block) r 8 0 v) (fun p => 8 - p.1) (0, v) 400 rfl rfl ⟨by simp, hv, rfl⟩ ?_ ?_
        · refine less_mk (by simp) (by simp) ?_ ?_ <;> simp (disch := first | omega | (simp only [ZL] <;> omega)) only [Z, Op.callOf, bslE, nilE, mslE, fadE, AV.cells, AV.isBot, AV.one, AV.flat, flatL, ids1, ids2, idsX, AV.lt, ltL, AObj.lt, finE, reduceCtorEq, reduceIte, Nat.reduceEqDiff, Nat.reduceAdd, Nat.reduceLeDiff, Nat.reduceMul, Nat.reduceLT, Nat.reduceBEq, Nat.reduceSub, Int.reduceToNat, Int.reduceLT, Int.reduceLE, Int.reduceAdd, Int.reduceSub, Int.reduceMul, Int.reduceGT, Int.reduceGE, Int.reduceEq, Int.reduceNe, Int.reduceNeg, e32_lt]
        rintro ⟨j, u⟩ ⟨hj, hu, hI⟩
        dsimp only at hj hu hI
        simp (disch := first | omega | (simp only [ZL] <;> omega)) only [Z, Op.callOf, bslE, nilE, mslE, fadE, AV.cells, AV.isBot, AV.one, AV.flat, flatL, ids1, ids2, idsX, AV.lt, ltL, AObj.lt, finE, reduceCtorEq, reduceIte, Nat.reduceEqDiff, Nat.reduceAdd, Nat.reduceLeDiff, Nat.reduceMul, Nat.reduceLT, Nat.reduceBEq, Nat.reduceSub, Int.reduceToNat, Int.reduceLT, Int.reduceLE, Int.reduceAdd, Int.reduceSub, Int.reduceMul, Int.reduceGT, Int.reduceGE, Int.reduceEq, Int.reduceNe, Int.reduceNeg]
        refine condG_p (fun e2 => ?_) (fun e2 => ?_)
        · have hj' : j < 8 := by omega
          obtain ⟨q, hq⟩ : ∃ q, 8 - j = q + 1 := ⟨7 - j, by omega⟩
          rw [hq, innerR] at hI
          obtain ⟨p1, p2, _⟩ := hlit ⟨2 * j, by omega⟩
          obtain ⟨p3, p4, _⟩ := hlit ⟨2 * j + 1, by omega⟩
          dsimp only at p1 p2 p3 p4
          have w1 := (rowN_lt r (2 * j) hr' (by omega)).1
          have w2 := (rowN_lt r (2 * j + 1) hr' (by omega)).1
          simp (disch := first | omega | (simp only [ZL] <;> omega)) only [Z, Op.callOf, bslE, nilE, mslE, fadE, AV.cells, AV.isBot, AV.one, AV.flat, flatL, ids1, ids2, idsX, AV.lt, ltL, AObj.lt, finE, reduceCtorEq, reduceIte, Nat.reduceEqDiff, Nat.reduceAdd, Nat.reduceLeDiff, Nat.reduceMul, Nat.reduceLT, Nat.reduceBEq, Nat.reduceSub, Int.reduceToNat, Int.reduceLT, Int.reduceLE, Int.reduceAdd, Int.reduceSub, Int.reduceMul, Int.reduceGT, Int.reduceGE, Int.reduceEq, Int.reduceNe, Int.reduceNeg, dg2, dg_1]
          refine callD_pure (place_c _ p1) (by simp [ltL, AV.lt]) ?_
          rw [p2]
          simp (disch := first | omega | (simp only [ZL] <;> omega)) only [Z, Op.callOf, bslE, nilE, mslE, fadE, AV.cells, AV.isBot, AV.one, AV.flat, flatL, ids1, ids2, idsX, AV.lt, ltL, AObj.lt, finE, reduceCtorEq, reduceIte, Nat.reduceEqDiff, Nat.reduceAdd, Nat.reduceLeDiff, Nat.reduceMul, Nat.reduceLT, Nat.reduceBEq, Nat.reduceSub, Int.reduceToNat, Int.reduceLT, Int.reduceLE, Int.reduceAdd, Int.reduceSub, Int.reduceMul, Int.reduceGT, Int.reduceGE, Int.reduceEq, Int.reduceNe, Int.reduceNeg, dg2, dg_1, Nat.mul_one, e32_len, e32_get]
          refine callD_pure (place_c _ p3) (by simp [ltL, AV.lt]) ?_
          rw [p4]
          simp (disch := first | omega | (simp only [ZL] <;> omega)) only [Z, Op.callOf, bslE, nilE, mslE, fadE, AV.cells, AV.isBot, AV.one, AV.flat, flatL, ids1, ids2, idsX, AV.lt, ltL, AObj.lt, finE, reduceCtorEq, reduceIte, Nat.reduceEqDiff, Nat.reduceAdd, Nat.reduceLeDiff, Nat.reduceMul, Nat.reduceLT, Nat.reduceBEq, Nat.reduceSub, Int.reduceToNat, Int.reduceLT, Int.reduceLE, Int.reduceAdd, Int.reduceSub, Int.reduceMul, Int.reduceGT, Int.reduceGE, Int.reduceEq, Int.reduceNe, Int.reduceNeg, dg2, dg_1, Nat.mul_one, e32_len, e32_get]
          refine okK_of (by kernel_rfl) ?_
          by_cases e3 : (j : Int) < 4
          · have j4 : j < 4 := by omega
            rw [stepS, if_pos j4] at hI
            simp (disch := first | omega | (simp only [ZL] <;> omega)) only [Z, Op.callOf, bslE, nilE, mslE, fadE, AV.cells, AV.isBot, AV.one, AV.flat, flatL, ids1, ids2, idsX, AV.lt, ltL, AObj.lt, finE, reduceCtorEq, reduceIte, Nat.reduceEqDiff, Nat.reduceAdd, Nat.reduceLeDiff, Nat.reduceMul, Nat.reduceLT, Nat.reduceBEq, Nat.reduceSub, Int.reduceToNat, Int.reduceLT, Int.reduceLE, Int.reduceAdd, Int.reduceSub, Int.reduceMul, Int.reduceGT, Int.reduceGE, Int.reduceEq, Int.reduceNe, Int.reduceNeg, e3, dg_4, dg_8, dg_12, e32_len, hu, e32_tk16]
            refine callL_pure (rmix_c u j (j + 4) (j + 8) (j + 12) _ _ hu (by omega) (by omega) (by omega) (by omega)) (by simp [ltL, AV.lt, e32_lt]) rfl ?_
            have hl := mix_len u j (j + 4) (j + 8) (j + 12) ((wordsS block).getD (rowN r (2 * j)) 0) ((wordsS block).getD (rowN r (2 * j + 1)) 0)
            simp (disch := first | omega | (simp only [ZL] <;> omega)) only [Z, Op.callOf, bslE, nilE, mslE, fadE, AV.cells, AV.isBot, AV.one, AV.flat, flatL, ids1, ids2, idsX, AV.lt, ltL, AObj.lt, finE, reduceCtorEq, reduceIte, Nat.reduceEqDiff, Nat.reduceAdd, Nat.reduceLeDiff, Nat.reduceMul, Nat.reduceLT, Nat.reduceBEq, Nat.reduceSub, Int.reduceToNat, Int.reduceLT, Int.reduceLE, Int.reduceAdd, Int.reduceSub, Int.reduceMul, Int.reduceGT, Int.reduceGE, Int.reduceEq, Int.reduceNe, Int.reduceNeg, e32_len, hu, hl, e32_one, e32_s08]
            refine finR_of (j + 1, mixS u j (j + 4) (j + 8) (j + 12) ((wordsS block).getD (rowN r (2 * j)) 0) ((wordsS block).getD (rowN r (2 * j + 1)) 0)) ⟨by dsimp only; omega, by rw [hl]; exact hu, ?_⟩ (by dsimp only; omega) ?_
            · dsimp only
              rw [show 8 - (j + 1) = q by omega, Nat.add_comm j 4, Nat.add_comm j 8, Nat.add_comm j 12]; exact hI
            · refine less_mk (by simp) (by simp) ?_ ?_ <;> simp (disch := first | omega | (simp only [ZL] <;> omega)) only [Z, Op.callOf, bslE, nilE, mslE, fadE, AV.cells, AV.isBot, AV.one, AV.flat, flatL, ids1, ids2, idsX, AV.lt, ltL, AObj.lt, finE, reduceCtorEq, reduceIte, Nat.reduceEqDiff, Nat.reduceAdd, Nat.reduceLeDiff, Nat.reduceMul, Nat.reduceLT, Nat.reduceBEq, Nat.reduceSub, Int.reduceToNat, Int.reduceLT, Int.reduceLE, Int.reduceAdd, Int.reduceSub, Int.reduceMul, Int.reduceGT, Int.reduceGE, Int.reduceEq, Int.reduceNe, Int.reduceNeg, e32_lt, i64_add1]
          · have j4 : 4 ≤ j := by omega
            rw [stepS, if_neg (by omega)] at hI
            simp (disch := first | omega | (simp only [ZL] <;> omega)) only [Z, Op.callOf, bslE, nilE, mslE, fadE, AV.cells, AV.isBot, AV.one, AV.flat, flatL, ids1, ids2, idsX, AV.lt, ltL, AObj.lt, finE, reduceCtorEq, reduceIte, Nat.reduceEqDiff, Nat.reduceAdd, Nat.reduceLeDiff, Nat.reduceMul, Nat.reduceLT, Nat.reduceBEq, Nat.reduceSub, Int.reduceToNat, Int.reduceLT, Int.reduceLE, Int.reduceAdd, Int.reduceSub, Int.reduceMul, Int.reduceGT, Int.reduceGE, Int.reduceEq, Int.reduceNe, Int.reduceNeg, e3, dg_s4, dg_a, dg_b, dg_c, dg_1, dg_2, dg_3, dg_m, e32_len, hu, e32_tk16]
            refine callL_pure (rmix_c u (j - 4) (4 + (j - 4 + 1) % 4) (8 + (j - 4 + 2) % 4) (12 + (j - 4 + 3) % 4) _ _ hu (by omega) (by omega) (by omega) (by omega)) (by simp [ltL, AV.lt, e32_lt]) rfl ?_
            have hl := mix_len u (j - 4) (4 + (j - 4 + 1) % 4) (8 + (j - 4 + 2) % 4) (12 + (j - 4 + 3) % 4) ((wordsS block).getD (rowN r (2 * j)) 0) ((wordsS block).getD (rowN r (2 * j + 1)) 0)
            simp (disch := first | omega | (simp only [ZL] <;> omega)) only [Z, Op.callOf, bslE, nilE, mslE, fadE, AV.cells, AV.isBot, AV.one, AV.flat, flatL, ids1, ids2, idsX, AV.lt, ltL, AObj.lt, finE, reduceCtorEq, reduceIte, Nat.reduceEqDiff, Nat.reduceAdd, Nat.reduceLeDiff, Nat.reduceMul, Nat.reduceLT, Nat.reduceBEq, Nat.reduceSub, Int.reduceToNat, Int.reduceLT, Int.reduceLE, Int.reduceAdd, Int.reduceSub, Int.reduceMul, Int.reduceGT, Int.reduceGE, Int.reduceEq, Int.reduceNe, Int.reduceNeg, e32_len, hu, hl, e32_one, e32_s08]
            refine finR_of (j + 1, mixS u (j - 4) (4 + (j - 4 + 1) % 4) (8 + (j - 4 + 2) % 4) (12 + (j - 4 + 3) % 4) ((wordsS block).getD (rowN r (2 * j)) 0) ((wordsS block).getD (rowN r (2 * j + 1)) 0)) ⟨by dsimp only; omega, by rw [hl]; exact hu, ?_⟩ (by dsimp only; omega) ?_
            · dsimp only
              rw [show 8 - (j + 1) = q by omega]; exact hI
            · refine less_mk (by simp) (by simp) ?_ ?_ <;> simp (disch := first | omega | (simp only [ZL] <;> omega)) only [Z, Op.callOf, bslE, nilE, mslE, fadE, AV.cells, AV.isBot, AV.one, AV.flat, flatL, ids1, ids2, idsX, AV.lt, ltL, AObj.lt, finE, reduceCtorEq, reduceIte, Nat.reduceEqDiff, Nat.reduceAdd, Nat.reduceLeDiff, Nat.reduceMul, Nat.reduceLT, Nat.reduceBEq, Nat.reduceSub, Int.reduceToNat, Int.reduceLT, Int.reduceLE, Int.reduceAdd, Int.reduceSub, Int.reduceMul, Int.reduceGT, Int.reduceGE, Int.reduceEq, Int.reduceNe, Int.reduceNeg, e32_lt, i64_add1]
        · have : j = 8 := by omega
          subst this
          rw [Nat.sub_self, innerR] at hI
          simp (disch := first | omega | (simp only [ZL] <;> omega)) only [Z, Op.callOf, bslE, nilE, mslE, fadE, AV.cells, AV.isBot, AV.one, AV.flat, flatL, ids1, ids2, idsX, AV.lt, ltL, AObj.lt, finE, reduceCtorEq, reduceIte, Nat.reduceEqDiff, Nat.reduceAdd, Nat.reduceLeDiff, Nat.reduceMul, Nat.reduceLT, Nat.reduceBEq, Nat.reduceSub, Int.reduceToNat, Int.reduceLT, Int.reduceLE, Int.reduceAdd, Int.reduceSub, Int.reduceMul, Int.reduceGT, Int.reduceGE, Int.reduceEq, Int.reduceNe, Int.reduceNeg]
          refine finR_of (r + 1, u) ⟨by dsimp only; omega, hu, ?_⟩ (by dsimp only; omega) ?_
          · dsimp only
            rw [show 10 - (r + 1) = m10 by omega, hI]; exact hJ
          · refine less_mk (by simp) (by simp) ?_ ?_ <;> simp (disch := first | omega | (simp only [ZL] <;> omega)) only [Z, Op.callOf, bslE, nilE, mslE, fadE, AV.cells, AV.isBot, AV.one, AV.flat, flatL, ids1, ids2, idsX, AV.lt, ltL, AObj.lt, finE, reduceCtorEq, reduceIte, Nat.reduceEqDiff, Nat.reduceAdd, Nat.reduceLeDiff, Nat.reduceMul, Nat.reduceLT, Nat.reduceBEq, Nat.reduceSub, Int.reduceToNat, Int.reduceLT, Int.reduceLE, Int.reduceAdd, Int.reduceSub, Int.reduceMul, Int.reduceGT, Int.reduceGE, Int.reduceEq, Int.reduceNe, Int.reduceNeg, e32_lt, i64_add1]
      · have hr10 : r = 10 := by omega
        subst hr10
        rw [Nat.sub_self, outerR] at hJ
        simp (disch := first | omega | (simp only [ZL] <;> omega)) only [Z, Op.callOf, bslE, nilE, mslE, fadE, AV.cells, AV.isBot, AV.one, AV.flat, flatL, ids1, ids2, idsX, AV.lt, ltL, AObj.lt, finE, reduceCtorEq, reduceIte, Nat.reduceEqDiff, Nat.reduceAdd, Nat.reduceLeDiff, Nat.reduceMul, Nat.reduceLT, Nat.reduceBEq, Nat.reduceSub, Int.reduceToNat, Int.reduceLT, Int.reduceLE, Int.reduceAdd, Int.reduceSub, Int.reduceMul, Int.reduceGT, Int.reduceGE, Int.reduceEq, Int.reduceNe, Int.reduceNeg]
        have ht : ∀ i, i < 8 → (takeS h block count last).getD i 0 = h.getD i 0 ^^^ (v.getD i 0 ^^^ v.getD (i + 8) 0) := by
          intro i hi
          rw [hJ]
          simp [takeS, List.getD, hi]
        have htl := take_len h block count last
        generalize takeS h block count last = T at ht htl ⊢
        clear hJ hs16
        refine loopF mixed (fun p : Nat × List UInt32 => mk [(4, .ptr 0 0), (8, .ptr 1 0), (9, .ptr 2 0), (19, .int .i64 p.1)]
            [(0, .box (e32 p.2)), (1, .box (e32 (List.replicate 8 0))), (2, .box (e32 v))] 5)
          (fun p => p.1 ≤ 8 ∧ p.2.length = 8 ∧ (∀ i, i < p.1 → p.2.getD i 0 = T.getD i 0) ∧ ∀ i, p.1 ≤ i → p.2.getD i 0 = h.getD i 0) (fun p => 8 - p.1) (0, h) 400 rfl rfl ⟨by simp, hh, by intro i hi; omega, fun _ _ => rfl⟩ ?_ ?_
        · refine less_mk (by simp) (by simp) ?_ ?_ <;> simp (disch := first | omega | (simp only [ZL] <;> omega)) only [Z, Op.callOf, bslE, nilE, mslE, fadE, AV.cells, AV.isBot, AV.one, AV.flat, flatL, ids1, ids2, idsX, AV.lt, ltL, AObj.lt, finE, reduceCtorEq, reduceIte, Nat.reduceEqDiff, Nat.reduceAdd, Nat.reduceLeDiff, Nat.reduceMul, Nat.reduceLT, Nat.reduceBEq, Nat.reduceSub, Int.reduceToNat, Int.reduceLT, Int.reduceLE, Int.reduceAdd, Int.reduceSub, Int.reduceMul, Int.reduceGT, Int.reduceGE, Int.reduceEq, Int.reduceNe, Int.reduceNeg, e32_lt]
        rintro ⟨k, g⟩ ⟨hk, hgl, ha, hb2⟩
        dsimp only at hk hgl ha hb2
        simp (disch := first | omega | (simp only [ZL] <;> omega)) only [Z, Op.callOf, bslE, nilE, mslE, fadE, AV.cells, AV.isBot, AV.one, AV.flat, flatL, ids1, ids2, idsX, AV.lt, ltL, AObj.lt, finE, reduceCtorEq, reduceIte, Nat.reduceEqDiff, Nat.reduceAdd, Nat.reduceLeDiff, Nat.reduceMul, Nat.reduceLT, Nat.reduceBEq, Nat.reduceSub, Int.reduceToNat, Int.reduceLT, Int.reduceLE, Int.reduceAdd, Int.reduceSub, Int.reduceMul, Int.reduceGT, Int.reduceGE, Int.reduceEq, Int.reduceNe, Int.reduceNeg]
        refine condG_p (fun e => ?_) (fun e => ?_)
        · have hk' : k < 8 := by omega
          simp (disch := first | omega | (simp only [ZL] <;> omega)) only [Z, Op.callOf, bslE, nilE, mslE, fadE, AV.cells, AV.isBot, AV.one, AV.flat, flatL, ids1, ids2, idsX, AV.lt, ltL, AObj.lt, finE, reduceCtorEq, reduceIte, Nat.reduceEqDiff, Nat.reduceAdd, Nat.reduceLeDiff, Nat.reduceMul, Nat.reduceLT, Nat.reduceBEq, Nat.reduceSub, Int.reduceToNat, Int.reduceLT, Int.reduceLE, Int.reduceAdd, Int.reduceSub, Int.reduceMul, Int.reduceGT, Int.reduceGE, Int.reduceEq, Int.reduceNe, Int.reduceNeg, dg_8, Nat.mul_one, e32_len, e32_get, e32_set]
          refine okK_of (by kernel_rfl) ?_
          simp (disch := first | omega | (simp only [ZL] <;> omega)) only [Z, Op.callOf, bslE, nilE, mslE, fadE, AV.cells, AV.isBot, AV.one, AV.flat, flatL, ids1, ids2, idsX, AV.lt, ltL, AObj.lt, finE, reduceCtorEq, reduceIte, Nat.reduceEqDiff, Nat.reduceAdd, Nat.reduceLeDiff, Nat.reduceMul, Nat.reduceLT, Nat.reduceBEq, Nat.reduceSub, Int.reduceToNat, Int.reduceLT, Int.reduceLE, Int.reduceAdd, Int.reduceSub, Int.reduceMul, Int.reduceGT, Int.reduceGE, Int.reduceEq, Int.reduceNe, Int.reduceNeg, dg_8, Nat.mul_one, e32_len, e32_get, e32_set]
          refine finR_of (k + 1, g.set k ((g.getD k 0 ^^^ v.getD k 0) ^^^ v.getD (k + 8) 0)) ⟨by dsimp only; omega, by simpa using hgl, fun i hi => ?_, fun i hi => ?_⟩ (by dsimp only; omega) ?_
          · dsimp only at hi ⊢
            by_cases ei : k = i
            · subst ei
              rw [getD_set_eq _ _ _ (by omega), ht _ hk', hb2 _ (Nat.le_refl _), UInt32.xor_assoc]
            · rw [getD_set_ne32 _ _ _ _ ei]; exact ha i (by omega)
          · dsimp only at hi ⊢
            rw [getD_set_ne32 _ _ _ _ (by omega)]; exact hb2 i (by omega)
          · refine less_mk (by simp) (by simp) ?_ ?_ <;> simp (disch := first | omega | (simp only [ZL] <;> omega)) only [Z, Op.callOf, bslE, nilE, mslE, fadE, AV.cells, AV.isBot, AV.one, AV.flat, flatL, ids1, ids2, idsX, AV.lt, ltL, AObj.lt, finE, reduceCtorEq, reduceIte, Nat.reduceEqDiff, Nat.reduceAdd, Nat.reduceLeDiff, Nat.reduceMul, Nat.reduceLT, Nat.reduceBEq, Nat.reduceSub, Int.reduceToNat, Int.reduceLT, Int.reduceLE, Int.reduceAdd, Int.reduceSub, Int.reduceMul, Int.reduceGT, Int.reduceGE, Int.reduceEq, Int.reduceNe, Int.reduceNeg, e32_lt, i64_add1]
        · have hgT : g = T := list_ext16 _ _ 8 hgl htl fun i hi => ha i (by omega)
          subst hgT
          have s8 : ∀ l : List UInt32, l.length = 8 → setL (e32 l) 0 (e32 g) = e32 g := fun l hl => setL_0 _ _ (by rw [e32_len, e32_len, hl, hgl])
          simp (disch := first | omega | (simp only [ZL] <;> omega)) only [Z, Op.callOf, bslE, nilE, mslE, fadE, AV.cells, AV.isBot, AV.one, AV.flat, flatL, ids1, ids2, idsX, AV.lt, ltL, AObj.lt, finE, reduceCtorEq, reduceIte, Nat.reduceEqDiff, Nat.reduceAdd, Nat.reduceLeDiff, Nat.reduceMul, Nat.reduceLT, Nat.reduceBEq, Nat.reduceSub, Int.reduceToNat, Int.reduceLT, Int.reduceLE, Int.reduceAdd, Int.reduceSub, Int.reduceMul, Int.reduceGT, Int.reduceGE, Int.reduceEq, Int.reduceNe, Int.reduceNeg, e32_len, hgl, e32_tk8, e32_one, s8, frzM_e32, e32_lt]
          repeat' first | exact Sub.rfl' _ | exact sub_nils _ | exact SubL.nil | refine sub_tup ?_ | refine sub_agg ?_ | refine SubL.cons ?_ ?_
end Go.Ab
