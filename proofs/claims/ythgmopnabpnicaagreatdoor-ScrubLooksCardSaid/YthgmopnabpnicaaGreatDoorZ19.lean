import Derived.Test.YthgmopnabpnicaaGreatDoorZ14
import Derived.Test.YthgmopnabpnicaaGreatDoorZ18
set_option linter.all false
namespace Go.Ab
open Go Go.Proofs
def eB (l : List UInt8) : List AV := l.map fun b => .int .u8 (b.toNat : Int)
theorem eB_len (v : List UInt8) : (eB v).length = v.length := by simp [eB]
theorem eB_get (v : List UInt8) (a : Nat) (h : a < v.length) : ((eB v).drop a).take 1 = [.int .u8 ((v.getD a 0).toNat : Int)] := by
  rw [List.drop_eq_getElem_cons (by simpa [eB] using h)]
  simp [eB, List.getD, h]
theorem eB_set (v : List UInt8) (a : Nat) (x : UInt8) : (eB v).set a (.int .u8 (x.toNat : Int)) = eB (v.set a x) := by simp [eB, List.map_set]
theorem eB_lt (n : Nat) : ∀ v : List UInt8, ltL n (eB v) = True
  | [] => by simp [eB, ltL]
  | x :: v => by
    show ltL n (.int .u8 (x.toNat : Int) :: eB v) = True
    simp [ltL, AV.lt, eB_lt n v]
theorem eB_one : ∀ v : List UInt8, (eB v).all AV.one = true
  | [] => rfl
  | x :: v => by show ((AV.int .u8 (x.toNat : Int)).one && (eB v).all AV.one) = true; rw [eB_one v]; rfl
theorem eB_aflat : ∀ v : List UInt8, (eB v).all AV.flat = true
  | [] => rfl
  | x :: v => by show ((AV.int .u8 (x.toNat : Int)).flat && (eB v).all AV.flat) = true; rw [eB_aflat v]; rfl
theorem eB_flat : ∀ v : List UInt8, flatL (eB v) = true
  | [] => rfl
  | x :: v => by show ((AV.int .u8 (x.toNat : Int)).flat && flatL (eB v)) = true; rw [eB_flat v]; rfl
theorem e32_s08 (a b : List UInt32) (h : a.length = b.length) : setL (e32 a) 0 (e32 b) = e32 b := setL_0 _ _ (by rw [e32_len, e32_len, h])
theorem eB_s0 (a b : List UInt8) (h : a.length = b.length) : setL (eB a) 0 (eB b) = eB b := setL_0 _ _ (by rw [eB_len, eB_len, h])
theorem eB_tk32 (v : List UInt8) (h : v.length = 32) : (eB v).take 32 = eB v := List.take_of_length_le (by rw [eB_len, h]; exact Nat.le_refl _)
theorem e32_get0 (v : List UInt32) (h : 0 < v.length) : (e32 v).take 1 = [.int .u32 ((v.getD 0 0).toNat : Int)] := by have := e32_get v 0 h; simpa using this
theorem eB_encB (d : List UInt8) : (eB d).map (fun c => [c]) = encB d := by simp [eB, encB]
theorem eB_set0 (v : List UInt8) (cs : List AV) (h : cs.length = v.length) : setL cs 0 (eB v) = eB v := setL_0 _ _ (by rw [h, eB_len])
def outB (g : List UInt32) : List UInt8 := (List.range 32).map fun j => UInt8.ofNat (g.getD (j / 4) 0 >>> UInt32.ofNat (8 * (j % 4))).toNat
def digR : Nat → List UInt32 → Nat → List UInt8 → List UInt32
  | 0, h, c, s => takeS h (s ++ List.replicate (64 - s.length) 0) (c + s.length) true
  | f + 1, h, c, s => if 64 < s.length then digR f (takeS h (s.take 64) (c + 64) false) (c + 64) (s.drop 64) else takeS h (s ++ List.replicate (64 - s.length) 0) (c + s.length) true
theorem digR_fuel : ∀ (f g : Nat) (h : List UInt32) (c : Nat) (s : List UInt8), s.length ≤ f → s.length ≤ g → digR f h c s = digR g h c s
  | 0, 0, _, _, _, _, _ => rfl
  | 0, g + 1, h, c, s, h1, _ => by rw [digR, digR, if_neg (by omega)]
  | f + 1, 0, h, c, s, _, h1 => by rw [digR, digR, if_neg (by omega)]
  | f + 1, g + 1, h, c, s, h1, h2 => by
    rw [digR, digR]
    split
    · exact digR_fuel f g _ _ _ (by simp; omega) (by simp; omega)
    · rfl
def digestS (h : List UInt32) (s : List UInt8) : List UInt8 := outB (digR s.length h 0 s)
def sum0 : List UInt32 := eightS.set 0 (eightS.getD 0 0 ^^^ UInt32.ofNat 16842784)
def sumS (s : List UInt8) : List UInt8 := digestS sum0 s
theorem sumS_len (s : List UInt8) : (sumS s).length = 32 := by simp [sumS, digestS, outB]
theorem u64_wrap (a : Int) (h : 0 ≤ a ∧ a ≤ 18446744073709551615) : IntKind.u64.wrap a = a := by rw [IntKind.wrap_u64]; omega
theorem dg_64 (c : Nat) : (c : Int) + 64 = ((c + 64 : Nat) : Int) := by omega
theorem dg_s64 (c : Nat) (h : c ≤ 64) : (64 : Int) - (c : Int) = ((64 - c : Nat) : Int) := by omega
theorem dg_8m (c : Nat) : (8 : Int) * (c : Int) = ((8 * c : Nat) : Int) := by omega
theorem dg_4m (c : Nat) : (4 : Int) * (c : Int) = ((4 * c : Nat) : Int) := by omega
theorem dgn (a b : Nat) : (a : Int) + (b : Int) = ((a + b : Nat) : Int) := by omega
theorem getD_set_eq8 (v : List UInt8) (i : Nat) (x : UInt8) (h : i < v.length) : (v.set i x).getD i 0 = x := by simp [List.getD, h]
theorem getD_set_ne8 (v : List UInt8) (i j : Nat) (x : UInt8) (h : i ≠ j) : (v.set i x).getD j 0 = v.getD j 0 := by simp [List.getD, h]
theorem list_ext8 (a b : List UInt8) (n : Nat) (h1 : a.length = n) (h2 : b.length = n) (h : ∀ i, i < n → a.getD i 0 = b.getD i 0) : a = b := by
  apply List.ext_getElem (by omega)
  intro i h3 h4
  have := h i (by omega)
  simpa [List.getD, h3, h4] using this
theorem outB_get (g : List UInt32) (i k : Nat) (hi : i < 8) (hk : k < 4) : (outB g).getD (4 * i + k) 0 = UInt8.ofNat (g.getD i 0 >>> UInt32.ofNat (8 * k)).toNat := by
  have h1 : 4 * i + k < 32 := by omega
  have h2 : (4 * i + k) / 4 = i := by omega
  have h3 : (4 * i + k) % 4 = k := by omega
  simp [outB, List.getD, h1, h2, h3]
theorem outB_len (g : List UInt32) : (outB g).length = 32 := by simp [outB]
variable [Glob] [LibC]
set_option maxHeartbeats 1000000

theorem frzM_eB {s : AS} (v : List UInt8) : (frzM frz1 (eB v)).run s = some (eB v, []) := frzM_flat (eB_flat v)
theorem digest_c (h0 : List UInt32) (hh : h0.length = 8) (s0 : List UInt8) (hs : s0.length < 2^40) :
    APure Tryz.prog 75 [.agg (e32 h0), .str s0] (.agg (eB (digestS h0 s0))) := by
  refine apure_fin mixed [] 400 Tryz.func75 Tryz.ntmps75 Tryz.results75 rfl rfl (by simp) rfl ?_
  simp (disch := first | omega | (simp only [ZL] <;> omega)) only [Z, Op.callOf, bslE, nilE, mslE, fadE, AV.cells, AV.isBot, AV.one, AV.flat, flatL, ids1, ids2, idsX, AV.lt, ltL, AObj.lt, finE, sevalprocAttr, e32_len]
  refine loopF mixed (fun p : List UInt32 × Nat × List UInt8 => mk [(1, .str p.2.2), (2, .ptr 0 0), (4, .ptr 1 0), (5, .int .u64 p.2.1)]
      [(0, .box (e32 p.1)), (1, .box (eB (List.replicate 32 0)))] 2)
    (fun p => p.1.length = 8 ∧ p.2.1 + p.2.2.length = s0.length ∧ digR p.2.2.length p.1 p.2.1 p.2.2 = digR s0.length h0 0 s0) (fun p => p.2.2.length) (h0, 0, s0) 400 rfl rfl ⟨hh, by simp, rfl⟩ ?_ ?_
  · refine less_mk (by simp) (by simp) ?_ ?_ <;> simp (disch := first | omega | (simp only [ZL] <;> omega)) only [Z, Op.callOf, bslE, nilE, mslE, fadE, AV.cells, AV.isBot, AV.one, AV.flat, flatL, ids1, ids2, idsX, AV.lt, ltL, AObj.lt, finE, sevalprocAttr, e32_lt, eB_lt]
    exact rfl
  rintro ⟨g, c, s⟩ ⟨hg, hc, hJ⟩
  dsimp only at hg hc hJ
  simp (disch := first | omega | (simp only [ZL] <;> omega)) only [Z, Op.callOf, bslE, nilE, mslE, fadE, AV.cells, AV.isBot, AV.one, AV.flat, flatL, ids1, ids2, idsX, AV.lt, ltL, AObj.lt, finE, sevalprocAttr]
  refine condG_p (fun e => ?_) (fun e => ?_)
  · simp (disch := first | omega | (simp only [ZL] <;> omega)) only [Z, Op.callOf, bslE, nilE, mslE, fadE, AV.cells, AV.isBot, AV.one, AV.flat, flatL, ids1, ids2, idsX, AV.lt, ltL, AObj.lt, finE, sevalprocAttr, u64_wrap, dg_64, e32_len, hg, e32_tk8]
    refine callD_pure (take_c g hg (s.take 64) (by simp; omega) (c + 64) (by omega) false) (by simp [ltL, AV.lt, e32_lt]) ?_
    have hT := take_len g (s.take 64) (c + 64) false
    simp (disch := first | omega | (simp only [ZL] <;> omega)) only [Z, Op.callOf, bslE, nilE, mslE, fadE, AV.cells, AV.isBot, AV.one, AV.flat, flatL, ids1, ids2, idsX, AV.lt, ltL, AObj.lt, finE, sevalprocAttr, e32_len, hg, hT, e32_one, e32_s08]
    refine okK_of (by kernel_rfl) ?_
    simp (disch := first | omega | (simp only [ZL] <;> omega)) only [Z, Op.callOf, bslE, nilE, mslE, fadE, AV.cells, AV.isBot, AV.one, AV.flat, flatL, ids1, ids2, idsX, AV.lt, ltL, AObj.lt, finE, sevalprocAttr]
    obtain ⟨m, hm⟩ : ∃ m, s.length = m + 1 := ⟨s.length - 1, by omega⟩
    rw [hm, digR, if_pos (by omega)] at hJ
    refine finR_of (takeS g (s.take 64) (c + 64) false, c + 64, s.drop 64) ⟨hT, by simp; omega, ?_⟩ (by simp; omega) ?_
    · dsimp only
      rw [← hJ]
      exact digR_fuel _ _ _ _ _ (Nat.le_refl _) (by simp; omega)
    · refine less_mk (by simp) (by simp) ?_ ?_ <;> simp (disch := first | omega | (simp only [ZL] <;> omega)) only [Z, Op.callOf, bslE, nilE, mslE, fadE, AV.cells, AV.isBot, AV.one, AV.flat, flatL, ids1, ids2, idsX, AV.lt, ltL, AObj.lt, finE, sevalprocAttr, e32_lt, eB_lt]
  · have h64 : s.length ≤ 64 := by omega
    simp (disch := first | omega | (simp only [ZL] <;> omega)) only [Z, Op.callOf, bslE, nilE, mslE, fadE, AV.cells, AV.isBot, AV.one, AV.flat, flatL, ids1, ids2, idsX, AV.lt, ltL, AObj.lt, finE, sevalprocAttr, u64_wrap, dgn, dg_s64, e32_len, hg, e32_tk8]
    refine callD_pure (LibC.rep (64 - s.length) (by omega)) (by simp [ltL, AV.lt]) ?_
    simp (disch := first | omega | (simp only [ZL] <;> omega)) only [Z, Op.callOf, bslE, nilE, mslE, fadE, AV.cells, AV.isBot, AV.one, AV.flat, flatL, ids1, ids2, idsX, AV.lt, ltL, AObj.lt, finE, sevalprocAttr, e32_len, hg]
    refine callD_pure (take_c g hg (s ++ List.replicate (64 - s.length) 0) (by simp; omega) (c + s.length) (by omega) true) (by simp [ltL, AV.lt, e32_lt]) ?_
    have hJ2 : digR s.length g c s = takeS g (s ++ List.replicate (64 - s.length) 0) (c + s.length) true := by
      rcases Nat.eq_zero_or_pos s.length with h | h
      · rw [h, digR, h]
      · obtain ⟨m, hm⟩ : ∃ m, s.length = m + 1 := ⟨s.length - 1, by omega⟩
        rw [hm, digR, if_neg (by omega), hm]
    have hT := take_len g (s ++ List.replicate (64 - s.length) 0) (c + s.length) true
    rw [hJ2] at hJ
    have hD : digestS h0 s0 = outB (takeS g (s ++ List.replicate (64 - s.length) 0) (c + s.length) true) := by rw [hJ]; rfl
    rw [hD]
    clear hJ hJ2 hD
    generalize takeS g (s ++ List.replicate (64 - s.length) 0) (c + s.length) true = w at hT ⊢
    simp (disch := first | omega | (simp only [ZL] <;> omega)) only [Z, Op.callOf, bslE, nilE, mslE, fadE, AV.cells, AV.isBot, AV.one, AV.flat, flatL, ids1, ids2, idsX, AV.lt, ltL, AObj.lt, finE, sevalprocAttr, e32_len, hg, hT, e32_one, e32_s08]
    refine okK_of (by kernel_rfl) ?_
    simp (disch := first | omega | (simp only [ZL] <;> omega)) only [Z, Op.callOf, bslE, nilE, mslE, fadE, AV.cells, AV.isBot, AV.one, AV.flat, flatL, ids1, ids2, idsX, AV.lt, ltL, AObj.lt, finE, sevalprocAttr, e32_len, hT, e32_tk8]
    refine loopF mixed (fun p : Nat × List UInt8 => mk [(4, .ptr 1 0), (6, .ptr 19 0), (36, .agg (e32 w)), (37, .int .i64 p.1)]
        [(1, .box (eB (List.replicate 32 0))), (19, .box (eB p.2))] 20)
      (fun p => p.1 ≤ 8 ∧ p.2.length = 32 ∧ ∀ j, j < 4 * p.1 → p.2.getD j 0 = (outB w).getD j 0) (fun p => 8 - p.1) (0, List.replicate 32 0) 400 rfl rfl ⟨by simp, by simp, by intro i hi; simp at hi⟩ ?_ ?_
    · refine less_mk (by simp) (by simp) ?_ ?_ <;> simp (disch := first | omega | (simp only [ZL] <;> omega)) only [Z, Op.callOf, bslE, nilE, mslE, fadE, AV.cells, AV.isBot, AV.one, AV.flat, flatL, ids1, ids2, idsX, AV.lt, ltL, AObj.lt, finE, sevalprocAttr, e32_lt, eB_lt]
      exact rfl
    rintro ⟨i, d⟩ ⟨hi, hd, ha⟩
    dsimp only at hi hd ha
    simp (disch := first | omega | (simp only [ZL] <;> omega)) only [Z, Op.callOf, bslE, nilE, mslE, fadE, AV.cells, AV.isBot, AV.one, AV.flat, flatL, ids1, ids2, idsX, AV.lt, ltL, AObj.lt, finE, sevalprocAttr]
    refine condG_p (fun e => ?_) (fun e => ?_)
    · have hi' : i < 8 := by omega
      simp (disch := first | omega | (simp only [ZL] <;> omega)) only [Z, Op.callOf, bslE, nilE, mslE, fadE, AV.cells, AV.isBot, AV.one, AV.flat, flatL, ids1, ids2, idsX, AV.lt, ltL, AObj.lt, finE, sevalprocAttr, e32_len, hT, Nat.mul_one, e32_get]
      refine loopF mixed (fun p : Nat × List UInt8 => mk [(4, .ptr 1 0), (6, .ptr 19 0), (36, .agg (e32 w)), (37, .int .i64 i), (7, .int .i64 i), (8, .int .u32 (w.getD i 0).toNat), (41, .int .i64 p.1)]
          [(1, .box (eB (List.replicate 32 0))), (19, .box (eB p.2))] 20)
        (fun p => p.1 ≤ 4 ∧ p.2.length = 32 ∧ ∀ j, j < 4 * i + p.1 → p.2.getD j 0 = (outB w).getD j 0) (fun p => 4 - p.1) (0, d) 400 rfl rfl ⟨by simp, hd, ha⟩ ?_ ?_
      · refine less_mk (by simp) (by simp) ?_ ?_ <;> simp (disch := first | omega | (simp only [ZL] <;> omega)) only [Z, Op.callOf, bslE, nilE, mslE, fadE, AV.cells, AV.isBot, AV.one, AV.flat, flatL, ids1, ids2, idsX, AV.lt, ltL, AObj.lt, finE, sevalprocAttr, e32_lt, eB_lt]
      rintro ⟨k, q⟩ ⟨hk, hq, hb⟩
      dsimp only at hk hq hb
      simp (disch := first | omega | (simp only [ZL] <;> omega)) only [Z, Op.callOf, bslE, nilE, mslE, fadE, AV.cells, AV.isBot, AV.one, AV.flat, flatL, ids1, ids2, idsX, AV.lt, ltL, AObj.lt, finE, sevalprocAttr]
      refine condG_p (fun e2 => ?_) (fun e2 => ?_)
      · have hk' : k < 4 := by omega
        simp (disch := first | omega | (simp only [ZL] <;> omega)) only [Z, Op.callOf, bslE, nilE, mslE, fadE, AV.cells, AV.isBot, AV.one, AV.flat, flatL, ids1, ids2, idsX, AV.lt, ltL, AObj.lt, finE, sevalprocAttr, dg_4m, dg_8m, dgn, w8, Nat.mul_one, eB_len, eB_set]
        refine finR_of (k + 1, q.set (4 * i + k) (UInt8.ofNat (w.getD i 0 >>> UInt32.ofNat (8 * k)).toNat)) ⟨by dsimp only; omega, by simpa using hq, fun j hj => ?_⟩ (by dsimp only; omega) ?_
        · dsimp only at hj ⊢
          by_cases ej : 4 * i + k = j
          · subst ej
            rw [getD_set_eq8 _ _ _ (by omega), outB_get _ _ _ hi' hk']
          · rw [getD_set_ne8 _ _ _ _ ej]; exact hb j (by omega)
        · refine less_mk (by simp) (by simp) ?_ ?_ <;> simp (disch := first | omega | (simp only [ZL] <;> omega)) only [Z, Op.callOf, bslE, nilE, mslE, fadE, AV.cells, AV.isBot, AV.one, AV.flat, flatL, ids1, ids2, idsX, AV.lt, ltL, AObj.lt, finE, sevalprocAttr, e32_lt, eB_lt, i64_add1]
      · have : k = 4 := by omega
        subst this
        simp (disch := first | omega | (simp only [ZL] <;> omega)) only [Z, Op.callOf, bslE, nilE, mslE, fadE, AV.cells, AV.isBot, AV.one, AV.flat, flatL, ids1, ids2, idsX, AV.lt, ltL, AObj.lt, finE, sevalprocAttr]
        refine finR_of (i + 1, q) ⟨by dsimp only; omega, hq, fun j hj => hb j (by dsimp only at hj; omega)⟩ (by dsimp only; omega) ?_
        refine less_mk (by simp) (by simp) ?_ ?_ <;> simp (disch := first | omega | (simp only [ZL] <;> omega)) only [Z, Op.callOf, bslE, nilE, mslE, fadE, AV.cells, AV.isBot, AV.one, AV.flat, flatL, ids1, ids2, idsX, AV.lt, ltL, AObj.lt, finE, sevalprocAttr, e32_lt, eB_lt, i64_add1]
    · have : i = 8 := by omega
      subst this
      have hdw : d = outB w := list_ext8 _ _ 32 hd (outB_len w) fun j hj => ha j (by omega)
      subst hdw
      have ho := outB_len w
      simp (disch := first | omega | (simp only [ZL] <;> omega)) only [Z, Op.callOf, bslE, nilE, mslE, fadE, AV.cells, AV.isBot, AV.one, AV.flat, flatL, ids1, ids2, idsX, AV.lt, ltL, AObj.lt, finE, sevalprocAttr, eB_len, ho, eB_tk32, eB_one, eB_s0, frzM_eB, eB_lt]
      repeat' first | exact Sub.rfl' _ | exact sub_nils _ | exact SubL.nil | refine sub_tup ?_ | refine sub_agg ?_ | refine SubL.cons ?_ ?_

theorem join1_c (s : List UInt8) : APure Tryz.prog 76 [.sl 1 [[.str s]], .str []] (.str s) := by
  refine apure_fin mixed [] 400 Tryz.func76 Tryz.ntmps76 Tryz.results76 rfl rfl (by simp) rfl ?_
  simp (disch := first | omega | (simp only [ZL] <;> omega)) only [Z, Op.callOf, bslE, nilE, mslE, fadE, AV.cells, AV.isBot, AV.one, AV.flat, flatL, ids1, ids2, idsX, AV.lt, ltL, AObj.lt, finE, sevalprocAttr]
  repeat' first | exact Sub.rfl' _ | exact sub_nils _ | exact SubL.nil | refine sub_tup ?_ | refine sub_agg ?_ | refine SubL.cons ?_ ?_
theorem raw_c (d : List UInt8) (h : d.length = 32) : APure Tryz.prog 42 [.agg (eB d)] (.str d) := by
  refine apure_fin mixed [] 400 Tryz.func42 Tryz.ntmps42 Tryz.results42 rfl rfl (by simp) rfl ?_
  simp (disch := first | omega | (simp only [ZL] <;> omega)) only [Z, Op.callOf, bslE, nilE, mslE, fadE, AV.cells, AV.isBot, AV.one, AV.flat, flatL, ids1, ids2, idsX, AV.lt, ltL, AObj.lt, finE, sevalprocAttr, eB_len, h, eB_tk32, eB_aflat, contB_box, eB_encB]
  repeat' first | exact Sub.rfl' _ | exact sub_nils _ | exact SubL.nil | refine sub_tup ?_ | refine sub_agg ?_ | refine SubL.cons ?_ ?_
theorem sum_c (s : List UInt8) (hs : s.length < 2^40) : APure Tryz.prog 43 [.sl 1 [[.str s]]] (.agg (eB (sumS s))) := by
  refine apure_fin mixed [] 400 Tryz.func43 Tryz.ntmps43 Tryz.results43 rfl rfl (by simp) rfl ?_
  simp (disch := first | omega | (simp only [ZL] <;> omega)) only [Z, Op.callOf, bslE, nilE, mslE, fadE, AV.cells, AV.isBot, AV.one, AV.flat, flatL, ids1, ids2, idsX, AV.lt, ltL, AObj.lt, finE, sevalprocAttr]
  refine callL_pure eight_c (by simp [ltL]) rfl ?_
  have h8 := eight_len
  simp (disch := first | omega | (simp only [ZL] <;> omega)) only [Z, Op.callOf, bslE, nilE, mslE, fadE, AV.cells, AV.isBot, AV.one, AV.flat, flatL, ids1, ids2, idsX, AV.lt, ltL, AObj.lt, finE, sevalprocAttr, e32_len, h8, e32_one, e32_set0, e32_get0, e32_set, Nat.mul_one]
  have hs0 : sum0.length = 8 := by simp [sum0, eightS]
  have hs1 : eightS.set 0 (eightS.getD 0 0 ^^^ UInt32.ofNat 16842784) = sum0 := rfl
  simp (disch := first | omega | (simp only [ZL] <;> omega)) only [Z, Op.callOf, bslE, nilE, mslE, fadE, AV.cells, AV.isBot, AV.one, AV.flat, flatL, ids1, ids2, idsX, AV.lt, ltL, AObj.lt, finE, sevalprocAttr, e32_len, hs0, hs1, e32_tk8]
  refine callD_pure (join1_c s) (by simp [ltL, AV.lt]) ?_
  simp (disch := first | omega | (simp only [ZL] <;> omega)) only [Z, Op.callOf, bslE, nilE, mslE, fadE, AV.cells, AV.isBot, AV.one, AV.flat, flatL, ids1, ids2, idsX, AV.lt, ltL, AObj.lt, finE, sevalprocAttr]
  refine callD_pure (digest_c sum0 hs0 s hs) (by simp [ltL, AV.lt, e32_lt]) ?_
  have hsl := sumS_len s
  change (digestS sum0 s).length = 32 at hsl
  simp (disch := first | omega | (simp only [ZL] <;> omega)) only [Z, Op.callOf, bslE, nilE, mslE, fadE, AV.cells, AV.isBot, AV.one, AV.flat, flatL, ids1, ids2, idsX, AV.lt, ltL, AObj.lt, finE, sevalprocAttr, eB_len, hsl, eB_one, eB_set0]
  refine okK_of (by kernel_rfl) ?_
  simp (disch := first | omega | (simp only [ZL] <;> omega)) only [Z, Op.callOf, bslE, nilE, mslE, fadE, AV.cells, AV.isBot, AV.one, AV.flat, flatL, ids1, ids2, idsX, AV.lt, ltL, AObj.lt, finE, sevalprocAttr, eB_len, hsl, eB_tk32, eB_set0, eB_lt, frzM_eB]
  repeat' first | exact Sub.rfl' _ | exact sub_nils _ | exact SubL.nil | refine sub_tup ?_ | refine sub_agg ?_ | refine SubL.cons ?_ ?_
end Go.Ab
namespace Go.Ab
open Go Go.Proofs
theorem textsR_fuel : ∀ (f g : Nat) (b : List UInt8) (acc : List (List UInt8)), b.length ≤ f → b.length ≤ g → textsR f b acc = textsR g b acc
  | 0, 0, _, _, _, _ => rfl
  | 0, g + 1, b, acc, h, _ => by
    have : b = [] := List.eq_nil_of_length_eq_zero (by omega)
    subst this; simp [textsR]
  | f + 1, 0, b, acc, _, h => by
    have : b = [] := List.eq_nil_of_length_eq_zero (by omega)
    subst this; simp [textsR]
  | f + 1, g + 1, b, acc, h1, h2 => by
    rw [textsR, textsR]
    obtain ⟨a1, a2, a3, _, _⟩ := readS_le b
    split
    · rfl
    split
    · rfl
    rename_i h3
    have h3 : (readS b).2.2 = 0 := by simpa using h3
    split
    · rfl
    have := a3 h3
    exact textsR_fuel f g _ _ (by simp; omega) (by simp; omega)
theorem encT_len (l : List (List UInt8)) : (encT l).length = l.length := by simp [encT]
theorem encT_take (l : List (List UInt8)) : (encT l).take l.length = encT l := List.take_of_length_le (by simp [encT])
theorem encT_app (l : List (List UInt8)) (x : List UInt8) : encT l ++ [[.str x]] = encT (l ++ [x]) := by simp [encT]
theorem slice_eq (b : List UInt8) (i n : Nat) : (b.take (i + n)).drop i = (b.drop i).take n := by rw [List.drop_take, Nat.add_sub_cancel_left]
theorem tm_c (x : UInt8) : Int.tmod (x.toNat : Int) 128 = ((x.toNat % 128 : Nat) : Int) := by
  rw [Int.tmod_eq_emod_of_nonneg (by omega)]; omega
theorem i64_muln (a b : Nat) : (a : Int) * (b : Int) = ((a * b : Nat) : Int) := by simp
variable [Glob]
set_option maxHeartbeats 400000

theorem texts_c (b0 : List UInt8) (h1 : b0.length < 2^40) : APure Tryz.prog 100 [.str b0] (.tup [.sl 1 (encT (textsS b0).1), .int .i64 (textsS b0).2]) := by
  refine apure_fin mixed [] 400 Tryz.func100 Tryz.ntmps100 Tryz.results100 rfl rfl (by simp) rfl ?_
  simp (disch := first | omega | (simp only [ZL] <;> omega)) only [Z, Op.callOf, bslE, nilE, mslE, fadE, AV.cells, AV.isBot, AV.one, AV.flat, flatL, ids1, ids2, idsX, AV.lt, ltL, AObj.lt, finE, sevalprocAttr]
  refine loopG_row0 1 4 rfl ?_
  refine loopF mixed (fun p : List UInt8 × List (List UInt8) => mk [(0, .str p.1), (4, .row 3 p.2.length 0 p.2.length)] [(3, .row 1 p.2.length (encT p.2))] 4)
    (fun p => p.1.length ≤ b0.length ∧ p.2.length + p.1.length ≤ b0.length ∧ textsR p.1.length p.1 p.2 = textsS b0) (fun p => p.1.length) (b0, []) 400 rfl rfl ⟨by simp, by simp, rfl⟩ ?_ ?_
  · refine less_mk (by simp) (by simp) ?_ ?_ <;> simp (disch := first | omega | (simp only [ZL] <;> omega)) only [Z, Op.callOf, bslE, nilE, mslE, fadE, AV.cells, AV.isBot, AV.one, AV.flat, flatL, ids1, ids2, idsX, AV.lt, ltL, AObj.lt, finE, sevalprocAttr, encT, List.map_nil]
  rintro ⟨b, l⟩ ⟨hb, hl, hJ⟩
  dsimp only at hb hl hJ
  simp (disch := first | omega | (simp only [ZL] <;> omega)) only [Z, Op.callOf, bslE, nilE, mslE, fadE, AV.cells, AV.isBot, AV.one, AV.flat, flatL, ids1, ids2, idsX, AV.lt, ltL, AObj.lt, finE, sevalprocAttr]
  obtain ⟨a1, a2, a3, a4, a5⟩ := readS_le b
  by_cases e : b = []
  · subst e
    simp only [List.length_nil, textsR] at hJ
    simp (disch := first | omega | (simp only [ZL] <;> omega)) only [Z, Op.callOf, bslE, nilE, mslE, fadE, AV.cells, AV.isBot, AV.one, AV.flat, flatL, ids1, ids2, idsX, AV.lt, ltL, AObj.lt, finE, sevalprocAttr, encT_len, encT_take]
    rw [← hJ]
    repeat' first | exact Sub.rfl' _ | exact sub_nils _ | exact SubL.nil | refine sub_tup ?_ | refine sub_agg ?_ | refine SubL.cons ?_ ?_
  · have hp : 0 < b.length := List.length_pos_iff.2 e
    obtain ⟨m, hm⟩ : ∃ m, b.length = m + 1 := ⟨b.length - 1, by omega⟩
    rw [hm, textsR] at hJ
    simp only [e, if_false] at hJ
    simp (disch := first | omega | (simp only [ZL] <;> omega)) only [Z, Op.callOf, bslE, nilE, mslE, fadE, AV.cells, AV.isBot, AV.one, AV.flat, flatL, ids1, ids2, idsX, AV.lt, ltL, AObj.lt, finE, sevalprocAttr, e]
    refine callL_pure (read_c b (by omega)) (by simp [ltL, AV.lt]) rfl ?_
    generalize readS b = r at *
    obtain ⟨n, sz, er⟩ := r
    dsimp only at a1 a2 a3 a4 a5 hJ ⊢
    by_cases e1 : er = 0
    · subst e1
      have a6 := a3 rfl
      simp only [ne_eq, not_true_eq_false, if_false] at hJ
      have h5 : ((b.length : Int) - (sz : Int) < (n : Int)) = (b.length < sz + n) := propext (by omega)
      by_cases e2 : b.length < sz + n
      · simp only [e2, if_true] at hJ
        simp (disch := first | omega | (simp only [ZL] <;> omega)) only [Z, Op.callOf, bslE, nilE, mslE, fadE, AV.cells, AV.isBot, AV.one, AV.flat, flatL, ids1, ids2, idsX, AV.lt, ltL, AObj.lt, finE, sevalprocAttr, e, h5, e2]
        rw [← hJ]
        simp only [encT, List.map_nil]
        repeat' first | exact Sub.rfl' _ | exact sub_nils _ | exact SubL.nil | refine sub_tup ?_ | refine sub_agg ?_ | refine SubL.cons ?_ ?_
      · simp only [e2, if_false] at hJ
        simp (disch := first | omega | (simp only [ZL] <;> omega)) only [Z, Op.callOf, bslE, nilE, mslE, fadE, AV.cells, AV.isBot, AV.one, AV.flat, flatL, ids1, ids2, idsX, AV.lt, ltL, AObj.lt, finE, sevalprocAttr, e, h5, e2, i64_addn, encT_len]
        have h7 : l.length + 1 = (l ++ [(b.drop sz).take n]).length := by simp
        refine finR_of (b.drop (sz + n), l ++ [(b.drop sz).take n]) ⟨by simp; omega, by simp; omega, ?_⟩ (by simp; omega) ?_
        · dsimp only
          rw [← hJ]
          exact textsR_fuel _ _ _ _ (Nat.le_refl _) (by simp; omega)
        · refine less_mk (by simp) (by simp) ?_ ?_ <;> simp (disch := first | omega | (simp only [ZL] <;> omega)) only [Z, Op.callOf, bslE, nilE, mslE, fadE, AV.cells, AV.isBot, AV.one, AV.flat, flatL, ids1, ids2, idsX, AV.lt, ltL, AObj.lt, finE, sevalprocAttr, i64_addn, slice_eq, encT_app]
    · simp only [e1, ne_eq, not_false_eq_true, if_true] at hJ
      simp (disch := first | omega | (simp only [ZL] <;> omega)) only [Z, Op.callOf, bslE, nilE, mslE, fadE, AV.cells, AV.isBot, AV.one, AV.flat, flatL, ids1, ids2, idsX, AV.lt, ltL, AObj.lt, finE, sevalprocAttr, e, e1]
      rw [← hJ]
      simp only [encT, List.map_nil]
      repeat' first | exact Sub.rfl' _ | exact sub_nils _ | exact SubL.nil | refine sub_tup ?_ | refine sub_agg ?_ | refine SubL.cons ?_ ?_

theorem rtexts_c (b : List UInt8) (h1 : b.length < 2^40) : APure Tryz.prog 92 [.str b] (.tup [.sl 1 (encT (textsS b).1), .int .i64 (textsS b).2]) := by
  refine apure_fin mixed [] 400 Tryz.func92 Tryz.ntmps92 Tryz.results92 rfl rfl (by simp) rfl ?_
  simp (disch := first | omega | (simp only [ZL] <;> omega)) only [Z, Op.callOf, bslE, nilE, mslE, fadE, AV.cells, AV.isBot, AV.one, AV.flat, flatL, ids1, ids2, idsX, AV.lt, ltL, AObj.lt, finE, sevalprocAttr]
  refine loopF mixed (fun p : Nat × List (List UInt8) => mk [(0, .str b), (4, .row 2 p.2.length 0 p.2.length), (5, .int .i64 p.1)] [(2, .row 1 p.2.length (encT p.2))] 3)
    (fun p => p.1 ≤ b.length ∧ p.2.length ≤ p.1 ∧ textsR (b.length - p.1) (b.drop p.1) p.2 = textsS b) (fun p => b.length - p.1) (0, []) 400 rfl rfl ⟨by simp, by simp, rfl⟩ ?_ ?_
  · refine less_mk (by simp) (by simp) ?_ ?_ <;> simp (disch := first | omega | (simp only [ZL] <;> omega)) only [Z, Op.callOf, bslE, nilE, mslE, fadE, AV.cells, AV.isBot, AV.one, AV.flat, flatL, ids1, ids2, idsX, AV.lt, ltL, AObj.lt, finE, sevalprocAttr, encT, List.map_nil]
  rintro ⟨at0, l⟩ ⟨hat, hl, hJ⟩
  dsimp only at hat hl hJ
  simp (disch := first | omega | (simp only [ZL] <;> omega)) only [Z, Op.callOf, bslE, nilE, mslE, fadE, AV.cells, AV.isBot, AV.one, AV.flat, flatL, ids1, ids2, idsX, AV.lt, ltL, AObj.lt, finE, sevalprocAttr]
  refine condG_p (fun e => ?_) (fun e => ?_)
  · have hat' : at0 < b.length := by omega
    obtain ⟨m, hm⟩ : ∃ m, b.length - at0 = m + 1 := ⟨b.length - at0 - 1, by omega⟩
    rw [hm, textsR] at hJ
    have hne : b.drop at0 ≠ [] := by intro h; have := congrArg List.length h; simp at this; omega
    simp only [hne, if_false] at hJ
    simp (disch := first | omega | (simp only [ZL] <;> omega)) only [Z, Op.callOf, bslE, nilE, mslE, fadE, AV.cells, AV.isBot, AV.one, AV.flat, flatL, ids1, ids2, idsX, AV.lt, ltL, AObj.lt, finE, sevalprocAttr]
    refine loopF mixed (fun p : Nat × Nat => mk [(0, .str b), (4, .row 2 l.length 0 l.length), (5, .int .i64 ((at0 + p.1 : Nat) : Int)), (6, .int .i64 p.2), (7, .int .i64 ((2 ^ (7 * p.1) : Nat) : Int)), (8, .int .i64 p.1)] [(2, .row 1 l.length (encT l))] 3)
      (fun p => p.1 ≤ 3 ∧ at0 + p.1 ≤ b.length ∧ p.2 < 2 ^ (7 * p.1) ∧ readR p.1 p.2 (b.drop (at0 + p.1)) = readS (b.drop at0)) (fun p => b.length - p.1) (0, 0) 400 rfl rfl ⟨by simp, by simpa using hat, by decide, by simp [readS]⟩ ?_ ?_
    · refine less_mk (by simp) (by simp) ?_ ?_ <;> simp (disch := first | omega | (simp only [ZL] <;> omega)) only [Z, Op.callOf, bslE, nilE, mslE, fadE, AV.cells, AV.isBot, AV.one, AV.flat, flatL, ids1, ids2, idsX, AV.lt, ltL, AObj.lt, finE, sevalprocAttr, Nat.add_zero, Nat.mul_zero, Nat.pow_zero]
    rintro ⟨k, n⟩ ⟨hk, hak, hn, hR⟩
    dsimp only at hk hak hn hR
    have hp := pow_le k hk
    have he : (((at0 + k : Nat) : Int) = (b.length : Int)) = (at0 + k = b.length) := propext (by omega)
    by_cases e1 : at0 + k = b.length
    · simp (disch := first | omega | (simp only [ZL] <;> omega)) only [Z, Op.callOf, bslE, nilE, mslE, fadE, AV.cells, AV.isBot, AV.one, AV.flat, flatL, ids1, ids2, idsX, AV.lt, ltL, AObj.lt, finE, sevalprocAttr, e1]
      rw [e1, List.drop_length, readR] at hR
      rw [← hR] at hJ
      simp only [ne_eq, Int.reduceEq, not_false_eq_true, if_true] at hJ
      rw [← hJ]
      simp only [encT, List.map_nil]
      repeat' first | exact Sub.rfl' _ | exact sub_nils _ | exact SubL.nil | refine sub_tup ?_ | refine sub_agg ?_ | refine SubL.cons ?_ ?_
    · have hi' : at0 + k < b.length := by omega
      rw [List.drop_eq_getElem_cons hi', readR] at hR
      have hg : b.getD (at0 + k) 0 = b[at0 + k] := getD_lt b _ 0 hi'
      generalize b[at0 + k] = x at hg hR
      have hx := x.toNat_lt
      have hle : x.toNat % 128 * 2 ^ (7 * k) ≤ 127 * 2 ^ (7 * k) := Nat.mul_le_mul_right _ (by omega)
      have c3i : ((x.toNat : Int) = 0) = (x.toNat = 0) := propext (by omega)
      have c4i : ((x.toNat : Int) < 128) = (x.toNat < 128) := propext (by omega)
      have c1i : ((k : Int) = 3) = (k = 3) := propext (by omega)
      have c0i : ((0 : Int) < (k : Int)) = (0 < k) := propext (by omega)
      have hm128 : ((2 ^ (7 * k) : Nat) : Int) * 128 = ((2 ^ (7 * (k + 1)) : Nat) : Int) := by rw [hp.2]; omega
      by_cases c4 : x.toNat < 128
      · by_cases c3 : 0 < k ∧ x.toNat = 0
        · obtain ⟨c0, c3⟩ := c3
          simp only [c0, c3, and_self, or_true, if_true] at hR
          rw [← hR] at hJ
          simp only [ne_eq, Int.reduceEq, not_false_eq_true, if_true] at hJ
          simp (disch := first | omega | (simp only [ZL] <;> omega)) only [Z, Op.callOf, bslE, nilE, mslE, fadE, AV.cells, AV.isBot, AV.one, AV.flat, flatL, ids1, ids2, idsX, AV.lt, ltL, AObj.lt, finE, sevalprocAttr, he, e1, hg, tm_c, i64_muln, i64_addn, i64_add1, hm128, c3i, c4i, c0i, c4, c3, c0]
          rw [← hJ]
          simp only [encT, List.map_nil]
          repeat' first | exact Sub.rfl' _ | exact sub_nils _ | exact SubL.nil | refine sub_tup ?_ | refine sub_agg ?_ | refine SubL.cons ?_ ?_
        · simp only [show ¬ (k = 3 ∧ 128 ≤ x.toNat ∨ 0 < k ∧ x.toNat = 0) by omega, c4, if_false, if_true] at hR
          rw [← hR] at hJ
          simp only [ne_eq, not_true_eq_false, if_false, List.length_drop] at hJ
          by_cases d : x.toNat = 0
          · have c0 : ¬ 0 < k := fun h => c3 ⟨h, d⟩
            have c3t : ((x.toNat : Int) = 0) = True := eq_true (by omega)
            simp (disch := first | omega | (simp only [ZL] <;> omega)) only [Z, Op.callOf, bslE, nilE, mslE, fadE, AV.cells, AV.isBot, AV.one, AV.flat, flatL, ids1, ids2, idsX, AV.lt, ltL, AObj.lt, finE, sevalprocAttr, he, e1, hg, tm_c, i64_muln, i64_addn, i64_add1, hm128, c3t, c4i, c0i, c4, c0]
            have hv2 : n + x.toNat % 128 * 2 ^ (7 * k) < 268435456 := by omega
            generalize hv : n + x.toNat % 128 * 2 ^ (7 * k) = v at hv2 hJ ⊢
            have h5 : ((b.length : Int) - ((at0 + k + 1 : Nat) : Int) < (v : Int)) = (b.length - at0 < k + 1 + v) := propext (by omega)
            by_cases e2 : b.length - at0 < k + 1 + v
            · simp only [e2, if_true] at hJ
              simp (disch := first | omega | (simp only [ZL] <;> omega)) only [Z, Op.callOf, bslE, nilE, mslE, fadE, AV.cells, AV.isBot, AV.one, AV.flat, flatL, ids1, ids2, idsX, AV.lt, ltL, AObj.lt, finE, sevalprocAttr, h5, e2]
              rw [← hJ]
              simp only [encT, List.map_nil]
              repeat' first | exact Sub.rfl' _ | exact sub_nils _ | exact SubL.nil | refine sub_tup ?_ | refine sub_agg ?_ | refine SubL.cons ?_ ?_
            · simp only [e2, if_false] at hJ
              simp (disch := first | omega | (simp only [ZL] <;> omega)) only [Z, Op.callOf, bslE, nilE, mslE, fadE, AV.cells, AV.isBot, AV.one, AV.flat, flatL, ids1, ids2, idsX, AV.lt, ltL, AObj.lt, finE, sevalprocAttr, h5, e2, i64_addn, encT_len]
              refine finR_of (at0 + k + 1 + v, l ++ [(b.drop (at0 + k + 1)).take v]) ⟨by dsimp only; omega, by simp; omega, ?_⟩ (by dsimp only; omega) ?_
              · dsimp only
                rw [← hJ, List.drop_drop, List.drop_drop]
                rw [show at0 + (k + 1 + v) = at0 + k + 1 + v by omega, show at0 + (k + 1) = at0 + k + 1 by omega]
                exact textsR_fuel _ _ _ _ (by simp) (by simp; omega)
              · refine less_mk (by simp) (by simp) ?_ ?_ <;> simp (disch := first | omega | (simp only [ZL] <;> omega)) only [Z, Op.callOf, bslE, nilE, mslE, fadE, AV.cells, AV.isBot, AV.one, AV.flat, flatL, ids1, ids2, idsX, AV.lt, ltL, AObj.lt, finE, sevalprocAttr, i64_addn, slice_eq, encT_app]
          · simp (disch := first | omega | (simp only [ZL] <;> omega)) only [Z, Op.callOf, bslE, nilE, mslE, fadE, AV.cells, AV.isBot, AV.one, AV.flat, flatL, ids1, ids2, idsX, AV.lt, ltL, AObj.lt, finE, sevalprocAttr, he, e1, hg, tm_c, i64_muln, i64_addn, i64_add1, hm128, c3i, c4i, c0i, c4, d]
            have hv2 : n + x.toNat % 128 * 2 ^ (7 * k) < 268435456 := by omega
            generalize hv : n + x.toNat % 128 * 2 ^ (7 * k) = v at hv2 hJ ⊢
            have h5 : ((b.length : Int) - ((at0 + k + 1 : Nat) : Int) < (v : Int)) = (b.length - at0 < k + 1 + v) := propext (by omega)
            by_cases e2 : b.length - at0 < k + 1 + v
            · simp only [e2, if_true] at hJ
              simp (disch := first | omega | (simp only [ZL] <;> omega)) only [Z, Op.callOf, bslE, nilE, mslE, fadE, AV.cells, AV.isBot, AV.one, AV.flat, flatL, ids1, ids2, idsX, AV.lt, ltL, AObj.lt, finE, sevalprocAttr, h5, e2]
              rw [← hJ]
              simp only [encT, List.map_nil]
              repeat' first | exact Sub.rfl' _ | exact sub_nils _ | exact SubL.nil | refine sub_tup ?_ | refine sub_agg ?_ | refine SubL.cons ?_ ?_
            · simp only [e2, if_false] at hJ
              simp (disch := first | omega | (simp only [ZL] <;> omega)) only [Z, Op.callOf, bslE, nilE, mslE, fadE, AV.cells, AV.isBot, AV.one, AV.flat, flatL, ids1, ids2, idsX, AV.lt, ltL, AObj.lt, finE, sevalprocAttr, h5, e2, i64_addn, encT_len]
              refine finR_of (at0 + k + 1 + v, l ++ [(b.drop (at0 + k + 1)).take v]) ⟨by dsimp only; omega, by simp; omega, ?_⟩ (by dsimp only; omega) ?_
              · dsimp only
                rw [← hJ, List.drop_drop, List.drop_drop]
                rw [show at0 + (k + 1 + v) = at0 + k + 1 + v by omega, show at0 + (k + 1) = at0 + k + 1 by omega]
                exact textsR_fuel _ _ _ _ (by simp) (by simp; omega)
              · refine less_mk (by simp) (by simp) ?_ ?_ <;> simp (disch := first | omega | (simp only [ZL] <;> omega)) only [Z, Op.callOf, bslE, nilE, mslE, fadE, AV.cells, AV.isBot, AV.one, AV.flat, flatL, ids1, ids2, idsX, AV.lt, ltL, AObj.lt, finE, sevalprocAttr, i64_addn, slice_eq, encT_app]
      · by_cases c1 : k = 3
        · subst c1
          simp only [show 128 ≤ x.toNat by omega, and_self, true_or, if_true] at hR
          rw [← hR] at hJ
          simp only [ne_eq, Int.reduceEq, not_false_eq_true, if_true] at hJ
          simp (disch := first | omega | (simp only [ZL] <;> omega)) only [Z, Op.callOf, bslE, nilE, mslE, fadE, AV.cells, AV.isBot, AV.one, AV.flat, flatL, ids1, ids2, idsX, AV.lt, ltL, AObj.lt, finE, sevalprocAttr, he, e1, hg, tm_c, i64_muln, i64_addn, i64_add1, hm128, c3i, c4i, c4]
          rw [← hJ]
          simp only [encT, List.map_nil]
          repeat' first | exact Sub.rfl' _ | exact sub_nils _ | exact SubL.nil | refine sub_tup ?_ | refine sub_agg ?_ | refine SubL.cons ?_ ?_
        · simp only [show ¬ (k = 3 ∧ 128 ≤ x.toNat ∨ 0 < k ∧ x.toNat = 0) by omega, c4, if_false] at hR
          simp (disch := first | omega | (simp only [ZL] <;> omega)) only [Z, Op.callOf, bslE, nilE, mslE, fadE, AV.cells, AV.isBot, AV.one, AV.flat, flatL, ids1, ids2, idsX, AV.lt, ltL, AObj.lt, finE, sevalprocAttr, he, e1, hg, tm_c, i64_muln, i64_addn, i64_add1, hm128, c3i, c4i, c1i, c4, c1]
          refine finR_of (k + 1, n + x.toNat % 128 * 2 ^ (7 * k)) ⟨by dsimp only; omega, by dsimp only; omega, by dsimp only; omega, hR⟩ (by dsimp only; omega) ?_
          refine less_mk (by simp) (by simp) ?_ ?_ <;> simp (disch := first | omega | (simp only [ZL] <;> omega)) only [Z, Op.callOf, bslE, nilE, mslE, fadE, AV.cells, AV.isBot, AV.one, AV.flat, flatL, ids1, ids2, idsX, AV.lt, ltL, AObj.lt, finE, sevalprocAttr, i64_add1, i64_addn, Nat.add_assoc]
  · have : at0 = b.length := by omega
    subst this
    rw [Nat.sub_self, textsR] at hJ
    simp (disch := first | omega | (simp only [ZL] <;> omega)) only [Z, Op.callOf, bslE, nilE, mslE, fadE, AV.cells, AV.isBot, AV.one, AV.flat, flatL, ids1, ids2, idsX, AV.lt, ltL, AObj.lt, finE, sevalprocAttr, encT_len, encT_take]
    rw [← hJ]
    repeat' first | exact Sub.rfl' _ | exact sub_nils _ | exact SubL.nil | refine sub_tup ?_ | refine sub_agg ?_ | refine SubL.cons ?_ ?_
end Go.Ab
namespace Go.Ab
open Go Go.Proofs
theorem getD_drop8 (b : List UInt8) (i j : Nat) : (b.drop i).getD j 0 = b.getD (i + j) 0 := by simp [List.getD]
theorem or_add8 (a b : UInt32) (k : Nat) (hk : k = 8 ∨ k = 16 ∨ k = 24) (ha : a.toNat < 2 ^ k) (hb : b.toNat < 256) : a ||| b <<< UInt32.ofNat k = a + b * UInt32.ofNat (2 ^ k) := by
  apply UInt32.toNat_inj.1
  have hk32 : k < 32 := by omega
  have e1 : (b <<< UInt32.ofNat k).toNat = b.toNat <<< k := by
    rw [UInt32.toNat_shiftLeft]
    have : (UInt32.ofNat k).toNat = k := by simp; omega
    rw [this, Nat.mod_eq_of_lt hk32, Nat.shiftLeft_eq]
    apply Nat.mod_eq_of_lt
    rcases hk with rfl | rfl | rfl <;> omega
  have e2 : (b * UInt32.ofNat (2 ^ k)).toNat = b.toNat * 2 ^ k := by
    rw [UInt32.toNat_mul]
    rcases hk with rfl | rfl | rfl
    · simp; omega
    · simp; omega
    · simp; omega
  rw [UInt32.toNat_or, e1, UInt32.toNat_add, e2, Nat.or_comm, ← Nat.shiftLeft_add_eq_or_of_lt ha, Nat.shiftLeft_eq]
  rw [Nat.mod_eq_of_lt]
  · omega
  · rcases hk with rfl | rfl | rfl <;> omega
theorem word_sum (a b c d : UInt8) : ((a.toUInt32 + b.toUInt32 * UInt32.ofNat 256) + c.toUInt32 * UInt32.ofNat 65536) + d.toUInt32 * UInt32.ofNat 16777216 =
    ((a.toUInt32 ||| b.toUInt32 <<< UInt32.ofNat 8) ||| c.toUInt32 <<< UInt32.ofNat 16) ||| d.toUInt32 <<< UInt32.ofNat 24 := by
  have ha := a.toNat_lt; have hb := b.toNat_lt; have hc := c.toNat_lt; have hd := d.toNat_lt
  have t : ∀ x : UInt8, x.toUInt32.toNat = x.toNat := fun x => by simp
  rw [or_add8 a.toUInt32 b.toUInt32 8 (.inl rfl) (by rw [t]; omega) (by rw [t]; omega)]
  have e1 : (a.toUInt32 + b.toUInt32 * UInt32.ofNat (2 ^ 8)).toNat = a.toNat + b.toNat * 256 := by
    rw [UInt32.toNat_add, UInt32.toNat_mul, t, t]; simp; omega
  rw [or_add8 _ c.toUInt32 16 (.inr (.inl rfl)) (by rw [e1]; omega) (by rw [t]; omega)]
  have e2 : (a.toUInt32 + b.toUInt32 * UInt32.ofNat (2 ^ 8) + c.toUInt32 * UInt32.ofNat (2 ^ 16)).toNat = a.toNat + b.toNat * 256 + c.toNat * 65536 := by
    rw [UInt32.toNat_add, e1, UInt32.toNat_mul, t]; simp; omega
  rw [or_add8 _ d.toUInt32 24 (.inr (.inr rfl)) (by rw [e2]; omega) (by rw [t]; omega)]
theorem e32_s0 (a : List UInt32) (cs : List AV) (h : cs.length = 16) (ha : a.length = 16) : setL cs 0 (e32 a) = e32 a := setL_0 _ _ (by rw [e32_len, h, ha])
theorem e32_tk16 (v : List UInt32) (h : v.length = 16) : (e32 v).take 16 = e32 v := List.take_of_length_le (by rw [e32_len, h]; exact Nat.le_refl _)
def rowLits : List (List UInt8) := (List.range 10).map fun r => (rowsTab.drop (16 * r)).take 16
def placeN (b : UInt8) : Nat := if 97 ≤ b.toNat then b.toNat - 97 + 10 else b.toNat - 48
theorem rowLit_at : ∀ r : Fin 10, ∀ i : Fin 16, 48 ≤ ((rowLits.getD r []).getD i 0).toNat ∧ placeN ((rowLits.getD r []).getD i 0) = rowN r i ∧ ((rowLits.getD r []).length = 16) := by decide +kernel
variable [Glob] [LibC]
set_option maxHeartbeats 1000000

theorem reight_c : APure Tryz.prog 127 [] (.agg (e32 eightS)) := by
  refine apure_fin mixed [] 400 Tryz.func127 Tryz.ntmps127 Tryz.results127 rfl rfl (by simp) rfl ?_
  simp (disch := first | omega | (simp only [ZL] <;> omega)) only [Z, Op.callOf, bslE, nilE, mslE, fadE, AV.cells, AV.isBot, AV.one, AV.flat, flatL, ids1, ids2, idsX, AV.lt, ltL, AObj.lt, finE, reduceCtorEq, reduceIte, Nat.reduceEqDiff, Nat.reduceAdd, Nat.reduceLeDiff, Nat.reduceMul, Nat.reduceLT, Nat.reduceBEq, Nat.reduceSub, Int.reduceToNat, Int.reduceLT, Int.reduceLE, Int.reduceAdd, Int.reduceSub, Int.reduceMul, Int.reduceGT, Int.reduceGE, Int.reduceEq, Int.reduceNe, Int.reduceNeg, e32_lt]
  exact Sub.rfl' _
theorem place_c (b : UInt8) (h : 48 ≤ b.toNat) : APure Tryz.prog 168 [.int .u8 b.toNat] (.int .i64 (placeN b)) := by
  refine apure_fin mixed [] 400 Tryz.func168 Tryz.ntmps168 Tryz.results168 rfl rfl (by simp) rfl ?_
  have hb := b.toNat_lt
  by_cases e : (97 : Int) ≤ (b.toNat : Int)
  · simp (disch := first | omega | (simp only [ZL] <;> omega)) only [Z, Op.callOf, bslE, nilE, mslE, fadE, AV.cells, AV.isBot, AV.one, AV.flat, flatL, ids1, ids2, idsX, AV.lt, ltL, AObj.lt, finE, reduceCtorEq, reduceIte, Nat.reduceEqDiff, Nat.reduceAdd, Nat.reduceLeDiff, Nat.reduceMul, Nat.reduceLT, Nat.reduceBEq, Nat.reduceSub, Int.reduceToNat, Int.reduceLT, Int.reduceLE, Int.reduceAdd, Int.reduceSub, Int.reduceMul, Int.reduceGT, Int.reduceGE, Int.reduceEq, Int.reduceNe, Int.reduceNeg, e]
    refine sub_eq (congrArg _ ?_)
    unfold placeN
    rw [if_pos (by omega)]; omega
  · simp (disch := first | omega | (simp only [ZL] <;> omega)) only [Z, Op.callOf, bslE, nilE, mslE, fadE, AV.cells, AV.isBot, AV.one, AV.flat, flatL, ids1, ids2, idsX, AV.lt, ltL, AObj.lt, finE, reduceCtorEq, reduceIte, Nat.reduceEqDiff, Nat.reduceAdd, Nat.reduceLeDiff, Nat.reduceMul, Nat.reduceLT, Nat.reduceBEq, Nat.reduceSub, Int.reduceToNat, Int.reduceLT, Int.reduceLE, Int.reduceAdd, Int.reduceSub, Int.reduceMul, Int.reduceGT, Int.reduceGE, Int.reduceEq, Int.reduceNe, Int.reduceNeg, e]
    refine sub_eq (congrArg _ ?_)
    unfold placeN
    rw [if_neg (by omega)]; omega
theorem turn16_c (x : UInt32) : APure Tryz.prog 179 [.int .u32 x.toNat, .int .u64 16] (.int .u32 (rotr x 16).toNat) := by
  refine apure_fin mixed [] 400 Tryz.func179 Tryz.ntmps179 Tryz.results179 rfl rfl (by simp) rfl ?_
  simp (disch := first | omega | (simp only [ZL] <;> omega)) only [Z, Op.callOf, bslE, nilE, mslE, fadE, AV.cells, AV.isBot, AV.one, AV.flat, flatL, ids1, ids2, idsX, AV.lt, ltL, AObj.lt, finE, reduceCtorEq, reduceIte, Nat.reduceEqDiff, Nat.reduceAdd, Nat.reduceLeDiff, Nat.reduceMul, Nat.reduceLT, Nat.reduceBEq, Nat.reduceSub, Int.reduceToNat, Int.reduceLT, Int.reduceLE, Int.reduceAdd, Int.reduceSub, Int.reduceMul, Int.reduceGT, Int.reduceGE, Int.reduceEq, Int.reduceNe, Int.reduceNeg, u64_wrap]
  refine sub_eq (congrArg _ ?_)
  rw [rotr, UInt32.or_comm]
theorem turn12_c (x : UInt32) : APure Tryz.prog 179 [.int .u32 x.toNat, .int .u64 12] (.int .u32 (rotr x 12).toNat) := by
  refine apure_fin mixed [] 400 Tryz.func179 Tryz.ntmps179 Tryz.results179 rfl rfl (by simp) rfl ?_
  simp (disch := first | omega | (simp only [ZL] <;> omega)) only [Z, Op.callOf, bslE, nilE, mslE, fadE, AV.cells, AV.isBot, AV.one, AV.flat, flatL, ids1, ids2, idsX, AV.lt, ltL, AObj.lt, finE, reduceCtorEq, reduceIte, Nat.reduceEqDiff, Nat.reduceAdd, Nat.reduceLeDiff, Nat.reduceMul, Nat.reduceLT, Nat.reduceBEq, Nat.reduceSub, Int.reduceToNat, Int.reduceLT, Int.reduceLE, Int.reduceAdd, Int.reduceSub, Int.reduceMul, Int.reduceGT, Int.reduceGE, Int.reduceEq, Int.reduceNe, Int.reduceNeg, u64_wrap]
  refine sub_eq (congrArg _ ?_)
  rw [rotr, UInt32.or_comm]
theorem turn8_c (x : UInt32) : APure Tryz.prog 179 [.int .u32 x.toNat, .int .u64 8] (.int .u32 (rotr x 8).toNat) := by
  refine apure_fin mixed [] 400 Tryz.func179 Tryz.ntmps179 Tryz.results179 rfl rfl (by simp) rfl ?_
  simp (disch := first | omega | (simp only [ZL] <;> omega)) only [Z, Op.callOf, bslE, nilE, mslE, fadE, AV.cells, AV.isBot, AV.one, AV.flat, flatL, ids1, ids2, idsX, AV.lt, ltL, AObj.lt, finE, reduceCtorEq, reduceIte, Nat.reduceEqDiff, Nat.reduceAdd, Nat.reduceLeDiff, Nat.reduceMul, Nat.reduceLT, Nat.reduceBEq, Nat.reduceSub, Int.reduceToNat, Int.reduceLT, Int.reduceLE, Int.reduceAdd, Int.reduceSub, Int.reduceMul, Int.reduceGT, Int.reduceGE, Int.reduceEq, Int.reduceNe, Int.reduceNeg, u64_wrap]
  refine sub_eq (congrArg _ ?_)
  rw [rotr, UInt32.or_comm]
theorem turn7_c (x : UInt32) : APure Tryz.prog 179 [.int .u32 x.toNat, .int .u64 7] (.int .u32 (rotr x 7).toNat) := by
  refine apure_fin mixed [] 400 Tryz.func179 Tryz.ntmps179 Tryz.results179 rfl rfl (by simp) rfl ?_
  simp (disch := first | omega | (simp only [ZL] <;> omega)) only [Z, Op.callOf, bslE, nilE, mslE, fadE, AV.cells, AV.isBot, AV.one, AV.flat, flatL, ids1, ids2, idsX, AV.lt, ltL, AObj.lt, finE, reduceCtorEq, reduceIte, Nat.reduceEqDiff, Nat.reduceAdd, Nat.reduceLeDiff, Nat.reduceMul, Nat.reduceLT, Nat.reduceBEq, Nat.reduceSub, Int.reduceToNat, Int.reduceLT, Int.reduceLE, Int.reduceAdd, Int.reduceSub, Int.reduceMul, Int.reduceGT, Int.reduceGE, Int.reduceEq, Int.reduceNe, Int.reduceNeg, u64_wrap]
  refine sub_eq (congrArg _ ?_)
  rw [rotr, UInt32.or_comm]

theorem rrows_c : APure Tryz.prog 167 [] (.sl 1 (encT rowLits)) := by
  refine apure_fin mixed [] 400 Tryz.func167 Tryz.ntmps167 Tryz.results167 rfl rfl (by simp) rfl ?_
  simp (disch := first | omega | (simp only [ZL] <;> omega)) only [Z, Op.callOf, bslE, nilE, mslE, fadE, AV.cells, AV.isBot, AV.one, AV.flat, flatL, ids1, ids2, idsX, AV.lt, ltL, AObj.lt, finE, reduceCtorEq, reduceIte, Nat.reduceEqDiff, Nat.reduceAdd, Nat.reduceLeDiff, Nat.reduceMul, Nat.reduceLT, Nat.reduceBEq, Nat.reduceSub, Int.reduceToNat, Int.reduceLT, Int.reduceLE, Int.reduceAdd, Int.reduceSub, Int.reduceMul, Int.reduceGT, Int.reduceGE, Int.reduceEq, Int.reduceNe, Int.reduceNeg]
  exact Sub.rfl' _

theorem rmix_c (v : List UInt32) (a b c d : Nat) (x y : UInt32) (hv : v.length = 16) (ha : a < 16) (hb : b < 16) (hc : c < 16) (hd : d < 16) :
    APure Tryz.prog 169 [.agg (e32 v), .int .i64 a, .int .i64 b, .int .i64 c, .int .i64 d, .int .u32 x.toNat, .int .u32 y.toNat] (.agg (e32 (mixS v a b c d x y))) := by
  refine apure_fin mixed [] 400 Tryz.func169 Tryz.ntmps169 Tryz.results169 rfl rfl (by simp) rfl ?_
  simp (disch := first | omega | (simp only [ZL] <;> omega)) only [Z, Op.callOf, bslE, nilE, mslE, fadE, AV.cells, AV.isBot, AV.one, AV.flat, flatL, ids1, ids2, idsX, AV.lt, ltL, AObj.lt, finE, reduceCtorEq, reduceIte, Nat.reduceEqDiff, Nat.reduceAdd, Nat.reduceLeDiff, Nat.reduceMul, Nat.reduceLT, Nat.reduceBEq, Nat.reduceSub, Int.reduceToNat, Int.reduceLT, Int.reduceLE, Int.reduceAdd, Int.reduceSub, Int.reduceMul, Int.reduceGT, Int.reduceGE, Int.reduceEq, Int.reduceNe, Int.reduceNeg, e32_len, Nat.mul_one, e32_get, e32_set, List.length_set]
  refine okK_of (by kernel_rfl) ?_
  simp (disch := first | omega | (simp only [ZL] <;> omega)) only [Z, Op.callOf, bslE, nilE, mslE, fadE, AV.cells, AV.isBot, AV.one, AV.flat, flatL, ids1, ids2, idsX, AV.lt, ltL, AObj.lt, finE, reduceCtorEq, reduceIte, Nat.reduceEqDiff, Nat.reduceAdd, Nat.reduceLeDiff, Nat.reduceMul, Nat.reduceLT, Nat.reduceBEq, Nat.reduceSub, Int.reduceToNat, Int.reduceLT, Int.reduceLE, Int.reduceAdd, Int.reduceSub, Int.reduceMul, Int.reduceGT, Int.reduceGE, Int.reduceEq, Int.reduceNe, Int.reduceNeg, e32_len, Nat.mul_one, e32_get, e32_set, List.length_set]
  refine callD_pure (turn16_c _) (by simp [ltL, AV.lt]) ?_
  simp (disch := first | omega | (simp only [ZL] <;> omega)) only [Z, Op.callOf, bslE, nilE, mslE, fadE, AV.cells, AV.isBot, AV.one, AV.flat, flatL, ids1, ids2, idsX, AV.lt, ltL, AObj.lt, finE, reduceCtorEq, reduceIte, Nat.reduceEqDiff, Nat.reduceAdd, Nat.reduceLeDiff, Nat.reduceMul, Nat.reduceLT, Nat.reduceBEq, Nat.reduceSub, Int.reduceToNat, Int.reduceLT, Int.reduceLE, Int.reduceAdd, Int.reduceSub, Int.reduceMul, Int.reduceGT, Int.reduceGE, Int.reduceEq, Int.reduceNe, Int.reduceNeg, e32_len, Nat.mul_one, e32_get, e32_set, List.length_set]
  refine okK_of (by kernel_rfl) ?_
  simp (disch := first | omega | (simp only [ZL] <;> omega)) only [Z, Op.callOf, bslE, nilE, mslE, fadE, AV.cells, AV.isBot, AV.one, AV.flat, flatL, ids1, ids2, idsX, AV.lt, ltL, AObj.lt, finE, reduceCtorEq, reduceIte, Nat.reduceEqDiff, Nat.reduceAdd, Nat.reduceLeDiff, Nat.reduceMul, Nat.reduceLT, Nat.reduceBEq, Nat.reduceSub, Int.reduceToNat, Int.reduceLT, Int.reduceLE, Int.reduceAdd, Int.reduceSub, Int.reduceMul, Int.reduceGT, Int.reduceGE, Int.reduceEq, Int.reduceNe, Int.reduceNeg, e32_len, Nat.mul_one, e32_get, e32_set, List.length_set]
  refine okK_of (by kernel_rfl) ?_
  simp (disch := first | omega | (simp only [ZL] <;> omega)) only [Z, Op.callOf, bslE, nilE, mslE, fadE, AV.cells, AV.isBot, AV.one, AV.flat, flatL, ids1, ids2, idsX, AV.lt, ltL, AObj.lt, finE, reduceCtorEq, reduceIte, Nat.reduceEqDiff, Nat.reduceAdd, Nat.reduceLeDiff, Nat.reduceMul, Nat.reduceLT, Nat.reduceBEq, Nat.reduceSub, Int.reduceToNat, Int.reduceLT, Int.reduceLE, Int.reduceAdd, Int.reduceSub, Int.reduceMul, Int.reduceGT, Int.reduceGE, Int.reduceEq, Int.reduceNe, Int.reduceNeg, e32_len, Nat.mul_one, e32_get, e32_set, List.length_set]
  refine callD_pure (turn12_c _) (by simp [ltL, AV.lt]) ?_
  simp (disch := first | omega | (simp only [ZL] <;> omega)) only [Z, Op.callOf, bslE, nilE, mslE, fadE, AV.cells, AV.isBot, AV.one, AV.flat, flatL, ids1, ids2, idsX, AV.lt, ltL, AObj.lt, finE, reduceCtorEq, reduceIte, Nat.reduceEqDiff, Nat.reduceAdd, Nat.reduceLeDiff, Nat.reduceMul, Nat.reduceLT, Nat.reduceBEq, Nat.reduceSub, Int.reduceToNat, Int.reduceLT, Int.reduceLE, Int.reduceAdd, Int.reduceSub, Int.reduceMul, Int.reduceGT, Int.reduceGE, Int.reduceEq, Int.reduceNe, Int.reduceNeg, e32_len, Nat.mul_one, e32_get, e32_set, List.length_set]
  refine okK_of (by kernel_rfl) ?_
  simp (disch := first | omega | (simp only [ZL] <;> omega)) only [Z, Op.callOf, bslE, nilE, mslE, fadE, AV.cells, AV.isBot, AV.one, AV.flat, flatL, ids1, ids2, idsX, AV.lt, ltL, AObj.lt, finE, reduceCtorEq, reduceIte, Nat.reduceEqDiff, Nat.reduceAdd, Nat.reduceLeDiff, Nat.reduceMul, Nat.reduceLT, Nat.reduceBEq, Nat.reduceSub, Int.reduceToNat, Int.reduceLT, Int.reduceLE, Int.reduceAdd, Int.reduceSub, Int.reduceMul, Int.reduceGT, Int.reduceGE, Int.reduceEq, Int.reduceNe, Int.reduceNeg, e32_len, Nat.mul_one, e32_get, e32_set, List.length_set]
  refine okK_of (by kernel_rfl) ?_
  simp (disch := first | omega | (simp only [ZL] <;> omega)) only [Z, Op.callOf, bslE, nilE, mslE, fadE, AV.cells, AV.isBot, AV.one, AV.flat, flatL, ids1, ids2, idsX, AV.lt, ltL, AObj.lt, finE, reduceCtorEq, reduceIte, Nat.reduceEqDiff, Nat.reduceAdd, Nat.reduceLeDiff, Nat.reduceMul, Nat.reduceLT, Nat.reduceBEq, Nat.reduceSub, Int.reduceToNat, Int.reduceLT, Int.reduceLE, Int.reduceAdd, Int.reduceSub, Int.reduceMul, Int.reduceGT, Int.reduceGE, Int.reduceEq, Int.reduceNe, Int.reduceNeg, e32_len, Nat.mul_one, e32_get, e32_set, List.length_set]
  refine callD_pure (turn8_c _) (by simp [ltL, AV.lt]) ?_
  simp (disch := first | omega | (simp only [ZL] <;> omega)) only [Z, Op.callOf, bslE, nilE, mslE, fadE, AV.cells, AV.isBot, AV.one, AV.flat, flatL, ids1, ids2, idsX, AV.lt, ltL, AObj.lt, finE, reduceCtorEq, reduceIte, Nat.reduceEqDiff, Nat.reduceAdd, Nat.reduceLeDiff, Nat.reduceMul, Nat.reduceLT, Nat.reduceBEq, Nat.reduceSub, Int.reduceToNat, Int.reduceLT, Int.reduceLE, Int.reduceAdd, Int.reduceSub, Int.reduceMul, Int.reduceGT, Int.reduceGE, Int.reduceEq, Int.reduceNe, Int.reduceNeg, e32_len, Nat.mul_one, e32_get, e32_set, List.length_set]
  refine okK_of (by kernel_rfl) ?_
  simp (disch := first | omega | (simp only [ZL] <;> omega)) only [Z, Op.callOf, bslE, nilE, mslE, fadE, AV.cells, AV.isBot, AV.one, AV.flat, flatL, ids1, ids2, idsX, AV.lt, ltL, AObj.lt, finE, reduceCtorEq, reduceIte, Nat.reduceEqDiff, Nat.reduceAdd, Nat.reduceLeDiff, Nat.reduceMul, Nat.reduceLT, Nat.reduceBEq, Nat.reduceSub, Int.reduceToNat, Int.reduceLT, Int.reduceLE, Int.reduceAdd, Int.reduceSub, Int.reduceMul, Int.reduceGT, Int.reduceGE, Int.reduceEq, Int.reduceNe, Int.reduceNeg, e32_len, Nat.mul_one, e32_get, e32_set, List.length_set]
  refine okK_of (by kernel_rfl) ?_
  simp (disch := first | omega | (simp only [ZL] <;> omega)) only [Z, Op.callOf, bslE, nilE, mslE, fadE, AV.cells, AV.isBot, AV.one, AV.flat, flatL, ids1, ids2, idsX, AV.lt, ltL, AObj.lt, finE, reduceCtorEq, reduceIte, Nat.reduceEqDiff, Nat.reduceAdd, Nat.reduceLeDiff, Nat.reduceMul, Nat.reduceLT, Nat.reduceBEq, Nat.reduceSub, Int.reduceToNat, Int.reduceLT, Int.reduceLE, Int.reduceAdd, Int.reduceSub, Int.reduceMul, Int.reduceGT, Int.reduceGE, Int.reduceEq, Int.reduceNe, Int.reduceNeg, e32_len, Nat.mul_one, e32_get, e32_set, List.length_set]
  refine callD_pure (turn7_c _) (by simp [ltL, AV.lt]) ?_
  simp (disch := first | omega | (simp only [ZL] <;> omega)) only [Z, Op.callOf, bslE, nilE, mslE, fadE, AV.cells, AV.isBot, AV.one, AV.flat, flatL, ids1, ids2, idsX, AV.lt, ltL, AObj.lt, finE, reduceCtorEq, reduceIte, Nat.reduceEqDiff, Nat.reduceAdd, Nat.reduceLeDiff, Nat.reduceMul, Nat.reduceLT, Nat.reduceBEq, Nat.reduceSub, Int.reduceToNat, Int.reduceLT, Int.reduceLE, Int.reduceAdd, Int.reduceSub, Int.reduceMul, Int.reduceGT, Int.reduceGE, Int.reduceEq, Int.reduceNe, Int.reduceNeg, e32_len, Nat.mul_one, e32_get, e32_set, List.length_set]
  refine okK_of (by kernel_rfl) ?_
  have hl := mix_len v a b c d x y
  rw [hv] at hl
  have hE : e32 (mixS v a b c d x y) = e32 (mixS v a b c d x y) := rfl
  simp (disch := first | omega | (simp only [ZL] <;> omega)) only [Z, Op.callOf, bslE, nilE, mslE, fadE, AV.cells, AV.isBot, AV.one, AV.flat, flatL, ids1, ids2, idsX, AV.lt, ltL, AObj.lt, finE, reduceCtorEq, reduceIte, Nat.reduceEqDiff, Nat.reduceAdd, Nat.reduceLeDiff, Nat.reduceMul, Nat.reduceLT, Nat.reduceBEq, Nat.reduceSub, Int.reduceToNat, Int.reduceLT, Int.reduceLE, Int.reduceAdd, Int.reduceSub, Int.reduceMul, Int.reduceGT, Int.reduceGE, Int.reduceEq, Int.reduceNe, Int.reduceNeg, e32_len, Nat.mul_one, e32_get, e32_set, List.length_set, List.length_replicate, hv, e32_one, frzM_e32, e32_lt, e32_s0, e32_tk16]
  simp only [mixS, halfS, UInt32.add_assoc]
  repeat' first | exact Sub.rfl' _ | exact sub_nils _ | exact SubL.nil | refine sub_tup ?_ | refine sub_agg ?_ | refine SubL.cons ?_ ?_
end Go.Ab
