import Derived.Test.YthgmopnabpnicaaGreatDoorZ10
import Derived.Test.YthgmopnabpnicaaGreatDoorZ14
set_option linter.all false
namespace Go.Ab
open Go Go.Proofs
def rowsN (n : Nat) : Nat := (n + 2) / 3
def atS (xs : List UInt8) (rows : List (List UInt8)) (x : UInt8) : List UInt8 := (List.range (rows.headD []).length).map fun i => (fldAt xs (rows.map fun r => r.getD i 0) x).1
def partB (data : List UInt8) (p : Nat) : List UInt8 :=
  (List.range (rowsN data.length)).map fun i => (fldAt [1, 2, 3] [data.getD i 0, data.getD (rowsN data.length + i) 0, data.getD (2 * rowsN data.length + i) 0] (UInt8.ofNat p)).1
def cutS (data : List UInt8) : List (Nat × List UInt8) := (List.range 5).map fun k => (k + 1, partB data (k + 1))
def encP (l : List (Nat × List UInt8)) : List (List AV) := l.map fun p => [.int .i64 (p.1 : Int), .str p.2]
def encR (rows : List (List UInt8)) : List (List AV) := rows.map fun r => [.sl 1 (encB r)]
def rowJ (i1 i2 i3 : Nat) (d1 d2 d3 : List UInt8) (n row : Nat) : List UInt8 :=
  (List.range n).map fun i => (fldAt [UInt8.ofNat i1, UInt8.ofNat i2, UInt8.ofNat i3] [d1.getD i 0, d2.getD i 0, d3.getD i 0] (UInt8.ofNat row)).1
def joinS (i1 i2 i3 : Nat) (d1 d2 d3 : List UInt8) (size : Nat) : List UInt8 :=
  (rowJ i1 i2 i3 d1 d2 d3 (rowsN size) 1 ++ rowJ i1 i2 i3 d1 d2 d3 (rowsN size) 2 ++ rowJ i1 i2 i3 d1 d2 d3 (rowsN size) 3).take size
theorem encP_len (l : List (Nat × List UInt8)) : (encP l).length = l.length := by simp [encP]
theorem partB_len (d : List UInt8) (p : Nat) : (partB d p).length = rowsN d.length := by simp [partB]
theorem rowJ_len (i1 i2 i3 : Nat) (d1 d2 d3 : List UInt8) (n row : Nat) : (rowJ i1 i2 i3 d1 d2 d3 n row).length = n := by simp [rowJ]
theorem rem3 (n : Nat) : Int.tmod (n : Int) 3 = ((n % 3 : Nat) : Int) := by rw [Int.tmod_eq_emod_of_nonneg (by omega)]; omega
theorem quo3 (n : Nat) : Int.tdiv (n : Int) 3 = ((n / 3 : Nat) : Int) := by rw [Int.tdiv_eq_ediv_of_nonneg (by omega)]; omega
theorem dg2m (i : Nat) : (2 : Int) * (i : Int) = ((2 * i : Nat) : Int) := by omega
theorem dgab (a b : Nat) : (a : Int) + (b : Int) = ((a + b : Nat) : Int) := by omega
theorem range_succ_map {α : Type} (f : Nat → α) (n : Nat) : (List.range (n + 1)).map f = (List.range n).map f ++ [f n] := by rw [List.range_succ, List.map_append]; rfl
variable [Glob]
class LibB [Glob] : Prop where
  at_ : ∀ (xs : List UInt8) (rows : List (List UInt8)) (x : UInt8) (N : Nat), xs.length = 3 → rows.length = 3 → N < 2^30 → (∀ r ∈ rows, r.length = N) →
    APure Tryz.prog 64 [.sl 1 (encB xs), .sl 1 (encR rows), .int .u8 x.toNat] (.sl 1 (encB (atS xs rows x)))
set_option maxHeartbeats 1000000

theorem rrowsN_c (n : Nat) (h : n < 2^40) : APure Tryz.prog 94 [.int .i64 n] (.int .i64 (rowsN n)) := by
  refine apure_fin mixed [] 400 Tryz.func94 Tryz.ntmps94 Tryz.results94 rfl rfl (by simp) rfl ?_
  have e0 : ¬ (n : Int) < 0 := by omega
  have e1 : (n : Int) - ((n % 3 : Nat) : Int) = ((n - n % 3 : Nat) : Int) := by omega
  have e2 : ((n % 3 : Nat) : Int) + 2 = ((n % 3 + 2 : Nat) : Int) := by omega
  simp (disch := first | omega | (simp only [ZL] <;> omega)) only [Z, Op.callOf, bslE, nilE, mslE, fadE, AV.cells, AV.isBot, AV.one, AV.flat, flatL, ids1, ids2, idsX, AV.lt, ltL, AObj.lt, finE, sevalprocAttr, e0, rem3, e1, quo3, e2, dgab]
  refine sub_eq (congrArg _ ?_)
  unfold rowsN; omega
theorem rowsN_c (n : Nat) (h : n < 2^40) : APure Tryz.prog 63 [.int .i64 n] (.int .i64 (rowsN n)) := by
  refine apure_fin mixed [] 400 Tryz.func63 Tryz.ntmps63 Tryz.results63 rfl rfl (by simp) rfl ?_
  have e0 : ¬ (n : Int) < 0 := by omega
  by_cases c : (1 : Int) < ((n % 3 : Nat) : Int)
  · have e2 : ((n / 3 : Nat) : Int) + 1 = ((n / 3 + 1 : Nat) : Int) := by omega
    simp (disch := first | omega | (simp only [ZL] <;> omega)) only [Z, Op.callOf, bslE, nilE, mslE, fadE, AV.cells, AV.isBot, AV.one, AV.flat, flatL, ids1, ids2, idsX, AV.lt, ltL, AObj.lt, finE, sevalprocAttr, e0, rem3, quo3, mm2, c, e2]
    refine sub_eq (congrArg _ ?_)
    unfold rowsN; omega
  · simp (disch := first | omega | (simp only [ZL] <;> omega)) only [Z, Op.callOf, bslE, nilE, mslE, fadE, AV.cells, AV.isBot, AV.one, AV.flat, flatL, ids1, ids2, idsX, AV.lt, ltL, AObj.lt, finE, sevalprocAttr, e0, rem3, quo3, mm2, c, dgab]
    refine sub_eq (congrArg _ ?_)
    unfold rowsN; omega
theorem rat7_c (s : List UInt8) (i : Nat) (h : s.length < 2^40) : APure Tryz.prog 122 [.str s, .int .i64 i] (.int .u8 (s.getD i 0).toNat) := by
  refine apure_fin mixed [] 400 Tryz.func122 Tryz.ntmps122 Tryz.results122 rfl rfl (by simp) rfl ?_
  by_cases c : (i : Int) < s.length
  · simp (disch := first | omega | (simp only [ZL] <;> omega)) only [Z, Op.callOf, bslE, nilE, mslE, fadE, AV.cells, AV.isBot, AV.one, AV.flat, flatL, ids1, ids2, idsX, AV.lt, ltL, AObj.lt, finE, sevalprocAttr, c]
    repeat' first | exact Sub.rfl' _ | exact sub_nils _ | exact SubL.nil | refine sub_tup ?_ | refine sub_agg ?_ | refine SubL.cons ?_ ?_
  · simp (disch := first | omega | (simp only [ZL] <;> omega)) only [Z, Op.callOf, bslE, nilE, mslE, fadE, AV.cells, AV.isBot, AV.one, AV.flat, flatL, ids1, ids2, idsX, AV.lt, ltL, AObj.lt, finE, sevalprocAttr, c]
    have : s.getD i 0 = 0 := by simp [List.getD, List.getElem?_eq_none (show s.length ≤ i by omega)]
    rw [this]
    exact Sub.rfl' _
theorem rcut_c (data : List UInt8) (h : data.length < 2^30) : APure Tryz.prog 89 [.str data] (.sl 2 (encP (cutS data))) := by
  refine apure_fin mixed [] 400 Tryz.func89 Tryz.ntmps89 Tryz.results89 rfl rfl (by simp) rfl ?_
  simp (disch := first | omega | (simp only [ZL] <;> omega)) only [Z, Op.callOf, bslE, nilE, mslE, fadE, AV.cells, AV.isBot, AV.one, AV.flat, flatL, ids1, ids2, idsX, AV.lt, ltL, AObj.lt, finE, sevalprocAttr]
  refine callL_pure (rrowsN_c _ (by omega)) (by simp [ltL, AV.lt]) rfl ?_
  obtain ⟨n, hn⟩ : ∃ n, rowsN data.length = n := ⟨_, rfl⟩
  have hn2 : n < 2^30 := by rw [← hn]; unfold rowsN; omega
  rw [hn]
  simp (disch := first | omega | (simp only [ZL] <;> omega)) only [Z, Op.callOf, bslE, nilE, mslE, fadE, AV.cells, AV.isBot, AV.one, AV.flat, flatL, ids1, ids2, idsX, AV.lt, ltL, AObj.lt, finE, sevalprocAttr]
  refine loopF mixed (fun p : Nat => mk [(0, .str data), (3, .int .i64 n), (4, .row 4 p 0 p), (5, .int .i64 ((p + 1 : Nat) : Int))] [(4, .row 2 p (encP ((List.range p).map fun k => (k + 1, partB data (k + 1)))))] 5)
    (fun p => p ≤ 5) (fun p => 5 - p) 0 400 rfl rfl (by omega) ?_ ?_
  · refine less_mk (by simp) (by simp) ?_ ?_ <;> simp (disch := first | omega | (simp only [ZL] <;> omega)) only [Z, Op.callOf, bslE, nilE, mslE, fadE, AV.cells, AV.isBot, AV.one, AV.flat, flatL, ids1, ids2, idsX, AV.lt, ltL, AObj.lt, finE, sevalprocAttr, encP, List.range_zero, List.map_nil]
  intro p hp
  simp (disch := first | omega | (simp only [ZL] <;> omega)) only [Z, Op.callOf, bslE, nilE, mslE, fadE, AV.cells, AV.isBot, AV.one, AV.flat, flatL, ids1, ids2, idsX, AV.lt, ltL, AObj.lt, finE, sevalprocAttr]
  refine condG_p (fun e => ?_) (fun e => ?_)
  · have hp5 : p < 5 := by omega
    simp (disch := first | omega | (simp only [ZL] <;> omega)) only [Z, Op.callOf, bslE, nilE, mslE, fadE, AV.cells, AV.isBot, AV.one, AV.flat, flatL, ids1, ids2, idsX, AV.lt, ltL, AObj.lt, finE, sevalprocAttr]
    let f : Nat → UInt8 := fun i => (fldAt [1, 2, 3] [data.getD i 0, data.getD (n + i) 0, data.getD (2 * n + i) 0] (UInt8.ofNat (p + 1))).1
    refine loopF mixed (fun i : Nat => mk [(0, .str data), (3, .int .i64 n), (4, .row 4 p 0 p), (5, .int .i64 ((p + 1 : Nat) : Int)), (6, .row 7 i 0 i), (7, .int .i64 i)]
        [(4, .row 2 p (encP ((List.range p).map fun k => (k + 1, partB data (k + 1))))), (7, .row 1 i (encB ((List.range i).map f)))] 8)
      (fun i => i ≤ n) (fun i => n - i) 0 400 rfl rfl (by omega) ?_ ?_
    · refine less_mk (by simp) (by simp) ?_ ?_ <;> simp (disch := first | omega | (simp only [ZL] <;> omega)) only [Z, Op.callOf, bslE, nilE, mslE, fadE, AV.cells, AV.isBot, AV.one, AV.flat, flatL, ids1, ids2, idsX, AV.lt, ltL, AObj.lt, finE, sevalprocAttr, List.range_zero, List.map_nil, encB_nil]
    intro i hi
    simp (disch := first | omega | (simp only [ZL] <;> omega)) only [Z, Op.callOf, bslE, nilE, mslE, fadE, AV.cells, AV.isBot, AV.one, AV.flat, flatL, ids1, ids2, idsX, AV.lt, ltL, AObj.lt, finE, sevalprocAttr]
    refine condG_p (fun e2 => ?_) (fun e2 => ?_)
    · have hi' : i < n := by omega
      simp (disch := first | omega | (simp only [ZL] <;> omega)) only [Z, Op.callOf, bslE, nilE, mslE, fadE, AV.cells, AV.isBot, AV.one, AV.flat, flatL, ids1, ids2, idsX, AV.lt, ltL, AObj.lt, finE, sevalprocAttr]
      refine callL_pure (rat7_c data i (by omega)) (by simp [ltL, AV.lt]) rfl ?_
      simp (disch := first | omega | (simp only [ZL] <;> omega)) only [Z, Op.callOf, bslE, nilE, mslE, fadE, AV.cells, AV.isBot, AV.one, AV.flat, flatL, ids1, ids2, idsX, AV.lt, ltL, AObj.lt, finE, sevalprocAttr, dgab]
      refine callL_pure (rat7_c data (n + i) (by omega)) (by simp [ltL, AV.lt]) rfl ?_
      simp (disch := first | omega | (simp only [ZL] <;> omega)) only [Z, Op.callOf, bslE, nilE, mslE, fadE, AV.cells, AV.isBot, AV.one, AV.flat, flatL, ids1, ids2, idsX, AV.lt, ltL, AObj.lt, finE, sevalprocAttr, dg2m, dgab]
      refine callL_pure (rat7_c data (2 * n + i) (by omega)) (by simp [ltL, AV.lt]) rfl ?_
      simp (disch := first | omega | (simp only [ZL] <;> omega)) only [Z, Op.callOf, bslE, nilE, mslE, fadE, AV.cells, AV.isBot, AV.one, AV.flat, flatL, ids1, ids2, idsX, AV.lt, ltL, AObj.lt, finE, sevalprocAttr, w8]
      refine callL_fz (rat_c [1, 2, 3] [data.getD i 0, data.getD (n + i) 0, data.getD (2 * n + i) 0] (UInt8.ofNat (p + 1)) (by decide) (by simp)) (by simp [ltL, AV.lt]) rfl ?_
      simp (disch := first | omega | (simp only [ZL] <;> omega)) only [Z, Op.callOf, bslE, nilE, mslE, fadE, AV.cells, AV.isBot, AV.one, AV.flat, flatL, ids1, ids2, idsX, AV.lt, ltL, AObj.lt, finE, sevalprocAttr, encB_len, List.length_map, List.length_range]
      refine ⟨SubL.refl _, ?_⟩
      refine finR_of (i + 1) (by omega) (by omega) ?_
      have hf : encB ((List.range i).map f) ++ [[.int .u8 ((f i).toNat : Int)]] = encB ((List.range (i + 1)).map f) := by rw [range_succ_map, encB_app]; rfl
      refine less_mk (by simp) (by simp) ?_ ?_ <;> simp (disch := first | omega | (simp only [ZL] <;> omega)) only [Z, Op.callOf, bslE, nilE, mslE, fadE, AV.cells, AV.isBot, AV.one, AV.flat, flatL, ids1, ids2, idsX, AV.lt, ltL, AObj.lt, finE, sevalprocAttr, i64_add1, ← hf]
      exact rfl
    · have : i = n := by omega
      subst this
      have hpb : (List.range i).map f = partB data (p + 1) := by simp only [partB, hn]; rfl
      have htk : (encB ((List.range i).map f)).take i = encB ((List.range i).map f) := List.take_of_length_le (by simp [encB_len])
      simp (disch := first | omega | (simp only [ZL] <;> omega)) only [Z, Op.callOf, bslE, nilE, mslE, fadE, AV.cells, AV.isBot, AV.one, AV.flat, flatL, ids1, ids2, idsX, AV.lt, ltL, AObj.lt, finE, sevalprocAttr, encB_len, List.length_map, List.length_range, htk, encP_len]
      rw [hpb]
      refine finR_of (p + 1) (by omega) (by omega) ?_
      have hf : encP ((List.range p).map fun k => (k + 1, partB data (k + 1))) ++ [[.int .i64 ((p + 1 : Nat) : Int), .str (partB data (p + 1))]] = encP ((List.range (p + 1)).map fun k => (k + 1, partB data (k + 1))) := by
        rw [range_succ_map]; simp [encP]
      refine less_mk (by simp) (by simp) ?_ ?_ <;> simp (disch := first | omega | (simp only [ZL] <;> omega)) only [Z, Op.callOf, bslE, nilE, mslE, fadE, AV.cells, AV.isBot, AV.one, AV.flat, flatL, ids1, ids2, idsX, AV.lt, ltL, AObj.lt, finE, sevalprocAttr, i64_add1, hf]
  · have : p = 5 := by omega
    subst this
    have htk : (encP ((List.range 5).map fun k => (k + 1, partB data (k + 1)))).take 5 = encP ((List.range 5).map fun k => (k + 1, partB data (k + 1))) := List.take_of_length_le (by simp [encP])
    simp (disch := first | omega | (simp only [ZL] <;> omega)) only [Z, Op.callOf, bslE, nilE, mslE, fadE, AV.cells, AV.isBot, AV.one, AV.flat, flatL, ids1, ids2, idsX, AV.lt, ltL, AObj.lt, finE, sevalprocAttr, encP_len, List.length_map, List.length_range, htk]
    exact Sub.rfl' _
end Go.Ab
namespace Go.Ab
open Go Go.Proofs
def PartsOK (l : List (Nat × List UInt8)) (n : Nat) : Prop := l.length = 3 ∧ (∀ k (h : k < l.length), 1 ≤ l[k].1 ∧ l[k].1 ≤ 5 ∧ l[k].2.length = n) ∧ ∀ j k (hj : j < l.length) (hk : k < l.length), j < k → l[j].1 ≠ l[k].1
theorem encP_at (l : List (Nat × List UInt8)) (k : Nat) (h : k < l.length) : (encP l).getD k [] = [.int .i64 (l[k].1 : Int), .str l[k].2] := by simp [encP, List.getD, h]
def accJ (i1 i2 i3 : Nat) (d1 d2 d3 : List UInt8) (n r : Nat) : List UInt8 := ((List.range r).map fun k => rowJ i1 i2 i3 d1 d2 d3 n (k + 1)).flatten
theorem accJ_succ (i1 i2 i3 : Nat) (d1 d2 d3 : List UInt8) (n r : Nat) : accJ i1 i2 i3 d1 d2 d3 n (r + 1) = accJ i1 i2 i3 d1 d2 d3 n r ++ rowJ i1 i2 i3 d1 d2 d3 n (r + 1) := by simp [accJ, List.range_succ]
theorem accJ_len (i1 i2 i3 : Nat) (d1 d2 d3 : List UInt8) (n r : Nat) : (accJ i1 i2 i3 d1 d2 d3 n r).length = r * n := by
  induction r with
  | zero => simp [accJ]
  | succ r ih => rw [accJ_succ, List.length_append, ih, rowJ_len, Nat.succ_mul]
theorem nat_ieq2 (a b : Nat) : ((a : Int) = (b : Int)) = (a = b) := propext (by omega)
variable [Glob]
set_option maxHeartbeats 1000000

theorem has_c (l : List (Nat × List UInt8)) (i : Nat) (h : l.length < 1000) : APure Tryz.prog 124 [.sl 2 (encP l), .int .i64 i] (.bool (l.any fun p => decide (p.1 = i))) := by
  refine apure_fin mixed [] 400 Tryz.func124 Tryz.ntmps124 Tryz.results124 rfl rfl (by simp) rfl ?_
  simp (disch := first | omega | (simp only [ZL] <;> omega)) only [Z, Op.callOf, bslE, nilE, mslE, fadE, AV.cells, AV.isBot, AV.one, AV.flat, flatL, ids1, ids2, idsX, AV.lt, ltL, AObj.lt, finE, sevalprocAttr]
  refine loopF mixed (fun k : Nat => mk [(0, .sl 2 (encP l)), (1, .int .i64 i), (5, .int .i64 k)] [] 0) (fun k => k ≤ l.length ∧ (l.take k).any (fun p => decide (p.1 = i)) = false) (fun k => l.length - k) 0 400 rfl rfl ⟨by omega, by simp⟩ ?_ ?_
  · refine less_mk (by simp) (by simp) ?_ ?_ <;> simp (disch := first | omega | (simp only [ZL] <;> omega)) only [Z, Op.callOf, bslE, nilE, mslE, fadE, AV.cells, AV.isBot, AV.one, AV.flat, flatL, ids1, ids2, idsX, AV.lt, ltL, AObj.lt, finE, sevalprocAttr]
  rintro k ⟨hk, hJ⟩
  simp (disch := first | omega | (simp only [ZL] <;> omega)) only [Z, Op.callOf, bslE, nilE, mslE, fadE, AV.cells, AV.isBot, AV.one, AV.flat, flatL, ids1, ids2, idsX, AV.lt, ltL, AObj.lt, finE, sevalprocAttr, encP_len]
  refine condG_p (fun e => ?_) (fun e => ?_)
  · have hk' : k < l.length := by omega
    by_cases c : l[k].1 = i
    · have ct : (l[k].1 = i) = True := eq_true c
      simp (disch := first | omega | (simp only [ZL] <;> omega)) only [Z, Op.callOf, bslE, nilE, mslE, fadE, AV.cells, AV.isBot, AV.one, AV.flat, flatL, ids1, ids2, idsX, AV.lt, ltL, AObj.lt, finE, sevalprocAttr, encP_len, encP_at, nat_ieq2, ct]
      have : l.any (fun p => decide (p.1 = i)) = true := List.any_eq_true.2 ⟨l[k], List.getElem_mem _, by simpa using c⟩
      rw [this]
      repeat' first | exact Sub.rfl' _ | exact sub_nils _ | exact SubL.nil | refine sub_tup ?_ | refine sub_agg ?_ | refine SubL.cons ?_ ?_
    · simp (disch := first | omega | (simp only [ZL] <;> omega)) only [Z, Op.callOf, bslE, nilE, mslE, fadE, AV.cells, AV.isBot, AV.one, AV.flat, flatL, ids1, ids2, idsX, AV.lt, ltL, AObj.lt, finE, sevalprocAttr, encP_len, encP_at, nat_ieq2, c]
      refine finR_of (k + 1) ⟨by omega, ?_⟩ (by omega) ?_
      · have et : l.take (k + 1) = l.take k ++ [l[k]] := by simp
        rw [et, List.any_append, hJ]
        show (false || (decide (l[k].1 = i) || false)) = false
        simp [c]
      · refine less_mk (by simp) (by simp) ?_ ?_ <;> simp (disch := first | omega | (simp only [ZL] <;> omega)) only [Z, Op.callOf, bslE, nilE, mslE, fadE, AV.cells, AV.isBot, AV.one, AV.flat, flatL, ids1, ids2, idsX, AV.lt, ltL, AObj.lt, finE, sevalprocAttr, i64_add1]
  · have : k = l.length := by omega
    subst this
    rw [List.take_length] at hJ
    simp (disch := first | omega | (simp only [ZL] <;> omega)) only [Z, Op.callOf, bslE, nilE, mslE, fadE, AV.cells, AV.isBot, AV.one, AV.flat, flatL, ids1, ids2, idsX, AV.lt, ltL, AObj.lt, finE, sevalprocAttr]
    rw [hJ]
    repeat' first | exact Sub.rfl' _ | exact sub_nils _ | exact SubL.nil | refine sub_tup ?_ | refine sub_agg ?_ | refine SubL.cons ?_ ?_
theorem three_c (l : List (Nat × List UInt8)) (n : Nat) (hl : PartsOK l n) (hn : n < 2^40) : APure Tryz.prog 95 [.sl 2 (encP l), .int .i64 n] (.tup [.sl 2 (encP l), .int .i64 0]) := by
  obtain ⟨h3, hok, hne⟩ := hl
  refine apure_fin mixed [] 400 Tryz.func95 Tryz.ntmps95 Tryz.results95 rfl rfl (by simp) rfl ?_
  simp (disch := first | omega | (simp only [ZL] <;> omega)) only [Z, Op.callOf, bslE, nilE, mslE, fadE, AV.cells, AV.isBot, AV.one, AV.flat, flatL, ids1, ids2, idsX, AV.lt, ltL, AObj.lt, finE, sevalprocAttr]
  refine loopF mixed (fun k : Nat => mk [(0, .sl 2 (encP l)), (1, .int .i64 n), (6, .row 2 k 0 k), (7, .int .i64 k)] [(2, .row 2 k (encP (l.take k)))] 3) (fun k => k ≤ 3) (fun k => 3 - k) 0 400 rfl rfl (by omega) ?_ ?_
  · refine less_mk (by simp) (by simp) ?_ ?_ <;> simp (disch := first | omega | (simp only [ZL] <;> omega)) only [Z, Op.callOf, bslE, nilE, mslE, fadE, AV.cells, AV.isBot, AV.one, AV.flat, flatL, ids1, ids2, idsX, AV.lt, ltL, AObj.lt, finE, sevalprocAttr, List.take_zero, encP, List.map_nil]
  intro k hk
  have hl3 : (encP l).length = 3 := by rw [encP_len, h3]
  by_cases e : k < 3
  · have ek : (k : Int) < 3 := by omega
    have hk' : k < l.length := by omega
    obtain ⟨a1, a2, a3⟩ := hok k hk'
    have b1 : ¬ (l[k].1 : Int) < 1 := by omega
    have b2 : ¬ (5 : Int) < (l[k].1 : Int) := by omega
    have hex : ((l.take k).any fun p => decide (p.1 = l[k].1)) = false := by
      rw [List.any_eq_false]
      intro p hp
      obtain ⟨j, hj, rfl⟩ := List.mem_iff_getElem.1 hp
      simp only [List.length_take] at hj
      simp only [List.getElem_take]
      simpa using hne j k (by omega) hk' (by omega)
    have htk : (encP (l.take k)).take k = encP (l.take k) := List.take_of_length_le (by simp [encP_len]; omega)
    have hlk : (encP (l.take k)).length = k := by simp [encP_len]; omega
    simp (disch := first | omega | (simp only [ZL] <;> omega)) only [Z, Op.callOf, bslE, nilE, mslE, fadE, AV.cells, AV.isBot, AV.one, AV.flat, flatL, ids1, ids2, idsX, AV.lt, ltL, AObj.lt, finE, sevalprocAttr, hl3, ek, encP_len, h3, encP_at, b1, b2]
    refine callL_ro (has_c (l.take k) l[k].1 (by simp; omega)) (scal_bool _) (by simp [ltL, AV.lt]) rfl ?_ ?_
    · simp (disch := first | omega | (simp only [ZL] <;> omega)) only [Z, Op.callOf, bslE, nilE, mslE, fadE, AV.cells, AV.isBot, AV.one, AV.flat, flatL, ids1, ids2, idsX, AV.lt, ltL, AObj.lt, finE, sevalprocAttr, frzQ_some, hlk, htk]
    simp (disch := first | omega | (simp only [ZL] <;> omega)) only [Z, Op.callOf, bslE, nilE, mslE, fadE, AV.cells, AV.isBot, AV.one, AV.flat, flatL, ids1, ids2, idsX, AV.lt, ltL, AObj.lt, finE, sevalprocAttr, hex, hl3, encP_len, h3, encP_at, a3, hlk]
    refine finR_of (k + 1) (by omega) (by omega) ?_
    have hap : encP (l.take k) ++ [[.int .i64 (l[k].1 : Int), .str l[k].2]] = encP (l.take (k + 1)) := by
      have et : l.take (k + 1) = l.take k ++ [l[k]] := by simp
      rw [et]; simp only [encP, List.map_append]; rfl
    refine less_mk (by simp) (by simp) ?_ ?_ <;> simp (disch := first | omega | (simp only [ZL] <;> omega)) only [Z, Op.callOf, bslE, nilE, mslE, fadE, AV.cells, AV.isBot, AV.one, AV.flat, flatL, ids1, ids2, idsX, AV.lt, ltL, AObj.lt, finE, sevalprocAttr, i64_add1, hap]
  · have : k = 3 := by omega
    subst this
    have ht : l.take 3 = l := List.take_of_length_le (by omega)
    have htk : (encP l).take 3 = encP l := List.take_of_length_le (by omega)
    simp (disch := first | omega | (simp only [ZL] <;> omega)) only [Z, Op.callOf, bslE, nilE, mslE, fadE, AV.cells, AV.isBot, AV.one, AV.flat, flatL, ids1, ids2, idsX, AV.lt, ltL, AObj.lt, finE, sevalprocAttr, hl3, encP_len, h3, ht, htk]
    repeat' first | exact Sub.rfl' _ | exact sub_nils _ | exact SubL.nil | refine sub_tup ?_ | refine sub_agg ?_ | refine SubL.cons ?_ ?_
theorem rjoin_c (i1 i2 i3 : Nat) (d1 d2 d3 : List UInt8) (size : Nat) (hs : size ≤ 65536) (hl : PartsOK [(i1, d1), (i2, d2), (i3, d3)] (rowsN size)) :
    APure Tryz.prog 57 [.sl 2 (encP [(i1, d1), (i2, d2), (i3, d3)]), .int .i64 size] (.tup [.str (joinS i1 i2 i3 d1 d2 d3 size), .int .i64 0]) := by
  refine apure_fin mixed [47, 78] 400 Tryz.func57 Tryz.ntmps57 Tryz.results57 rfl rfl (by simp) rfl ?_
  have e0 : ¬ (size : Int) < 0 := by omega
  have e1 : ¬ (65536 : Int) < (size : Int) := by omega
  have hn40 : rowsN size < 2^30 := by unfold rowsN; omega
  obtain ⟨_, hok, _⟩ := id hl
  have o1 := hok 0 (by simp)
  have o2 := hok 1 (by simp)
  have o3 := hok 2 (by simp)
  simp only [List.getElem_cons_zero, List.getElem_cons_succ] at o1 o2 o3
  simp (disch := first | omega | (simp only [ZL] <;> omega)) only [Z, Op.callOf, bslE, nilE, mslE, fadE, AV.cells, AV.isBot, AV.one, AV.flat, flatL, ids1, ids2, idsX, AV.lt, ltL, AObj.lt, finE, sevalprocAttr, e0, e1]
  refine callL_pure (rrowsN_c size (by omega)) (by simp [ltL, AV.lt]) rfl ?_
  obtain ⟨n, hn⟩ : ∃ n, rowsN size = n := ⟨_, rfl⟩
  rw [hn] at hl o1 o2 o3 hn40 ⊢
  simp (disch := first | omega | (simp only [ZL] <;> omega)) only [Z, Op.callOf, bslE, nilE, mslE, fadE, AV.cells, AV.isBot, AV.one, AV.flat, flatL, ids1, ids2, idsX, AV.lt, ltL, AObj.lt, finE, sevalprocAttr]
  refine callL_pure (three_c _ n hl (by omega)) (by simp [ltL, AV.lt]) rfl ?_
  simp (disch := first | omega | (simp only [ZL] <;> omega)) only [Z, Op.callOf, bslE, nilE, mslE, fadE, AV.cells, AV.isBot, AV.one, AV.flat, flatL, ids1, ids2, idsX, AV.lt, ltL, AObj.lt, finE, sevalprocAttr, encP, List.map_cons, List.map_nil, w8]
  refine okK_of (by kernel_rfl) ?_
  simp (disch := first | omega | (simp only [ZL] <;> omega)) only [Z, Op.callOf, bslE, nilE, mslE, fadE, AV.cells, AV.isBot, AV.one, AV.flat, flatL, ids1, ids2, idsX, AV.lt, ltL, AObj.lt, finE, sevalprocAttr]
  let t7 : AV := .sl 2 [[.int .i64 i1, .str d1], [.int .i64 i2, .str d2], [.int .i64 i3, .str d3]]
  let t9 : AV := .sl 1 (encB [UInt8.ofNat i1, UInt8.ofNat i2, UInt8.ofNat i3])
  refine loopF mixed (fun r : Nat => mk [(1, .int .i64 size), (6, .int .i64 n), (7, .sl 2 [[.int .i64 i1, .str d1], [.int .i64 i2, .str d2], [.int .i64 i3, .str d3]]), (9, .sl 1 (encB [UInt8.ofNat i1, UInt8.ofNat i2, UInt8.ofNat i3])), (10, .row 36 (accJ i1 i2 i3 d1 d2 d3 n r).length 0 (accJ i1 i2 i3 d1 d2 d3 n r).length), (11, .int .i64 ((r + 1 : Nat) : Int))] [(36, .row 1 (accJ i1 i2 i3 d1 d2 d3 n r).length (encB (accJ i1 i2 i3 d1 d2 d3 n r)))] 39)
    (fun r => r ≤ 3) (fun r => 3 - r) 0 400 rfl rfl (by omega) ?_ ?_
  · refine less_mk (by simp) (by simp) ?_ ?_ <;> simp (disch := first | omega | (simp only [ZL] <;> omega)) only [Z, Op.callOf, bslE, nilE, mslE, fadE, AV.cells, AV.isBot, AV.one, AV.flat, flatL, ids1, ids2, idsX, AV.lt, ltL, AObj.lt, finE, sevalprocAttr, accJ, List.range_zero, List.map_nil, encB_nil, List.length_nil]
    exact rfl
  intro r hr
  have hlen : (accJ i1 i2 i3 d1 d2 d3 n r).length ≤ 3 * n := by rw [accJ_len]; exact Nat.mul_le_mul_right n hr
  have hsucc := accJ_succ i1 i2 i3 d1 d2 d3 n r
  have hlt := accJ_len i1 i2 i3 d1 d2 d3 n r
  generalize hac : accJ i1 i2 i3 d1 d2 d3 n r = acc at *
  simp (disch := first | omega | (simp only [ZL] <;> omega)) only [Z, Op.callOf, bslE, nilE, mslE, fadE, AV.cells, AV.isBot, AV.one, AV.flat, flatL, ids1, ids2, idsX, AV.lt, ltL, AObj.lt, finE, sevalprocAttr]
  refine condG_p (fun e => ?_) (fun e => ?_)
  · have hr3 : r < 3 := by omega
    simp (disch := first | omega | (simp only [ZL] <;> omega)) only [Z, Op.callOf, bslE, nilE, mslE, fadE, AV.cells, AV.isBot, AV.one, AV.flat, flatL, ids1, ids2, idsX, AV.lt, ltL, AObj.lt, finE, sevalprocAttr]
    let f : Nat → UInt8 := fun i => (fldAt [UInt8.ofNat i1, UInt8.ofNat i2, UInt8.ofNat i3] [d1.getD i 0, d2.getD i 0, d3.getD i 0] (UInt8.ofNat (r + 1))).1
    refine loopF mixed (fun i : Nat => mk [(1, .int .i64 size), (6, .int .i64 n), (7, .sl 2 [[.int .i64 i1, .str d1], [.int .i64 i2, .str d2], [.int .i64 i3, .str d3]]), (9, .sl 1 (encB [UInt8.ofNat i1, UInt8.ofNat i2, UInt8.ofNat i3])), (10, .row 36 (acc.length + i) 0 (acc.length + i)), (11, .int .i64 ((r + 1 : Nat) : Int)), (12, .int .i64 i)] [(36, .row 1 (acc.length + i) (encB (acc ++ (List.range i).map f)))] 39)
      (fun i => i ≤ n) (fun i => n - i) 0 400 rfl rfl (by omega) ?_ ?_
    · refine less_mk (by simp) (by simp) ?_ ?_ <;> simp (disch := first | omega | (simp only [ZL] <;> omega)) only [Z, Op.callOf, bslE, nilE, mslE, fadE, AV.cells, AV.isBot, AV.one, AV.flat, flatL, ids1, ids2, idsX, AV.lt, ltL, AObj.lt, finE, sevalprocAttr, List.range_zero, List.map_nil, List.append_nil, Nat.add_zero]
    intro i hi
    simp (disch := first | omega | (simp only [ZL] <;> omega)) only [Z, Op.callOf, bslE, nilE, mslE, fadE, AV.cells, AV.isBot, AV.one, AV.flat, flatL, ids1, ids2, idsX, AV.lt, ltL, AObj.lt, finE, sevalprocAttr]
    refine condG_p (fun e2 => ?_) (fun e2 => ?_)
    · have hi' : i < n := by omega
      simp (disch := first | omega | (simp only [ZL] <;> omega)) only [Z, Op.callOf, bslE, nilE, mslE, fadE, AV.cells, AV.isBot, AV.one, AV.flat, flatL, ids1, ids2, idsX, AV.lt, ltL, AObj.lt, finE, sevalprocAttr, o1.2.2, o2.2.2, o3.2.2, w8]
      refine callD_pure (rat_c [UInt8.ofNat i1, UInt8.ofNat i2, UInt8.ofNat i3] [d1.getD i 0, d2.getD i 0, d3.getD i 0] (UInt8.ofNat (r + 1)) (by simp) (by simp)) (by simp [ltL, AV.lt]) ?_
      simp (disch := first | omega | (simp only [ZL] <;> omega)) only [Z, Op.callOf, bslE, nilE, mslE, fadE, AV.cells, AV.isBot, AV.one, AV.flat, flatL, ids1, ids2, idsX, AV.lt, ltL, AObj.lt, finE, sevalprocAttr]
      refine okK_of (by kernel_rfl) ?_
      simp (disch := first | omega | (simp only [ZL] <;> omega)) only [Z, Op.callOf, bslE, nilE, mslE, fadE, AV.cells, AV.isBot, AV.one, AV.flat, flatL, ids1, ids2, idsX, AV.lt, ltL, AObj.lt, finE, sevalprocAttr, encB_len, List.length_append, List.length_map, List.length_range]
      refine finR_of (i + 1) (by omega) (by omega) ?_
      have hf : encB (acc ++ (List.range i).map f) ++ [[.int .u8 ((f i).toNat : Int)]] = encB (acc ++ (List.range (i + 1)).map f) := by rw [range_succ_map, ← List.append_assoc, encB_app (acc ++ _)]; rfl
      refine less_mk (by simp) (by simp) ?_ ?_ <;> simp (disch := first | omega | (simp only [ZL] <;> omega)) only [Z, Op.callOf, bslE, nilE, mslE, fadE, AV.cells, AV.isBot, AV.one, AV.flat, flatL, ids1, ids2, idsX, AV.lt, ltL, AObj.lt, finE, sevalprocAttr, i64_add1, ← hf, ← Nat.add_assoc]
      exact rfl
    · have : i = n := by omega
      subst this
      have hpb : (List.range i).map f = rowJ i1 i2 i3 d1 d2 d3 i (r + 1) := rfl
      simp (disch := first | omega | (simp only [ZL] <;> omega)) only [Z, Op.callOf, bslE, nilE, mslE, fadE, AV.cells, AV.isBot, AV.one, AV.flat, flatL, ids1, ids2, idsX, AV.lt, ltL, AObj.lt, finE, sevalprocAttr]
      refine finR_of (r + 1) (by omega) (by omega) ?_
      rw [hpb, ← hsucc]
      have hl2 : acc.length + i = (accJ i1 i2 i3 d1 d2 d3 i (r + 1)).length := by rw [hsucc, List.length_append, rowJ_len]
      rw [hl2]
      refine less_mk (by simp) (by simp) ?_ ?_ <;> simp (disch := first | omega | (simp only [ZL] <;> omega)) only [Z, Op.callOf, bslE, nilE, mslE, fadE, AV.cells, AV.isBot, AV.one, AV.flat, flatL, ids1, ids2, idsX, AV.lt, ltL, AObj.lt, finE, sevalprocAttr, i64_add1]
  · have : r = 3 := by omega
    subst this
    have hsz : size ≤ acc.length := by rw [hlt, ← hn]; unfold rowsN; omega
    have hj : acc = rowJ i1 i2 i3 d1 d2 d3 n 1 ++ rowJ i1 i2 i3 d1 d2 d3 n 2 ++ rowJ i1 i2 i3 d1 d2 d3 n 3 := by rw [← hac]; simp [accJ, List.range_succ]
    simp (disch := first | omega | (simp only [ZL] <;> omega)) only [Z, Op.callOf, bslE, nilE, mslE, fadE, AV.cells, AV.isBot, AV.one, AV.flat, flatL, ids1, ids2, idsX, AV.lt, ltL, AObj.lt, finE, sevalprocAttr, encB_len, Nat.sub_zero, ← encB_take, bytesOf_encB]
    unfold joinS
    rw [hn, ← hj]
    exact Sub.rfl' _
end Go.Ab
namespace Go.Ab
open Go Go.Proofs
def padB (data : List UInt8) : List UInt8 := data ++ List.replicate (3 * rowsN data.length - data.length) 0
def rowB (data : List UInt8) (k : Nat) : List UInt8 := ((padB data).drop (k * rowsN data.length)).take (rowsN data.length)
def rowsB (data : List UInt8) : List (List UInt8) := (List.range 3).map (rowB data)
theorem padB_len (data : List UInt8) : (padB data).length = 3 * rowsN data.length := by simp only [padB, List.length_append, List.length_replicate, rowsN]; omega
theorem padB_get (data : List UInt8) (i : Nat) : (padB data).getD i 0 = data.getD i 0 := by
  by_cases c : i < data.length
  · simp [padB, List.getD, List.getElem?_append_left c]
  · simp only [padB, List.getD, List.getElem?_append_right (show data.length ≤ i by omega), List.getElem?_eq_none (show data.length ≤ i by omega), List.getElem?_replicate]
    split <;> rfl
theorem rowB_len (data : List UInt8) (k : Nat) (h : k < 3) : (rowB data k).length = rowsN data.length := by
  simp only [rowB, List.length_take, List.length_drop, padB_len]
  have : (k + 1) * rowsN data.length ≤ 3 * rowsN data.length := Nat.mul_le_mul_right _ h
  rw [Nat.succ_mul] at this
  omega
theorem rowB_get (data : List UInt8) (k i : Nat) (h : i < rowsN data.length) : (rowB data k).getD i 0 = data.getD (k * rowsN data.length + i) 0 := by
  refine Eq.trans ?_ (padB_get data _)
  simp only [rowB, List.getD]
  rw [List.getElem?_take_of_lt h, List.getElem?_drop]
theorem atS_rowsB (data : List UInt8) (p : Nat) : atS [1, 2, 3] (rowsB data) (UInt8.ofNat p) = partB data p := by
  unfold atS partB
  have h0 : ((rowsB data).headD []).length = rowsN data.length := by
    show (rowB data 0).length = _
    exact rowB_len _ _ (by omega)
  rw [h0]
  apply List.map_congr_left
  intro i hi
  have hi := List.mem_range.1 hi
  have : (rowsB data).map (fun r => r.getD i 0) = [data.getD i 0, data.getD (rowsN data.length + i) 0, data.getD (2 * rowsN data.length + i) 0] := by
    show [(rowB data 0).getD i 0, (rowB data 1).getD i 0, (rowB data 2).getD i 0] = _
    rw [rowB_get _ _ _ hi, rowB_get _ _ _ hi, rowB_get _ _ _ hi, Nat.zero_mul, Nat.zero_add, Nat.one_mul]
  rw [this]
theorem encR_range (data : List UInt8) (k : Nat) : encR ((List.range (k + 1)).map (rowB data)) = encR ((List.range k).map (rowB data)) ++ [[.sl 1 (encB (rowB data k))]] := by simp [encR, List.range_succ]
theorem encR_len (r : List (List UInt8)) : (encR r).length = r.length := by simp [encR]
theorem flB : (flatLB [AV.int .u8 0] = true) = True := eq_true rfl
theorem pmul3 (n : Nat) : (3 : Int) * (n : Int) = ((3 * n : Nat) : Int) := by omega
theorem pmulab (a b : Nat) : (a : Int) * (b : Int) = ((a * b : Nat) : Int) := by simp
variable [Glob]
set_option maxHeartbeats 1000000

theorem cut_c [LibB] (data : List UInt8) (h : data.length < 2^30) : APure Tryz.prog 37 [.str data] (.sl 2 (encP (cutS data))) := by
  refine apure_fin mixed [] 400 Tryz.func37 Tryz.ntmps37 Tryz.results37 rfl rfl (by simp) rfl ?_
  simp (disch := first | omega | (simp only [ZL] <;> omega)) only [Z, Op.callOf, bslE, nilE, mslE, fadE, AV.cells, AV.isBot, AV.one, AV.flat, flatL, ids1, ids2, idsX, AV.lt, ltL, AObj.lt, finE, sevalprocAttr]
  refine callL_pure (rowsN_c _ (by omega)) (by simp [ltL, AV.lt]) rfl ?_
  have hB0 := padB_len data
  obtain ⟨n, hn⟩ : ∃ n, rowsN data.length = n := ⟨_, rfl⟩
  have hn2 : n < 2^30 := by rw [← hn]; unfold rowsN; omega
  have hn3 : data.length ≤ 3 * n := by rw [← hn]; unfold rowsN; omega
  rw [hn] at hB0 ⊢
  simp (disch := first | omega | (simp only [ZL] <;> omega)) only [Z, Op.callOf, bslE, nilE, mslE, fadE, AV.cells, AV.isBot, AV.one, AV.flat, flatL, ids1, ids2, idsX, AV.lt, ltL, AObj.lt, finE, sevalprocAttr, pmul3, flB, and_true, encB_repl]
  refine loopG_frz 4 ?_
  simp (disch := first | omega | (simp only [ZL] <;> omega)) only [Z, Op.callOf, bslE, nilE, mslE, fadE, AV.cells, AV.isBot, AV.one, AV.flat, flatL, ids1, ids2, idsX, AV.lt, ltL, AObj.lt, finE, sevalprocAttr, frzT_some]
  have hpad : List.take (3 * n) (List.take (3 * n) (encB data) ++ List.drop (min data.length (3 * n)) (encB (List.replicate (3 * n) 0))) = encB (padB data) := by
    rw [Nat.min_eq_left hn3, ← encB_take, ← encB_drop, ← encB_app, ← encB_take, List.take_of_length_le hn3, List.drop_replicate, ← hn]
    congr 1
    show List.take _ (padB data) = _
    exact List.take_of_length_le (by rw [padB_len]; omega)
  rw [hpad]
  refine loopG_row0 1 5 rfl ?_
  simp (disch := first | omega | (simp only [ZL] <;> omega)) only [Z, Op.callOf, bslE, nilE, mslE, fadE, AV.cells, AV.isBot, AV.one, AV.flat, flatL, ids1, ids2, idsX, AV.lt, ltL, AObj.lt, finE, sevalprocAttr]
  refine loopF mixed (fun k : Nat => mk [(0, .str data), (3, .int .i64 n), (4, .sl 1 (encB (padB data))), (5, .row 13 k 0 k), (18, .int .i64 k)] [(13, .row 1 k (encR ((List.range k).map (rowB data))))] 14)
    (fun k => k ≤ 3) (fun k => 3 - k) 0 400 rfl rfl (by omega) ?_ ?_
  · refine less_mk (by simp) (by simp) ?_ ?_ <;> simp (disch := first | omega | (simp only [ZL] <;> omega)) only [Z, Op.callOf, bslE, nilE, mslE, fadE, AV.cells, AV.isBot, AV.one, AV.flat, flatL, ids1, ids2, idsX, AV.lt, ltL, AObj.lt, finE, sevalprocAttr, encR, List.range_zero, List.map_nil]
  intro k hk
  simp (disch := first | omega | (simp only [ZL] <;> omega)) only [Z, Op.callOf, bslE, nilE, mslE, fadE, AV.cells, AV.isBot, AV.one, AV.flat, flatL, ids1, ids2, idsX, AV.lt, ltL, AObj.lt, finE, sevalprocAttr]
  refine condG_p (fun e => ?_) (fun e => ?_)
  · have hk3 : k < 3 := by omega
    have hk1 : (k + 1) * n = k * n + n := Nat.succ_mul k n
    have hk2 : (k + 1) * n ≤ 3 * n := Nat.mul_le_mul_right n hk3
    have hrw : ((encB (padB data)).drop (k * n)).take n = encB (rowB data k) := by rw [← encB_drop, ← encB_take, rowB, hn]
    have hls : k * n + n - k * n = n := by omega
    simp (disch := first | omega | (simp only [ZL] <;> omega)) only [Z, Op.callOf, bslE, nilE, mslE, fadE, AV.cells, AV.isBot, AV.one, AV.flat, flatL, ids1, ids2, idsX, AV.lt, ltL, AObj.lt, finE, sevalprocAttr, pmulab, hk1, i64_add1, encB_len, hB0, hrw, hls, encR_len, List.length_range]
    refine finR_of (k + 1) (by omega) (by omega) ?_
    have hf := encR_range data k
    refine less_mk (by simp) (by simp) ?_ ?_ <;> simp (disch := first | omega | (simp only [ZL] <;> omega)) only [Z, Op.callOf, bslE, nilE, mslE, fadE, AV.cells, AV.isBot, AV.one, AV.flat, flatL, ids1, ids2, idsX, AV.lt, ltL, AObj.lt, finE, sevalprocAttr, i64_add1, hf]
    rw [List.drop_take, hls, hrw]
  · have : k = 3 := by omega
    subst this
    simp (disch := first | omega | (simp only [ZL] <;> omega)) only [Z, Op.callOf, bslE, nilE, mslE, fadE, AV.cells, AV.isBot, AV.one, AV.flat, flatL, ids1, ids2, idsX, AV.lt, ltL, AObj.lt, finE, sevalprocAttr]
    refine loopG_frz 5 ?_
    have htr : (encR ((List.range 3).map (rowB data))).take 3 = encR (rowsB data) := rfl
    simp (disch := first | omega | (simp only [ZL] <;> omega)) only [Z, Op.callOf, bslE, nilE, mslE, fadE, AV.cells, AV.isBot, AV.one, AV.flat, flatL, ids1, ids2, idsX, AV.lt, ltL, AObj.lt, finE, sevalprocAttr, frzT_some, frz2, encR_len, List.length_range, htr]
    have hr3 : (rowsB data).length = 3 := rfl
    have hrN : ∀ r ∈ rowsB data, r.length = n := by
      intro r hr
      obtain ⟨j, hj, rfl⟩ := List.mem_map.1 hr
      rw [← hn]; exact rowB_len _ _ (List.mem_range.1 hj)
    refine loopG_row0 2 7 rfl ?_
    simp (disch := first | omega | (simp only [ZL] <;> omega)) only [Z, Op.callOf, bslE, nilE, mslE, fadE, AV.cells, AV.isBot, AV.one, AV.flat, flatL, ids1, ids2, idsX, AV.lt, ltL, AObj.lt, finE, sevalprocAttr]
    refine loopF mixed (fun p : Nat => mk [(5, .sl 1 (encR (rowsB data))), (7, .row 17 p 0 p), (8, .int .i64 ((p + 1 : Nat) : Int))] [(17, .row 2 p (encP ((List.range p).map fun k => (k + 1, partB data (k + 1)))))] 18)
      (fun p => p ≤ 5) (fun p => 5 - p) 0 400 rfl rfl (by omega) ?_ ?_
    · refine less_mk (by simp) (by simp) ?_ ?_ <;> simp (disch := first | omega | (simp only [ZL] <;> omega)) only [Z, Op.callOf, bslE, nilE, mslE, fadE, AV.cells, AV.isBot, AV.one, AV.flat, flatL, ids1, ids2, idsX, AV.lt, ltL, AObj.lt, finE, sevalprocAttr, encP, List.range_zero, List.map_nil]
    intro p hp
    simp (disch := first | omega | (simp only [ZL] <;> omega)) only [Z, Op.callOf, bslE, nilE, mslE, fadE, AV.cells, AV.isBot, AV.one, AV.flat, flatL, ids1, ids2, idsX, AV.lt, ltL, AObj.lt, finE, sevalprocAttr]
    refine condG_p (fun e => ?_) (fun e => ?_)
    · have hp5 : p < 5 := by omega
      simp (disch := first | omega | (simp only [ZL] <;> omega)) only [Z, Op.callOf, bslE, nilE, mslE, fadE, AV.cells, AV.isBot, AV.one, AV.flat, flatL, ids1, ids2, idsX, AV.lt, ltL, AObj.lt, finE, sevalprocAttr, w8]
      refine callL_fz (LibB.at_ [1, 2, 3] (rowsB data) (UInt8.ofNat (p + 1)) n rfl hr3 hn2 hrN) (by simp [ltL, AV.lt]) rfl ?_
      simp (disch := first | omega | (simp only [ZL] <;> omega)) only [Z, Op.callOf, bslE, nilE, mslE, fadE, AV.cells, AV.isBot, AV.one, AV.flat, flatL, ids1, ids2, idsX, AV.lt, ltL, AObj.lt, finE, sevalprocAttr, encP_len, List.length_map, List.length_range]
      refine ⟨SubL.refl _, ?_⟩
      rw [atS_rowsB]
      refine finR_of (p + 1) (by omega) (by omega) ?_
      have hf : encP ((List.range p).map fun k => (k + 1, partB data (k + 1))) ++ [[.int .i64 ((p + 1 : Nat) : Int), .str (partB data (p + 1))]] = encP ((List.range (p + 1)).map fun k => (k + 1, partB data (k + 1))) := by
        rw [range_succ_map]; simp [encP]
      refine less_mk (by simp) (by simp) ?_ ?_ <;> simp (disch := first | omega | (simp only [ZL] <;> omega)) only [Z, Op.callOf, bslE, nilE, mslE, fadE, AV.cells, AV.isBot, AV.one, AV.flat, flatL, ids1, ids2, idsX, AV.lt, ltL, AObj.lt, finE, sevalprocAttr, i64_add1, hf]
    · have : p = 5 := by omega
      subst this
      have htk : (encP ((List.range 5).map fun k => (k + 1, partB data (k + 1)))).take 5 = encP ((List.range 5).map fun k => (k + 1, partB data (k + 1))) := List.take_of_length_le (by simp [encP])
      simp (disch := first | omega | (simp only [ZL] <;> omega)) only [Z, Op.callOf, bslE, nilE, mslE, fadE, AV.cells, AV.isBot, AV.one, AV.flat, flatL, ids1, ids2, idsX, AV.lt, ltL, AObj.lt, finE, sevalprocAttr, encP_len, List.length_map, List.length_range, htk]
      exact Sub.rfl' _
end Go.Ab
namespace Go.Ab
open Go Go.Proofs
def flagA (l : List (Nat × List UInt8)) (k : Nat) : List AV := (List.range 6).map fun j => .bool ((l.take k).any fun p => decide (p.1 = j))
def idsA (l : List (Nat × List UInt8)) (k : Nat) : List UInt8 := (l.take k).map fun p => UInt8.ofNat p.1
def datA (l : List (Nat × List UInt8)) (k : Nat) : List (List UInt8) := (l.take k).map fun p => p.2
theorem flagA_len (l : List (Nat × List UInt8)) (k : Nat) : (flagA l k).length = 6 := rfl
theorem flagA_get (l : List (Nat × List UInt8)) (k j : Nat) (h : j < 6) : (flagA l k).getD j .bot = .bool ((l.take k).any fun p => decide (p.1 = j)) := by
  simp [flagA, List.getD, List.getElem?_range h]
theorem flagA_set (l : List (Nat × List UInt8)) (k : Nat) (hk : k < l.length) : (flagA l k).set (l[k].1) (.bool true) = flagA l (k + 1) := by
  have et : l.take (k + 1) = l.take k ++ [l[k]] := by simp
  apply List.ext_getElem
  · simp [flagA]
  intro j h1 h2
  rw [List.getElem_set]
  simp only [flagA, List.getElem_map, List.getElem_range, et, List.any_append, List.any_cons, List.any_nil, Bool.or_false]
  by_cases c : l[k].1 = j
  · simp [c]
  · simp [c]
theorem flagA_lt (l : List (Nat × List UInt8)) (k : Nat) {n : Nat} : ltL n (flagA l k) := ⟨trivial, trivial, trivial, trivial, trivial, trivial, trivial⟩
theorem flagA_zero (l : List (Nat × List UInt8)) : flagA l 0 = [.bool false, .bool false, .bool false, .bool false, .bool false, .bool false] := by simp [flagA, List.range_succ]
theorem idsA_len (l : List (Nat × List UInt8)) (k : Nat) : (idsA l k).length = min k l.length := by simp [idsA]
theorem datA_len (l : List (Nat × List UInt8)) (k : Nat) : (datA l k).length = min k l.length := by simp [datA]
theorem idsA_succ (l : List (Nat × List UInt8)) (k : Nat) (h : k < l.length) : encB (idsA l (k + 1)) = encB (idsA l k) ++ [[.int .u8 (((UInt8.ofNat l[k].1).toNat : Nat) : Int)]] := by
  have et : l.take (k + 1) = l.take k ++ [l[k]] := by simp
  simp only [idsA, et, List.map_append, encB]; rfl
theorem datA_succ (l : List (Nat × List UInt8)) (k : Nat) (h : k < l.length) : encR (datA l (k + 1)) = encR (datA l k) ++ [[.sl 1 (encB l[k].2)]] := by
  have et : l.take (k + 1) = l.take k ++ [l[k]] := by simp
  simp only [datA, et, List.map_append, encR]; rfl
theorem atS_rowJ (i1 i2 i3 : Nat) (d1 d2 d3 : List UInt8) (n r : Nat) (h : d1.length = n) : atS [UInt8.ofNat i1, UInt8.ofNat i2, UInt8.ofNat i3] [d1, d2, d3] (UInt8.ofNat r) = rowJ i1 i2 i3 d1 d2 d3 n r := by
  unfold atS rowJ
  simp [h]
variable [Glob]
set_option maxHeartbeats 1000000

theorem join_c [LibB] (l : List (Nat × List UInt8)) (i1 i2 i3 : Nat) (d1 d2 d3 : List UInt8) (size : Nat) (hs : size ≤ 65536) (hl0 : l = [(i1, d1), (i2, d2), (i3, d3)]) (hl : PartsOK l (rowsN size)) :
    APure Tryz.prog 102 [.sl 2 (encP l), .int .i64 size] (.tup [.str (joinS i1 i2 i3 d1 d2 d3 size), .int .i64 0]) := by
  refine apure_fin mixed [40] 400 Tryz.func102 Tryz.ntmps102 Tryz.results102 rfl rfl (by simp) rfl ?_
  have e0 : ¬ (size : Int) < 0 := by omega
  have e1 : ¬ (65536 : Int) < (size : Int) := by omega
  have hn40 : rowsN size < 2^30 := by unfold rowsN; omega
  obtain ⟨h3, hok, hne⟩ := id hl
  simp (disch := first | omega | (simp only [ZL] <;> omega)) only [Z, Op.callOf, bslE, nilE, mslE, fadE, AV.cells, AV.isBot, AV.one, AV.flat, flatL, ids1, ids2, idsX, AV.lt, ltL, AObj.lt, finE, sevalprocAttr, e0, e1]
  refine callL_pure (rowsN_c size (by omega)) (by simp [ltL, AV.lt]) rfl ?_
  obtain ⟨n, hn⟩ : ∃ n, rowsN size = n := ⟨_, rfl⟩
  rw [hn] at hl hok hn40 ⊢
  simp (disch := first | omega | (simp only [ZL] <;> omega)) only [Z, Op.callOf, bslE, nilE, mslE, fadE, AV.cells, AV.isBot, AV.one, AV.flat, flatL, ids1, ids2, idsX, AV.lt, ltL, AObj.lt, finE, sevalprocAttr, encP_len, h3]
  refine loopG_row0 1 8 rfl ?_
  simp (disch := first | omega | (simp only [ZL] <;> omega)) only [Z, Op.callOf, bslE, nilE, mslE, fadE, AV.cells, AV.isBot, AV.one, AV.flat, flatL, ids1, ids2, idsX, AV.lt, ltL, AObj.lt, finE, sevalprocAttr]
  refine loopG_row0 1 9 rfl ?_
  simp (disch := first | omega | (simp only [ZL] <;> omega)) only [Z, Op.callOf, bslE, nilE, mslE, fadE, AV.cells, AV.isBot, AV.one, AV.flat, flatL, ids1, ids2, idsX, AV.lt, ltL, AObj.lt, finE, sevalprocAttr]
  refine loopF mixed (fun k : Nat => mk [(1, .int .i64 size), (6, .int .i64 n), (7, .ptr 10 0), (8, .row 16 k 0 k), (9, .row 17 k 0 k), (22, .sl 2 (encP l)), (23, .int .i64 3), (24, .int .i64 k)]
      [(10, .box (flagA l k)), (16, .row 1 k (encB (idsA l k))), (17, .row 1 k (encR (datA l k)))] 18)
    (fun k => k ≤ 3) (fun k => 3 - k) 0 400 rfl rfl (by omega) ?_ ?_
  · refine less_mk (by simp) (by simp) ?_ ?_ <;> simp (disch := first | omega | (simp only [ZL] <;> omega)) only [Z, Op.callOf, bslE, nilE, mslE, fadE, AV.cells, AV.isBot, AV.one, AV.flat, flatL, ids1, ids2, idsX, AV.lt, ltL, AObj.lt, finE, sevalprocAttr, flagA_zero]
    exact ⟨rfl, rfl⟩
  intro k hk
  simp (disch := first | omega | (simp only [ZL] <;> omega)) only [Z, Op.callOf, bslE, nilE, mslE, fadE, AV.cells, AV.isBot, AV.one, AV.flat, flatL, ids1, ids2, idsX, AV.lt, ltL, AObj.lt, finE, sevalprocAttr]
  refine condG_p (fun e => ?_) (fun e => ?_)
  · have hk3 : k < 3 := by omega
    have hk' : k < l.length := by omega
    obtain ⟨a1, a2, a3⟩ := hok k hk'
    have b1 : ¬ (l[k].1 : Int) < 1 := by omega
    have b2 : ¬ (5 : Int) < (l[k].1 : Int) := by omega
    have b3 : ¬ (k : Int) = 3 := by omega
    have hex : ((l.take k).any fun p => decide (p.1 = l[k].1)) = false := by
      rw [List.any_eq_false]
      intro p hp
      obtain ⟨j, hj, rfl⟩ := List.mem_iff_getElem.1 hp
      simp only [List.length_take] at hj
      simp only [List.getElem_take]
      simpa using hne j k (by omega) hk' (by omega)
    have hld : List.take 1 (List.drop (l[k].1) (flagA l k)) = [.bool false] := by
      have := flagA_get l k (l[k].1) (by omega)
      rw [hex] at this
      have hlt : l[k].1 < (flagA l k).length := by rw [flagA_len]; omega
      rw [List.drop_eq_getElem_cons hlt, List.take_succ_cons, List.take_zero, ← this]
      simp [List.getD, hlt]
    simp (disch := first | omega | (simp only [ZL] <;> omega)) only [Z, Op.callOf, bslE, nilE, mslE, fadE, AV.cells, AV.isBot, AV.one, AV.flat, flatL, ids1, ids2, idsX, AV.lt, ltL, AObj.lt, finE, sevalprocAttr, encP_len, h3, encP_at, b1, b2, b3, flagA_len, Nat.mul_one, hld, a3, encB_len, encR_len, idsA_len, datA_len, w8]
    refine finR_of (k + 1) (by omega) (by omega) ?_
    have hs1 := flagA_set l k hk'
    have hs2 := idsA_succ l k hk'
    have hs3 := datA_succ l k hk'
    rw [hs2, hs3]
    have hlt1 := @flagA_lt l (k + 1) 18
    refine less_mk (by simp) (by simp) ?_ ?_ <;> simp (disch := first | omega | (simp only [ZL] <;> omega)) only [Z, Op.callOf, bslE, nilE, mslE, fadE, AV.cells, AV.isBot, AV.one, AV.flat, flatL, ids1, ids2, idsX, AV.lt, ltL, AObj.lt, finE, sevalprocAttr, i64_add1, encB_len, encR_len, idsA_len, datA_len, hs1, hlt1]
    rw [List.take_of_length_le (show (encB l[k].snd).length ≤ n by rw [encB_len]; omega)]
  · have : k = 3 := by omega
    subst this
    simp (disch := first | omega | (simp only [ZL] <;> omega)) only [Z, Op.callOf, bslE, nilE, mslE, fadE, AV.cells, AV.isBot, AV.one, AV.flat, flatL, ids1, ids2, idsX, AV.lt, ltL, AObj.lt, finE, sevalprocAttr]
    have hi : (encB (idsA l 3)).take 3 = encB [UInt8.ofNat i1, UInt8.ofNat i2, UInt8.ofNat i3] := by rw [hl0]; rfl
    have hd : (encR (datA l 3)).take 3 = encR [d1, d2, d3] := by rw [hl0]; rfl
    refine loopG_frz 8 ?_
    simp (disch := first | omega | (simp only [ZL] <;> omega)) only [Z, Op.callOf, bslE, nilE, mslE, fadE, AV.cells, AV.isBot, AV.one, AV.flat, flatL, ids1, ids2, idsX, AV.lt, ltL, AObj.lt, finE, sevalprocAttr, frzT_some, encB_len, idsA_len, h3, hi]
    refine loopG_frz 9 ?_
    simp (disch := first | omega | (simp only [ZL] <;> omega)) only [Z, Op.callOf, bslE, nilE, mslE, fadE, AV.cells, AV.isBot, AV.one, AV.flat, flatL, ids1, ids2, idsX, AV.lt, ltL, AObj.lt, finE, sevalprocAttr, frzT_some, frz2, encR_len, datA_len, h3, hd]
    refine loopG_row0 1 12 rfl ?_
    refine loopF mixed (fun k : Nat => mk [(1, .int .i64 size), (8, .sl 1 (encB [UInt8.ofNat i1, UInt8.ofNat i2, UInt8.ofNat i3])), (9, .sl 1 (encR [d1, d2, d3])), (12, .row 24 k 0 (accJ i1 i2 i3 d1 d2 d3 n k).length), (71, .int .i64 k)]
        [(24, .row 1 k (encB (accJ i1 i2 i3 d1 d2 d3 n k)))] 25)
      (fun k => k ≤ 3) (fun k => 3 - k) 0 400 rfl rfl (by omega) ?_ ?_
    · refine less_mk (by simp) (by simp) ?_ ?_ <;> simp (disch := first | omega | (simp only [ZL] <;> omega)) only [Z, Op.callOf, bslE, nilE, mslE, fadE, AV.cells, AV.isBot, AV.one, AV.flat, flatL, ids1, ids2, idsX, AV.lt, ltL, AObj.lt, finE, sevalprocAttr, accJ, List.range_zero, List.map_nil, encB_nil]
      try exact rfl
    subst hl0
    have o1 := hok 0 (by simp)
    have o2 := hok 1 (by simp)
    have o3 := hok 2 (by simp)
    simp only [List.getElem_cons_zero, List.getElem_cons_succ] at o1 o2 o3
    intro r hr
    have hlen : (accJ i1 i2 i3 d1 d2 d3 n r).length ≤ 3 * n := by rw [accJ_len]; exact Nat.mul_le_mul_right n hr
    have hsucc := accJ_succ i1 i2 i3 d1 d2 d3 n r
    have hlt := accJ_len i1 i2 i3 d1 d2 d3 n r
    generalize hac : accJ i1 i2 i3 d1 d2 d3 n r = acc at *
    simp (disch := first | omega | (simp only [ZL] <;> omega)) only [Z, Op.callOf, bslE, nilE, mslE, fadE, AV.cells, AV.isBot, AV.one, AV.flat, flatL, ids1, ids2, idsX, AV.lt, ltL, AObj.lt, finE, sevalprocAttr]
    refine condG_p (fun e => ?_) (fun e => ?_)
    · have hr3 : r < 3 := by omega
      simp (disch := first | omega | (simp only [ZL] <;> omega)) only [Z, Op.callOf, bslE, nilE, mslE, fadE, AV.cells, AV.isBot, AV.one, AV.flat, flatL, ids1, ids2, idsX, AV.lt, ltL, AObj.lt, finE, sevalprocAttr, i64_add1, w8]
      refine callL_pure (LibB.at_ [UInt8.ofNat i1, UInt8.ofNat i2, UInt8.ofNat i3] [d1, d2, d3] (UInt8.ofNat (r + 1)) n rfl rfl hn40 (by simp [o1, o2, o3])) (by simp [ltL, AV.lt]) rfl ?_
      rw [atS_rowJ _ _ _ _ _ _ n _ o1.2.2]
      simp (disch := first | omega | (simp only [ZL] <;> omega)) only [Z, Op.callOf, bslE, nilE, mslE, fadE, AV.cells, AV.isBot, AV.one, AV.flat, flatL, ids1, ids2, idsX, AV.lt, ltL, AObj.lt, finE, sevalprocAttr, encB_len, rowJ_len]
      refine finR_of (r + 1) (by omega) (by omega) ?_
      rw [hsucc, encB_app, List.length_append, rowJ_len]
      refine less_mk (by simp) (by simp) ?_ ?_ <;> simp (disch := first | omega | (simp only [ZL] <;> omega)) only [Z, Op.callOf, bslE, nilE, mslE, fadE, AV.cells, AV.isBot, AV.one, AV.flat, flatL, ids1, ids2, idsX, AV.lt, ltL, AObj.lt, finE, sevalprocAttr, i64_add1]
    · have : r = 3 := by omega
      subst this
      have hsz : size ≤ acc.length := by rw [hlt, ← hn]; unfold rowsN; omega
      have hj : acc = rowJ i1 i2 i3 d1 d2 d3 n 1 ++ rowJ i1 i2 i3 d1 d2 d3 n 2 ++ rowJ i1 i2 i3 d1 d2 d3 n 3 := by rw [← hac]; simp [accJ, List.range_succ]
      simp (disch := first | omega | (simp only [ZL] <;> omega)) only [Z, Op.callOf, bslE, nilE, mslE, fadE, AV.cells, AV.isBot, AV.one, AV.flat, flatL, ids1, ids2, idsX, AV.lt, ltL, AObj.lt, finE, sevalprocAttr, encB_len, Nat.sub_zero, ← encB_take, bytesOf_encB]
      unfold joinS
      rw [hn, ← hj]
      exact Sub.rfl' _
end Go.Ab
