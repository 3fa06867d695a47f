import Derived.Test.YthgmopnabpnicaaGreatDoorZ10
import Derived.Test.YthgmopnabpnicaaGreatDoorZ11
import Derived.Test.YthgmopnabpnicaaGreatDoorZ12
set_option linter.all false
namespace Go.Ab
open Go Go.Proofs
def rotr (x : UInt32) (n : Nat) : UInt32 := (x <<< UInt32.ofNat (32 - n)) ||| (x >>> UInt32.ofNat n)
def e32 (v : List UInt32) : List AV := v.map fun x => .int .u32 (x.toNat : Int)
theorem e32_len (v : List UInt32) : (e32 v).length = v.length := by simp [e32]
theorem e32_get (v : List UInt32) (a : Nat) (h : a < v.length) : ((e32 v).drop a).take 1 = [.int .u32 ((v.getD a 0).toNat : Int)] := by
  rw [List.drop_eq_getElem_cons (by simpa [e32] using h)]
  simp [e32, List.getD, h]
theorem e32_set (v : List UInt32) (a : Nat) (x : UInt32) : (e32 v).set a (.int .u32 (x.toNat : Int)) = e32 (v.set a x) := by simp [e32, List.map_set]
theorem e32_lt (n : Nat) : ∀ v : List UInt32, ltL n (e32 v) = True
  | [] => by simp [e32, ltL]
  | x :: v => by
    show ltL n (.int .u32 (x.toNat : Int) :: e32 v) = True
    simp [ltL, AV.lt, e32_lt n v]
theorem e32_one : ∀ v : List UInt32, (e32 v).all AV.one = true
  | [] => rfl
  | x :: v => by show ((AV.int .u32 (x.toNat : Int)).one && (e32 v).all AV.one) = true; rw [e32_one v]; rfl
theorem e32_flat : ∀ v : List UInt32, flatL (e32 v) = true
  | [] => rfl
  | x :: v => by show ((AV.int .u32 (x.toNat : Int)).flat && flatL (e32 v)) = true; rw [e32_flat v]; rfl
def halfS (v : List UInt32) (a b c d : Nat) (n : UInt32) (tD tB : Nat) : List UInt32 :=
  let v := v.set a (v.getD a 0 + (v.getD b 0 + n))
  let v := v.set d (rotr (v.getD d 0 ^^^ v.getD a 0) tD)
  let v := v.set c (v.getD c 0 + v.getD d 0)
  v.set b (rotr (v.getD b 0 ^^^ v.getD c 0) tB)
def mixS (v : List UInt32) (a b c d : Nat) (x y : UInt32) : List UInt32 := halfS (halfS v a b c d x 16 12) a b c d y 8 7
theorem half_len (v : List UInt32) (a b c d : Nat) (n : UInt32) (tD tB : Nat) : (halfS v a b c d n tD tB).length = v.length := by simp [halfS]
theorem mix_len (v : List UInt32) (a b c d : Nat) (x y : UInt32) : (mixS v a b c d x y).length = v.length := by simp [mixS, half_len]
variable [Glob]
set_option maxHeartbeats 400000

theorem rot16_c (x : UInt32) : APure Tryz.prog 161 [.int .u32 x.toNat, .int .i64 (-16)] (.int .u32 (rotr x 16).toNat) := by
  refine apure_fin mixed [] 400 Tryz.func161 Tryz.ntmps161 Tryz.results161 rfl rfl (by simp) rfl ?_
  have e1 : IntKind.u64.wrap (-16) = 18446744073709551600 := by decide
  have e2 : IntKind.u64.wrap ((BitVec.ofInt IntKind.u64.bits 18446744073709551600 &&& BitVec.ofInt IntKind.u64.bits 31).toNat : Int) = 16 := by decide
  have e3 : IntKind.u64.wrap 16 = 16 := by decide
  simp (disch := first | omega | (simp only [ZL] <;> omega)) only [Z, Op.callOf, bslE, nilE, mslE, fadE, AV.cells, AV.isBot, AV.one, AV.flat, flatL, ids1, ids2, idsX, AV.lt, ltL, AObj.lt, finE, sevalprocAttr, e1, e2, e3]
  repeat' first | exact Sub.rfl' _ | exact sub_nils _ | exact SubL.nil | refine sub_tup ?_ | refine sub_agg ?_ | refine SubL.cons ?_ ?_
theorem rot12_c (x : UInt32) : APure Tryz.prog 161 [.int .u32 x.toNat, .int .i64 (-12)] (.int .u32 (rotr x 12).toNat) := by
  refine apure_fin mixed [] 400 Tryz.func161 Tryz.ntmps161 Tryz.results161 rfl rfl (by simp) rfl ?_
  have e1 : IntKind.u64.wrap (-12) = 18446744073709551604 := by decide
  have e2 : IntKind.u64.wrap ((BitVec.ofInt IntKind.u64.bits 18446744073709551604 &&& BitVec.ofInt IntKind.u64.bits 31).toNat : Int) = 20 := by decide
  have e3 : IntKind.u64.wrap 12 = 12 := by decide
  simp (disch := first | omega | (simp only [ZL] <;> omega)) only [Z, Op.callOf, bslE, nilE, mslE, fadE, AV.cells, AV.isBot, AV.one, AV.flat, flatL, ids1, ids2, idsX, AV.lt, ltL, AObj.lt, finE, sevalprocAttr, e1, e2, e3]
  repeat' first | exact Sub.rfl' _ | exact sub_nils _ | exact SubL.nil | refine sub_tup ?_ | refine sub_agg ?_ | refine SubL.cons ?_ ?_
theorem rot8_c (x : UInt32) : APure Tryz.prog 161 [.int .u32 x.toNat, .int .i64 (-8)] (.int .u32 (rotr x 8).toNat) := by
  refine apure_fin mixed [] 400 Tryz.func161 Tryz.ntmps161 Tryz.results161 rfl rfl (by simp) rfl ?_
  have e1 : IntKind.u64.wrap (-8) = 18446744073709551608 := by decide
  have e2 : IntKind.u64.wrap ((BitVec.ofInt IntKind.u64.bits 18446744073709551608 &&& BitVec.ofInt IntKind.u64.bits 31).toNat : Int) = 24 := by decide
  have e3 : IntKind.u64.wrap 8 = 8 := by decide
  simp (disch := first | omega | (simp only [ZL] <;> omega)) only [Z, Op.callOf, bslE, nilE, mslE, fadE, AV.cells, AV.isBot, AV.one, AV.flat, flatL, ids1, ids2, idsX, AV.lt, ltL, AObj.lt, finE, sevalprocAttr, e1, e2, e3]
  repeat' first | exact Sub.rfl' _ | exact sub_nils _ | exact SubL.nil | refine sub_tup ?_ | refine sub_agg ?_ | refine SubL.cons ?_ ?_
theorem rot7_c (x : UInt32) : APure Tryz.prog 161 [.int .u32 x.toNat, .int .i64 (-7)] (.int .u32 (rotr x 7).toNat) := by
  refine apure_fin mixed [] 400 Tryz.func161 Tryz.ntmps161 Tryz.results161 rfl rfl (by simp) rfl ?_
  have e1 : IntKind.u64.wrap (-7) = 18446744073709551609 := by decide
  have e2 : IntKind.u64.wrap ((BitVec.ofInt IntKind.u64.bits 18446744073709551609 &&& BitVec.ofInt IntKind.u64.bits 31).toNat : Int) = 25 := by decide
  have e3 : IntKind.u64.wrap 7 = 7 := by decide
  simp (disch := first | omega | (simp only [ZL] <;> omega)) only [Z, Op.callOf, bslE, nilE, mslE, fadE, AV.cells, AV.isBot, AV.one, AV.flat, flatL, ids1, ids2, idsX, AV.lt, ltL, AObj.lt, finE, sevalprocAttr, e1, e2, e3]
  repeat' first | exact Sub.rfl' _ | exact sub_nils _ | exact SubL.nil | refine sub_tup ?_ | refine sub_agg ?_ | refine SubL.cons ?_ ?_

def mixH (v : List UInt32) (a b c d : Nat) : Nat → AObj := mkH [(0, .box (e32 v)), (1, .box [.ptr 0 0]), (2, .box [.int .i64 a]), (3, .box [.int .i64 b]), (4, .box [.int .i64 c]), (5, .box [.int .i64 d])]
theorem half16_c (v : List UInt32) (a b c d : Nat) (x : UInt32) (hv : v.length = 16) (ha : a < 16) (hb : b < 16) (hc : c < 16) (hd : d < 16) :
    ACall Tryz.prog 160 [.int .u32 x.toNat, .int .i64 16, .int .i64 12, .ptr 1 0, .ptr 2 0, .ptr 3 0, .ptr 5 0, .ptr 4 0] (mixH v a b c d) 8
      (fun _ h' n' => (h' 0 = .box (e32 (halfS v a b c d x 16 12)) ∧ ∀ i, 1 ≤ i → i ≤ 5 → h' i = mixH v a b c d i) ∧ 8 ≤ n') := by
  refine acall_go mixed [] 400 Tryz.func160 Tryz.ntmps160 Tryz.results160 rfl rfl (by simp) rfl ?_
  simp (disch := first | omega | (simp only [ZL] <;> omega)) only [Z, Op.callOf, bslE, nilE, mslE, fadE, AV.cells, AV.isBot, AV.one, AV.flat, flatL, ids1, ids2, idsX, AV.lt, ltL, AObj.lt, finE, sevalprocAttr, mixH, Nat.mul_one, e32_len, e32_get, e32_set, List.length_set]
  refine okK_of (by kernel_rfl) ?_
  simp (disch := first | omega | (simp only [ZL] <;> omega)) only [Z, Op.callOf, bslE, nilE, mslE, fadE, AV.cells, AV.isBot, AV.one, AV.flat, flatL, ids1, ids2, idsX, AV.lt, ltL, AObj.lt, finE, sevalprocAttr, mixH, Nat.mul_one, e32_len, e32_get, e32_set, List.length_set]
  refine callD_pure (rot16_c _) (by simp [ltL, AV.lt]) ?_
  simp (disch := first | omega | (simp only [ZL] <;> omega)) only [Z, Op.callOf, bslE, nilE, mslE, fadE, AV.cells, AV.isBot, AV.one, AV.flat, flatL, ids1, ids2, idsX, AV.lt, ltL, AObj.lt, finE, sevalprocAttr, mixH, Nat.mul_one, e32_len, e32_get, e32_set, List.length_set]
  refine okK_of (by kernel_rfl) ?_
  simp (disch := first | omega | (simp only [ZL] <;> omega)) only [Z, Op.callOf, bslE, nilE, mslE, fadE, AV.cells, AV.isBot, AV.one, AV.flat, flatL, ids1, ids2, idsX, AV.lt, ltL, AObj.lt, finE, sevalprocAttr, mixH, Nat.mul_one, e32_len, e32_get, e32_set, List.length_set]
  refine okK_of (by kernel_rfl) ?_
  simp (disch := first | omega | (simp only [ZL] <;> omega)) only [Z, Op.callOf, bslE, nilE, mslE, fadE, AV.cells, AV.isBot, AV.one, AV.flat, flatL, ids1, ids2, idsX, AV.lt, ltL, AObj.lt, finE, sevalprocAttr, mixH, Nat.mul_one, e32_len, e32_get, e32_set, List.length_set]
  refine callD_pure (rot12_c _) (by simp [ltL, AV.lt]) ?_
  simp (disch := first | omega | (simp only [ZL] <;> omega)) only [Z, Op.callOf, bslE, nilE, mslE, fadE, AV.cells, AV.isBot, AV.one, AV.flat, flatL, ids1, ids2, idsX, AV.lt, ltL, AObj.lt, finE, sevalprocAttr, mixH, Nat.mul_one, e32_len, e32_get, e32_set, List.length_set]
  refine okK_of (by kernel_rfl) ?_
  simp (disch := first | omega | (simp only [ZL] <;> omega)) only [Z, Op.callOf, bslE, nilE, mslE, fadE, AV.cells, AV.isBot, AV.one, AV.flat, flatL, ids1, ids2, idsX, AV.lt, ltL, AObj.lt, finE, sevalprocAttr, mixH, Nat.mul_one, e32_len, e32_get, e32_set, List.length_set]
  refine ⟨rfl, fun i h1 h2 => ?_⟩
  have : i = 1 ∨ i = 2 ∨ i = 3 ∨ i = 4 ∨ i = 5 := by omega
  rcases this with rfl | rfl | rfl | rfl | rfl <;> rfl
theorem half8_c (v : List UInt32) (a b c d : Nat) (x : UInt32) (hv : v.length = 16) (ha : a < 16) (hb : b < 16) (hc : c < 16) (hd : d < 16) :
    ACall Tryz.prog 160 [.int .u32 x.toNat, .int .i64 8, .int .i64 7, .ptr 1 0, .ptr 2 0, .ptr 3 0, .ptr 5 0, .ptr 4 0] (mixH v a b c d) 8
      (fun _ h' n' => (h' 0 = .box (e32 (halfS v a b c d x 8 7)) ∧ ∀ i, 1 ≤ i → i ≤ 5 → h' i = mixH v a b c d i) ∧ 8 ≤ n') := by
  refine acall_go mixed [] 400 Tryz.func160 Tryz.ntmps160 Tryz.results160 rfl rfl (by simp) rfl ?_
  simp (disch := first | omega | (simp only [ZL] <;> omega)) only [Z, Op.callOf, bslE, nilE, mslE, fadE, AV.cells, AV.isBot, AV.one, AV.flat, flatL, ids1, ids2, idsX, AV.lt, ltL, AObj.lt, finE, sevalprocAttr, mixH, Nat.mul_one, e32_len, e32_get, e32_set, List.length_set]
  refine okK_of (by kernel_rfl) ?_
  simp (disch := first | omega | (simp only [ZL] <;> omega)) only [Z, Op.callOf, bslE, nilE, mslE, fadE, AV.cells, AV.isBot, AV.one, AV.flat, flatL, ids1, ids2, idsX, AV.lt, ltL, AObj.lt, finE, sevalprocAttr, mixH, Nat.mul_one, e32_len, e32_get, e32_set, List.length_set]
  refine callD_pure (rot8_c _) (by simp [ltL, AV.lt]) ?_
  simp (disch := first | omega | (simp only [ZL] <;> omega)) only [Z, Op.callOf, bslE, nilE, mslE, fadE, AV.cells, AV.isBot, AV.one, AV.flat, flatL, ids1, ids2, idsX, AV.lt, ltL, AObj.lt, finE, sevalprocAttr, mixH, Nat.mul_one, e32_len, e32_get, e32_set, List.length_set]
  refine okK_of (by kernel_rfl) ?_
  simp (disch := first | omega | (simp only [ZL] <;> omega)) only [Z, Op.callOf, bslE, nilE, mslE, fadE, AV.cells, AV.isBot, AV.one, AV.flat, flatL, ids1, ids2, idsX, AV.lt, ltL, AObj.lt, finE, sevalprocAttr, mixH, Nat.mul_one, e32_len, e32_get, e32_set, List.length_set]
  refine okK_of (by kernel_rfl) ?_
  simp (disch := first | omega | (simp only [ZL] <;> omega)) only [Z, Op.callOf, bslE, nilE, mslE, fadE, AV.cells, AV.isBot, AV.one, AV.flat, flatL, ids1, ids2, idsX, AV.lt, ltL, AObj.lt, finE, sevalprocAttr, mixH, Nat.mul_one, e32_len, e32_get, e32_set, List.length_set]
  refine callD_pure (rot7_c _) (by simp [ltL, AV.lt]) ?_
  simp (disch := first | omega | (simp only [ZL] <;> omega)) only [Z, Op.callOf, bslE, nilE, mslE, fadE, AV.cells, AV.isBot, AV.one, AV.flat, flatL, ids1, ids2, idsX, AV.lt, ltL, AObj.lt, finE, sevalprocAttr, mixH, Nat.mul_one, e32_len, e32_get, e32_set, List.length_set]
  refine okK_of (by kernel_rfl) ?_
  simp (disch := first | omega | (simp only [ZL] <;> omega)) only [Z, Op.callOf, bslE, nilE, mslE, fadE, AV.cells, AV.isBot, AV.one, AV.flat, flatL, ids1, ids2, idsX, AV.lt, ltL, AObj.lt, finE, sevalprocAttr, mixH, Nat.mul_one, e32_len, e32_get, e32_set, List.length_set]
  refine ⟨rfl, fun i h1 h2 => ?_⟩
  have : i = 1 ∨ i = 2 ∨ i = 3 ∨ i = 4 ∨ i = 5 := by omega
  rcases this with rfl | rfl | rfl | rfl | rfl <;> rfl

theorem mixb_c (v : List UInt32) (a b c d : Nat) (x y : UInt32) (hv : v.length = 16) (ha : a < 16) (hb : b < 16) (hc : c < 16) (hd : d < 16) :
    ABox Tryz.prog 142 [.int .i64 a, .int .i64 b, .int .i64 c, .int .i64 d, .int .u32 x.toNat, .int .u32 y.toNat] (e32 v) (e32 (mixS v a b c d x y)) (.tup []) := by
  refine acall_body (P := Tryz.prog) (f := 142) Tryz.func142 rfl rfl (show 7 ≤ 22 by decide) ?_
  refine awp_seq (awp_go mixed [] 400 rfl ?_)
  simp (disch := first | omega | (simp only [ZL] <;> omega)) only [Z, Op.callOf, bslE, nilE, mslE, fadE, AV.cells, AV.isBot, AV.one, AV.flat, flatL, ids1, ids2, idsX, AV.lt, ltL, AObj.lt, finE, sevalprocAttr, oneBox]
  refine awp_seq (awp_go mixed [] 400 rfl ?_)
  simp (disch := first | omega | (simp only [ZL] <;> omega)) only [Z, Op.callOf, bslE, nilE, mslE, fadE, AV.cells, AV.isBot, AV.one, AV.flat, flatL, ids1, ids2, idsX, AV.lt, ltL, AObj.lt, finE, sevalprocAttr]
  refine awp_less (mk [(5, .int .u32 x.toNat), (6, .int .u32 y.toNat), (14, .fn (.func 160) [] [.ptr 1 0, .ptr 2 0, .ptr 3 0, .ptr 5 0, .ptr 4 0])]
    [(0, .box (e32 v)), (1, .box [.ptr 0 0]), (2, .box [.int .i64 a]), (3, .box [.int .i64 b]), (4, .box [.int .i64 c]), (5, .box [.int .i64 d])] 6) ?_ ?_
  · refine less_mk (by simp) (by simp) ?_ ?_ <;> simp (disch := first | omega | (simp only [ZL] <;> omega)) only [Z, Op.callOf, bslE, nilE, mslE, fadE, AV.cells, AV.isBot, AV.one, AV.flat, flatL, ids1, ids2, idsX, AV.lt, ltL, AObj.lt, finE, sevalprocAttr, e32_lt]
  refine awp_seq (awp_go mixed [] 400 rfl ?_)
  simp (disch := first | omega | (simp only [ZL] <;> omega)) only [Z, Op.callOf, bslE, nilE, mslE, fadE, AV.cells, AV.isBot, AV.one, AV.flat, flatL, ids1, ids2, idsX, AV.lt, ltL, AObj.lt, finE, sevalprocAttr]
  refine callL_acall (half16_c v a b c d x hv ha hb hc hd) rfl ?_
  rintro r h' n' ⟨⟨q1, q2⟩, q3⟩
  simp (disch := first | omega | (simp only [ZL] <;> omega)) only [Z, Op.callOf, bslE, nilE, mslE, fadE, AV.cells, AV.isBot, AV.one, AV.flat, flatL, ids1, ids2, idsX, AV.lt, ltL, AObj.lt, finE, sevalprocAttr]
  have hl := half_len v a b c d x 16 12
  refine awp_less (mk [(6, .int .u32 y.toNat), (14, .fn (.func 160) [] [.ptr 1 0, .ptr 2 0, .ptr 3 0, .ptr 5 0, .ptr 4 0])]
    [(0, .box (e32 (halfS v a b c d x 16 12))), (1, .box [.ptr 0 0]), (2, .box [.int .i64 a]), (3, .box [.int .i64 b]), (4, .box [.int .i64 c]), (5, .box [.int .i64 d])] 6) ?_ ?_
  · refine less_mk (by simp) (Nat.le_trans (by decide) q3) ?_ ?_
    · simp (disch := first | omega | (simp only [ZL] <;> omega)) only [Z, Op.callOf, bslE, nilE, mslE, fadE, AV.cells, AV.isBot, AV.one, AV.flat, flatL, ids1, ids2, idsX, AV.lt, ltL, AObj.lt, finE, sevalprocAttr]
    · simp only [allH_cons, allH_nil, q1, q2 1 (by decide) (by decide), q2 2 (by decide) (by decide), q2 3 (by decide) (by decide), q2 4 (by decide) (by decide), q2 5 (by decide) (by decide)]
      simp only [AObj.lt, e32_lt, ltL, AV.lt]
      repeat' first | exact rfl | exact trivial | decide | refine ⟨?_, ?_⟩
  refine awp_go mixed [] 400 rfl ?_
  simp (disch := first | omega | (simp only [ZL] <;> omega)) only [Z, Op.callOf, bslE, nilE, mslE, fadE, AV.cells, AV.isBot, AV.one, AV.flat, flatL, ids1, ids2, idsX, AV.lt, ltL, AObj.lt, finE, sevalprocAttr]
  refine callL_acall (half8_c _ a b c d y (by rw [hl]; exact hv) ha hb hc hd) rfl ?_
  rintro r h' n' ⟨⟨q1, q2⟩, q3⟩
  simp (disch := first | omega | (simp only [ZL] <;> omega)) only [Z, Op.callOf, bslE, nilE, mslE, fadE, AV.cells, AV.isBot, AV.one, AV.flat, flatL, ids1, ids2, idsX, AV.lt, ltL, AObj.lt, finE, sevalprocAttr, Tryz.f142]
  exact q1
end Go.Ab
namespace Go.Ab
open Go Go.Proofs
def wordS (s : List UInt8) : UInt32 := (((s.getD 0 0).toUInt32 ||| (s.getD 1 0).toUInt32 <<< UInt32.ofNat 8) ||| (s.getD 2 0).toUInt32 <<< UInt32.ofNat 16) ||| (s.getD 3 0).toUInt32 <<< UInt32.ofNat 24
theorem c8_32 (x : UInt8) : IntKind.u32.wrap (x.toNat : Int) = ((x.toUInt32).toNat : Int) := by
  have := x.toNat_lt
  rw [IntKind.wrap_u32]; simp; omega
def eightS : List UInt32 := [1779033703, 3144134277, 1013904242, 2773480762, 1359893119, 2600822924, 528734635, 1541459225]
def rowsTab : List UInt8 := [48, 49, 50, 51, 52, 53, 54, 55, 56, 57, 97, 98, 99, 100, 101, 102, 101, 97, 52, 56, 57, 102, 100, 54, 49, 99, 48, 50, 98, 55, 53, 51, 98, 56, 99, 48, 53, 50, 102, 100, 97, 101, 51, 54, 55, 49, 57, 52, 55, 57, 51, 49, 100, 99, 98, 101, 50, 54, 53, 97, 52, 48, 102, 56, 57, 48, 53, 55, 50, 52, 97, 102, 101, 49, 98, 99, 54, 56, 51, 100, 50, 99, 54, 97, 48, 98, 56, 51, 52, 100, 55, 53, 102, 101, 49, 57, 99, 53, 49, 102, 101, 100, 52, 97, 48, 55, 54, 51, 57, 50, 56, 98, 100, 98, 55, 101, 99, 49, 51, 57, 53, 48, 102, 52, 56, 54, 50, 97, 54, 102, 101, 57, 98, 51, 48, 56, 99, 50, 100, 55, 49, 52, 97, 53, 97, 50, 56, 52, 55, 54, 49, 53, 102, 98, 57, 101, 51, 99, 100, 48]
def digits16 : List UInt8 := [48, 49, 50, 51, 52, 53, 54, 55, 56, 57, 97, 98, 99, 100, 101, 102]
def rowN (r i : Nat) : Nat := (ixS digits16 (rowsTab.getD (16 * r + i) 0)).toNat
theorem rowN_lt (r i : Nat) (hr : r < 10) (hi : i < 16) : rowN r i < 16 ∧ ixS digits16 (rowsTab.getD (16 * r + i) 0) = (rowN r i : Int) := by
  have : ∀ r : Fin 10, ∀ i : Fin 16, rowN r i < 16 ∧ ixS digits16 (rowsTab.getD (16 * r + i) 0) = (rowN r i : Int) := by decide +kernel
  exact this ⟨r, hr⟩ ⟨i, hi⟩
theorem tab_len : rowsTab.length = 160 := by decide +kernel
variable [Glob] [LibC]
set_option maxHeartbeats 400000

theorem word_c (s : List UInt8) (h : 4 ≤ s.length) : APure Tryz.prog 141 [.str s] (.int .u32 (wordS s).toNat) := by
  refine apure_fin mixed [] 400 Tryz.func141 Tryz.ntmps141 Tryz.results141 rfl rfl (by simp) rfl ?_
  simp (disch := first | omega | (simp only [ZL] <;> omega)) only [Z, Op.callOf, bslE, nilE, mslE, fadE, AV.cells, AV.isBot, AV.one, AV.flat, flatL, ids1, ids2, idsX, AV.lt, ltL, AObj.lt, finE, sevalprocAttr, c8_32]
  refine okK_of (by kernel_rfl) ?_
  simp (disch := first | omega | (simp only [ZL] <;> omega)) only [Z, Op.callOf, bslE, nilE, mslE, fadE, AV.cells, AV.isBot, AV.one, AV.flat, flatL, ids1, ids2, idsX, AV.lt, ltL, AObj.lt, finE, sevalprocAttr]
  repeat' first | exact Sub.rfl' _ | exact sub_nils _ | exact SubL.nil | refine sub_tup ?_ | refine sub_agg ?_ | refine SubL.cons ?_ ?_
theorem eight_c : APure Tryz.prog 74 [] (.agg (e32 eightS)) := by
  refine apure_fin mixed [] 400 Tryz.func74 Tryz.ntmps74 Tryz.results74 rfl rfl (by simp) rfl ?_
  simp (disch := first | omega | (simp only [ZL] <;> omega)) only [Z, Op.callOf, bslE, nilE, mslE, fadE, AV.cells, AV.isBot, AV.one, AV.flat, flatL, ids1, ids2, idsX, AV.lt, ltL, AObj.lt, finE, sevalprocAttr, e32_lt]
  exact Sub.rfl' _
theorem row_c (r i : Nat) (hr : r < 10) (hi : i < 16) : APure Tryz.prog 143 [.int .i64 r, .int .i64 i] (.int .i64 (rowN r i)) := by
  refine apure_fin mixed [] 400 Tryz.func143 Tryz.ntmps143 Tryz.results143 rfl rfl (by simp) rfl ?_
  have h16 : (16 : Int) * (r : Int) + (i : Int) = ((16 * r + i : Nat) : Int) := by omega
  simp (disch := first | omega | (simp only [ZL] <;> omega)) only [Z, Op.callOf, bslE, nilE, mslE, fadE, AV.cells, AV.isBot, AV.one, AV.flat, flatL, ids1, ids2, idsX, AV.lt, ltL, AObj.lt, finE, sevalprocAttr, h16]
  change oL (gO (_ ∧ _ < (rowsTab.length : Int)) (some (.int .u8 ((rowsTab.getD (16 * r + i) 0).toNat : Int), []))) false _ _ _ _ _ _ _
  rw [tab_len]
  simp (disch := first | omega | (simp only [ZL] <;> omega)) only [Z, Op.callOf, bslE, nilE, mslE, fadE, AV.cells, AV.isBot, AV.one, AV.flat, flatL, ids1, ids2, idsX, AV.lt, ltL, AObj.lt, finE, sevalprocAttr]
  refine callL_pure (LibC.ixb digits16 (rowsTab.getD (16 * r + i) 0)) (by simp [ltL, AV.lt]) rfl ?_
  rw [(rowN_lt r i hr hi).2]
  simp (disch := first | omega | (simp only [ZL] <;> omega)) only [Z, Op.callOf, bslE, nilE, mslE, fadE, AV.cells, AV.isBot, AV.one, AV.flat, flatL, ids1, ids2, idsX, AV.lt, ltL, AObj.lt, finE, sevalprocAttr]
  repeat' first | exact Sub.rfl' _ | exact sub_nils _ | exact SubL.nil | refine sub_tup ?_ | refine sub_agg ?_ | refine SubL.cons ?_ ?_
end Go.Ab
