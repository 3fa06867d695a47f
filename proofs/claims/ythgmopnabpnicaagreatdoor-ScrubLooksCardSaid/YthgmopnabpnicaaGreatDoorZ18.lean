import Derived.Test.YthgmopnabpnicaaGreatDoorZ17
set_option linter.all false
namespace Go.Ab
open Go Go.Proofs
def wordsS (b : List UInt8) : List UInt32 := (List.range 16).map fun i => wordS (b.drop (4 * i))
def stepS (m : List UInt32) (r j : Nat) (v : List UInt32) : List UInt32 :=
  if j < 4 then mixS v j (4 + j) (8 + j) (12 + j) (m.getD (rowN r (2 * j)) 0) (m.getD (rowN r (2 * j + 1)) 0)
  else mixS v (j - 4) (4 + (j - 4 + 1) % 4) (8 + (j - 4 + 2) % 4) (12 + (j - 4 + 3) % 4) (m.getD (rowN r (2 * j)) 0) (m.getD (rowN r (2 * j + 1)) 0)
def innerR (m : List UInt32) (r : Nat) : Nat → Nat → List UInt32 → List UInt32
  | 0, _, v => v
  | n + 1, j, v => innerR m r n (j + 1) (stepS m r j v)
def outerR (m : List UInt32) : Nat → Nat → List UInt32 → List UInt32
  | 0, _, v => v
  | n + 1, r, v => outerR m n (r + 1) (innerR m r 8 0 v)
def startV (h : List UInt32) (count : Nat) (last : Bool) : List UInt32 :=
  let v := h ++ eightS
  let v := v.set 12 (v.getD 12 0 ^^^ UInt32.ofNat count)
  let v := v.set 13 (v.getD 13 0 ^^^ UInt32.ofNat (count / 4294967296))
  if last then v.set 14 (~~~ v.getD 14 0) else v
def takeS (h : List UInt32) (block : List UInt8) (count : Nat) (last : Bool) : List UInt32 :=
  let v := outerR (wordsS block) 10 0 (startV h count last)
  (List.range 8).map fun i => h.getD i 0 ^^^ (v.getD i 0 ^^^ v.getD (i + 8) 0)
theorem step_len (m : List UInt32) (r j : Nat) (v : List UInt32) : (stepS m r j v).length = v.length := by unfold stepS; split <;> exact mix_len _ _ _ _ _ _ _
theorem inner_len (m : List UInt32) (r : Nat) : ∀ n j v, (innerR m r n j v).length = v.length
  | 0, _, _ => rfl
  | n + 1, j, v => by rw [innerR, inner_len m r n, step_len]
theorem outer_len (m : List UInt32) : ∀ n r v, (outerR m n r v).length = v.length
  | 0, _, _ => rfl
  | n + 1, r, v => by rw [outerR, outer_len m n, inner_len]
theorem start_len (h : List UInt32) (c : Nat) (l : Bool) (hh : h.length = 8) : (startV h c l).length = 16 := by
  unfold startV; cases l <;> simp [hh, eightS]
theorem take_len (h : List UInt32) (b : List UInt8) (c : Nat) (l : Bool) : (takeS h b c l).length = 8 := by simp [takeS]
theorem words_len (b : List UInt8) : (wordsS b).length = 16 := by simp [wordsS]
theorem words_get (b : List UInt8) (i : Nat) (h : i < 16) : (wordsS b).getD i 0 = wordS (b.drop (4 * i)) := by simp [wordsS, List.getD, h]
theorem list_ext16 (a b : List UInt32) (n : Nat) (h1 : a.length = n) (h2 : b.length = n) (h : ∀ i, i < n → a.getD i 0 = b.getD i 0) : a = b := by
  apply List.ext_getElem (by omega)
  intro i h3 h4
  have := h i (by omega)
  simpa [List.getD, h3, h4] using this
theorem getD_set_eq (v : List UInt32) (i : Nat) (x : UInt32) (h : i < v.length) : (v.set i x).getD i 0 = x := by simp [List.getD, h]
theorem getD_set_ne32 (v : List UInt32) (i j : Nat) (x : UInt32) (h : i ≠ j) : (v.set i x).getD j 0 = v.getD j 0 := by simp [List.getD, h]
theorem eight_len : eightS.length = 8 := Eq.trans rfl rfl
theorem e32_set0 (v : List UInt32) (cs : List AV) (h : cs.length = v.length) : setL cs 0 (e32 v) = e32 v := setL_0 _ _ (by rw [h, e32_len])
theorem e32_tk8 (v : List UInt32) (h : v.length = 8) : (e32 v).take 8 = e32 v := List.take_of_length_le (by rw [e32_len, h]; exact Nat.le_refl _)
theorem e32_aflat : ∀ v : List UInt32, (e32 v).all AV.flat = true
  | [] => rfl
  | x :: v => by show ((AV.int .u32 (x.toNat : Int)).flat && (e32 v).all AV.flat) = true; rw [e32_aflat v]; rfl
theorem tk_one (l : List AV) (n : Nat) : (l.map fun c => [c]).take n = (l.take n).map fun c => [c] := by rw [List.map_take]
theorem hd_one (l : List AV) : ((l.map fun c => [c]).map fun y => y.headD AV.bot) = l := by
  induction l with
  | nil => rfl
  | cons a l ih => simp only [List.map_cons, ih]; rfl
theorem e32_app (a b : List UInt32) : e32 a ++ e32 b = e32 (a ++ b) := by simp [e32]
theorem e32_left8 (a : List UInt32) (z : List AV) (h : a.length = 8) : (e32 a ++ z).take 8 = e32 a := List.take_left' (by rw [e32_len, h])
theorem e32_dr16 (a : List UInt32) (z : List AV) (h : a.length = 8) (hz : z.length = 8) : (e32 a ++ z).drop 16 = [] := List.drop_eq_nil_of_le (by rw [List.length_append, e32_len, h, hz]; exact Nat.le_refl _)
theorem c64_32 (n : Nat) : IntKind.u32.wrap (n : Int) = ((UInt32.ofNat n).toNat : Int) := by rw [IntKind.wrap_u32]; simp
theorem c64_hi (n : Nat) : IntKind.u32.wrap ((n : Int).fdiv (2 ^ min 32 IntKind.u64.bits)) = ((UInt32.ofNat (n / 4294967296)).toNat : Int) := by
  have e : (2 : Int) ^ min 32 IntKind.u64.bits = ((4294967296 : Nat) : Int) := by decide
  rw [e, Int.fdiv_eq_ediv_of_nonneg _ (by decide), ← Int.natCast_ediv, c64_32]
theorem v32_not (x : UInt32) : IntKind.u32.wrap ((BitVec.ofInt IntKind.u32.bits (if IntKind.u32.signed = true then -1 else IntKind.u32.max) ^^^ BitVec.ofInt IntKind.u32.bits (x.toNat : Int)).toNat : Int) = ((~~~x).toNat : Int) := by
  have e : (if IntKind.u32.signed = true then (-1 : Int) else IntKind.u32.max) = ((UInt32.ofNat 4294967295).toNat : Int) := by decide
  rw [e, v32_xor]
  congr 2
theorem dg2 (i : Nat) : (2 : Int) * (i : Int) = ((2 * i : Nat) : Int) := by omega
theorem dg_a (i : Nat) : (4 : Int) + (i : Int) = ((4 + i : Nat) : Int) := by omega
theorem dg_b (i : Nat) : (8 : Int) + (i : Int) = ((8 + i : Nat) : Int) := by omega
theorem dg_c (i : Nat) : (12 : Int) + (i : Int) = ((12 + i : Nat) : Int) := by omega
theorem dg_9 (i : Nat) : (9 : Int) + (i : Int) = ((9 + i : Nat) : Int) := by omega
theorem dg_1 (i : Nat) : (i : Int) + 1 = ((i + 1 : Nat) : Int) := by omega
theorem dg_2 (i : Nat) : (i : Int) + 2 = ((i + 2 : Nat) : Int) := by omega
theorem dg_3 (i : Nat) : (i : Int) + 3 = ((i + 3 : Nat) : Int) := by omega
theorem dg_m (n : Nat) : Int.tmod (n : Int) 4 = ((n % 4 : Nat) : Int) := by rw [Int.tmod_eq_emod_of_nonneg (by omega)]; omega
theorem dg_8 (i : Nat) : (i : Int) + 8 = ((i + 8 : Nat) : Int) := by omega
def zero16 : List UInt32 := List.replicate 16 0
variable [Glob] [LibC]
set_option maxHeartbeats 1000000

theorem frzM_e32 {s : AS} (v : List UInt32) : (frzM frz1 (e32 v)).run s = some (e32 v, []) := frzM_flat (e32_flat v)
theorem take_c (h : List UInt32) (hh : h.length = 8) (block : List UInt8) (hb : block.length = 64) (count : Nat) (hc : count < 2^64) (last : Bool) :
    APure Tryz.prog 107 [.agg (e32 h), .str block, .int .u64 count, .bool last] (.agg (e32 (takeS h block count last))) := by
  refine apure_fin mixed [] 400 Tryz.func107 Tryz.ntmps107 Tryz.results107 rfl rfl (by simp) rfl ?_
  simp (disch := first | omega | (simp only [ZL] <;> omega)) only [Z, Op.callOf, bslE, nilE, mslE, fadE, AV.cells, AV.isBot, AV.one, AV.flat, flatL, ids1, ids2, idsX, AV.lt, ltL, AObj.lt, finE, sevalprocAttr, e32_len]
  refine loopF mixed (fun p : Nat × List UInt32 => mk [(1, .str block), (2, .int .u64 count), (3, .bool last), (4, .ptr 0 0), (8, .ptr 1 0), (9, .ptr 2 0), (17, .int .i64 p.1)]
      [(0, .box (e32 h)), (1, .box (e32 (List.replicate 8 0))), (2, .box (e32 p.2))] 3)
    (fun p => p.1 ≤ 16 ∧ p.2.length = 16 ∧ ∀ i, i < p.1 → p.2.getD i 0 = (wordsS block).getD i 0) (fun p => 16 - p.1) (0, zero16) 400 rfl rfl ⟨by simp, by simp [zero16], by intro i hi; omega⟩ ?_ ?_
  · refine less_mk (by simp) (by simp) ?_ ?_ <;> simp (disch := first | omega | (simp only [ZL] <;> omega)) only [Z, Op.callOf, bslE, nilE, mslE, fadE, AV.cells, AV.isBot, AV.one, AV.flat, flatL, ids1, ids2, idsX, AV.lt, ltL, AObj.lt, finE, sevalprocAttr, e32_lt]
    exact ⟨rfl, rfl⟩
  rintro ⟨k, m⟩ ⟨hk, hm, hw⟩
  dsimp only at hk hm hw
  simp (disch := first | omega | (simp only [ZL] <;> omega)) only [Z, Op.callOf, bslE, nilE, mslE, fadE, AV.cells, AV.isBot, AV.one, AV.flat, flatL, ids1, ids2, idsX, AV.lt, ltL, AObj.lt, finE, sevalprocAttr]
  refine condG_p (fun e => ?_) (fun e => ?_)
  · have hk' : k < 16 := by omega
    have h4 : (4 : Int) * (k : Int) = ((4 * k : Nat) : Int) := by omega
    simp (disch := first | omega | (simp only [ZL] <;> omega)) only [Z, Op.callOf, bslE, nilE, mslE, fadE, AV.cells, AV.isBot, AV.one, AV.flat, flatL, ids1, ids2, idsX, AV.lt, ltL, AObj.lt, finE, sevalprocAttr, h4]
    refine callL_pure (word_c (block.drop (4 * k)) (by simp; omega)) (by simp [ltL, AV.lt]) rfl ?_
    simp (disch := first | omega | (simp only [ZL] <;> omega)) only [Z, Op.callOf, bslE, nilE, mslE, fadE, AV.cells, AV.isBot, AV.one, AV.flat, flatL, ids1, ids2, idsX, AV.lt, ltL, AObj.lt, finE, sevalprocAttr, Nat.mul_one, e32_len, e32_set]
    refine finR_of (k + 1, m.set k (wordS (block.drop (4 * k)))) ⟨by dsimp only; omega, by simpa using hm, fun i hi => ?_⟩ (by dsimp only; omega) ?_
    · dsimp only at hi ⊢
      by_cases ei : k = i
      · subst ei
        rw [getD_set_eq _ _ _ (by omega), words_get _ _ hk']
      · rw [getD_set_ne32 _ _ _ _ ei]; exact hw i (by omega)
    · refine less_mk (by simp) (by simp) ?_ ?_ <;> simp (disch := first | omega | (simp only [ZL] <;> omega)) only [Z, Op.callOf, bslE, nilE, mslE, fadE, AV.cells, AV.isBot, AV.one, AV.flat, flatL, ids1, ids2, idsX, AV.lt, ltL, AObj.lt, finE, sevalprocAttr, e32_lt, i64_add1]
  · have hmw : m = wordsS block := list_ext16 _ _ 16 hm (words_len _) fun i hi => hw i (by omega)
    subst hmw
    simp (disch := first | omega | (simp only [ZL] <;> omega)) only [Z, Op.callOf, bslE, nilE, mslE, fadE, AV.cells, AV.isBot, AV.one, AV.flat, flatL, ids1, ids2, idsX, AV.lt, ltL, AObj.lt, finE, sevalprocAttr]
    refine callL_pure eight_c (by simp [ltL]) rfl ?_
    have h8 := eight_len
    simp (disch := first | omega | (simp only [ZL] <;> omega)) only [Z, Op.callOf, bslE, nilE, mslE, fadE, AV.cells, AV.isBot, AV.one, AV.flat, flatL, ids1, ids2, idsX, AV.lt, ltL, AObj.lt, finE, sevalprocAttr, e32_len, e32_one, h8, e32_set0]
    simp (disch := first | omega | (simp only [ZL] <;> omega)) only [Z, Op.callOf, bslE, nilE, mslE, fadE, AV.cells, AV.isBot, AV.one, AV.flat, flatL, ids1, ids2, idsX, AV.lt, ltL, AObj.lt, finE, sevalprocAttr, e32_len, h8, hh, e32_tk8, e32_aflat, tk_one, hd_one, contB_box]
    refine okK_of (by kernel_rfl) ?_
    simp (disch := first | omega | (simp only [ZL] <;> omega)) only [Z, Op.callOf, bslE, nilE, mslE, fadE, AV.cells, AV.isBot, AV.one, AV.flat, flatL, ids1, ids2, idsX, AV.lt, ltL, AObj.lt, finE, sevalprocAttr, e32_len, h8, hh, e32_tk8, e32_aflat, tk_one, hd_one, contB_box, e32_left8]
    refine okK_of (by kernel_rfl) ?_
    simp (disch := first | omega | (simp only [ZL] <;> omega)) only [Z, Op.callOf, bslE, nilE, mslE, fadE, AV.cells, AV.isBot, AV.one, AV.flat, flatL, ids1, ids2, idsX, AV.lt, ltL, AObj.lt, finE, sevalprocAttr, e32_len, h8, hh, e32_tk8, e32_aflat, tk_one, hd_one, contB_box, e32_left8, e32_dr16, e32_app, List.append_nil, Nat.mul_one, e32_get, e32_set, c64_32 count, c64_hi count, List.length_append, List.length_set]
    refine condG_b (fun e1 => ?_) (fun e1 => ?_)
    · simp (disch := first | omega | (simp only [ZL] <;> omega)) only [Z, Op.callOf, bslE, nilE, mslE, fadE, AV.cells, AV.isBot, AV.one, AV.flat, flatL, ids1, ids2, idsX, AV.lt, ltL, AObj.lt, finE, sevalprocAttr, e32_len, h8, hh, Nat.mul_one, e32_get, e32_set, List.length_append, List.length_set, v32_not]
      have hm16 := words_len block
      have hs16 := start_len h count last hh
      refine loopF mixed (fun p : Nat × List UInt32 => mk [(4, .ptr 0 0), (8, .ptr 1 0), (9, .ptr 2 0), (11, .ptr 4 0), (53, .int .i64 p.1)]
          [(0, .box (e32 h)), (1, .box (e32 (List.replicate 8 0))), (2, .box (e32 (wordsS block))), (4, .box (e32 p.2))] 5)
        (fun p => p.1 ≤ 10 ∧ p.2.length = 16 ∧ outerR (wordsS block) (10 - p.1) p.1 p.2 = outerR (wordsS block) 10 0 (startV h count last)) (fun p => 10 - p.1) (0, startV h count last) 400 rfl rfl ⟨by simp, hs16, rfl⟩ ?_ ?_
      · refine less_mk (by simp) (by simp) ?_ ?_ <;> simp (disch := first | omega | (simp only [ZL] <;> omega)) only [Z, Op.callOf, bslE, nilE, mslE, fadE, AV.cells, AV.isBot, AV.one, AV.flat, flatL, ids1, ids2, idsX, AV.lt, ltL, AObj.lt, finE, sevalprocAttr, e32_lt]
        subst e1
        rfl
      rintro ⟨r, v⟩ ⟨hr, hv, hJ⟩
      dsimp only at hr hv hJ
      simp (disch := first | omega | (simp only [ZL] <;> omega)) only [Z, Op.callOf, bslE, nilE, mslE, fadE, AV.cells, AV.isBot, AV.one, AV.flat, flatL, ids1, ids2, idsX, AV.lt, ltL, AObj.lt, finE, sevalprocAttr]
      refine condG_p (fun e => ?_) (fun e => ?_)
      · have hr' : r < 10 := by omega
        obtain ⟨m10, hm10⟩ : ∃ m, 10 - r = m + 1 := ⟨9 - r, by omega⟩
        rw [hm10, outerR] at hJ
        simp (disch := first | omega | (simp only [ZL] <;> omega)) only [Z, Op.callOf, bslE, nilE, mslE, fadE, AV.cells, AV.isBot, AV.one, AV.flat, flatL, ids1, ids2, idsX, AV.lt, ltL, AObj.lt, finE, sevalprocAttr]
        refine loopA (fun p : Nat × List UInt32 => mk [(4, .ptr 0 0), (8, .ptr 1 0), (9, .ptr 2 0), (11, .ptr 4 0), (53, .int .i64 r), (13, .int .i64 r), (56, .int .i64 p.1)]
            [(0, .box (e32 h)), (1, .box (e32 (List.replicate 8 0))), (2, .box (e32 (wordsS block))), (4, .box (e32 p.2))] 5)
          (fun p => p.1 ≤ 4 ∧ p.2.length = 16 ∧ innerR (wordsS block) r (8 - p.1) p.1 p.2 = innerR (wordsS block) r 8 0 v) (fun p => 4 - p.1) (0, v) ⟨by simp, hv, rfl⟩ ?_ ?_
        · refine less_mk (by simp) (by simp) ?_ ?_ <;> simp (disch := first | omega | (simp only [ZL] <;> omega)) only [Z, Op.callOf, bslE, nilE, mslE, fadE, AV.cells, AV.isBot, AV.one, AV.flat, flatL, ids1, ids2, idsX, AV.lt, ltL, AObj.lt, finE, sevalprocAttr, e32_lt]
        rintro ⟨i, u⟩ ⟨hi, hu, hI⟩
        dsimp only at hi hu hI
        refine awp_seq (awp_go mixed [] 400 rfl ?_)
        simp (disch := first | omega | (simp only [ZL] <;> omega)) only [Z, Op.callOf, bslE, nilE, mslE, fadE, AV.cells, AV.isBot, AV.one, AV.flat, flatL, ids1, ids2, idsX, AV.lt, ltL, AObj.lt, finE, sevalprocAttr]
        by_cases e2 : (i : Int) < 4
        · refine awp_seq (awp_go mixed [] 400 rfl ?_)
          simp (disch := first | omega | (simp only [ZL] <;> omega)) only [Z, Op.callOf, bslE, nilE, mslE, fadE, AV.cells, AV.isBot, AV.one, AV.flat, flatL, ids1, ids2, idsX, AV.lt, ltL, AObj.lt, finE, sevalprocAttr, e2]
          refine awp_seq (awp_block (awp_seq (awp_go mixed [] 400 rfl ?_)))
          simp (disch := first | omega | (simp only [ZL] <;> omega)) only [Z, Op.callOf, bslE, nilE, mslE, fadE, AV.cells, AV.isBot, AV.one, AV.flat, flatL, ids1, ids2, idsX, AV.lt, ltL, AObj.lt, finE, sevalprocAttr]
          refine awp_last mixed (z := []) 20 (fun _ h => h) rfl (by kernel_rfl) ?_
          have h2i : (2 : Int) * (i : Int) = ((2 * i : Nat) : Int) := by omega
          have h4i : (4 : Int) + (i : Int) = ((4 + i : Nat) : Int) := by omega
          have h8i : (8 : Int) + (i : Int) = ((8 + i : Nat) : Int) := by omega
          have h12i : (12 : Int) + (i : Int) = ((12 + i : Nat) : Int) := by omega
          have i4 : i < 4 := by omega
          have w1 := (rowN_lt r (2 * i) hr' (by omega)).1
          have w2 := (rowN_lt r (2 * i + 1) hr' (by omega)).1
          obtain ⟨q, hq⟩ : ∃ q, 8 - i = q + 1 := ⟨7 - i, by omega⟩
          rw [hq, innerR, stepS, if_pos i4] at hI
          simp (disch := first | omega | (simp only [ZL] <;> omega)) only [Z, Op.callOf, bslE, nilE, mslE, fadE, AV.cells, AV.isBot, AV.one, AV.flat, flatL, ids1, ids2, idsX, AV.lt, ltL, AObj.lt, finE, sevalprocAttr, h2i, h4i, h8i, h12i]
          refine callD_pure (row_c r (2 * i) hr' (by omega)) (by simp [ltL, AV.lt]) ?_
          simp (disch := first | omega | (simp only [ZL] <;> omega)) only [Z, Op.callOf, bslE, nilE, mslE, fadE, AV.cells, AV.isBot, AV.one, AV.flat, flatL, ids1, ids2, idsX, AV.lt, ltL, AObj.lt, finE, sevalprocAttr, h2i, h4i, h8i, h12i, i64_add1, Nat.mul_one, e32_len, e32_get]
          refine callD_pure (row_c r (2 * i + 1) hr' (by omega)) (by simp [ltL, AV.lt]) ?_
          simp (disch := first | omega | (simp only [ZL] <;> omega)) only [Z, Op.callOf, bslE, nilE, mslE, fadE, AV.cells, AV.isBot, AV.one, AV.flat, flatL, ids1, ids2, idsX, AV.lt, ltL, AObj.lt, finE, sevalprocAttr, h2i, h4i, h8i, h12i, i64_add1, Nat.mul_one, e32_len, e32_get]
          refine ⟨by kernel_rfl, ?_⟩
          refine callL_box (mixb_c u i (4 + i) (8 + i) (12 + i) _ _ hu (by omega) (by omega) (by omega) (by omega)) (by simp [ltL, AV.lt]) (by rw [e32_lt]; trivial) (by rw [e32_lt]; trivial) (by simp [upd]) (by simp) rfl ?_
          simp (disch := first | omega | (simp only [ZL] <;> omega)) only [Z, Op.callOf, bslE, nilE, mslE, fadE, AV.cells, AV.isBot, AV.one, AV.flat, flatL, ids1, ids2, idsX, AV.lt, ltL, AObj.lt, finE, sevalprocAttr, blkQ_n]
          refine awp_go mixed [] 400 rfl ?_
          simp (disch := first | omega | (simp only [ZL] <;> omega)) only [Z, Op.callOf, bslE, nilE, mslE, fadE, AV.cells, AV.isBot, AV.one, AV.flat, flatL, ids1, ids2, idsX, AV.lt, ltL, AObj.lt, finE, sevalprocAttr, KQ_fin_n]
          refine finR_of (i + 1, mixS u i (4 + i) (8 + i) (12 + i) ((wordsS block).getD (rowN r (2 * i)) 0) ((wordsS block).getD (rowN r (2 * i + 1)) 0)) ⟨by dsimp only; omega, by rw [mix_len]; exact hu, ?_⟩ (by dsimp only; omega) ?_
          · dsimp only
            rw [show 8 - (i + 1) = q by omega]; exact hI
          · refine less_mk (by simp) (by simp) ?_ ?_ <;> simp (disch := first | omega | (simp only [ZL] <;> omega)) only [Z, Op.callOf, bslE, nilE, mslE, fadE, AV.cells, AV.isBot, AV.one, AV.flat, flatL, ids1, ids2, idsX, AV.lt, ltL, AObj.lt, finE, sevalprocAttr, e32_lt, i64_add1]
        · refine awp_seq (awp_go mixed [] 400 rfl ?_)
          simp (disch := first | omega | (simp only [ZL] <;> omega)) only [Z, Op.callOf, bslE, nilE, mslE, fadE, AV.cells, AV.isBot, AV.one, AV.flat, flatL, ids1, ids2, idsX, AV.lt, ltL, AObj.lt, finE, sevalprocAttr, e2, KQ_fin_e]
          refine KQ_exit mixed [] 400 rfl ?_
          simp (disch := first | omega | (simp only [ZL] <;> omega)) only [Z, Op.callOf, bslE, nilE, mslE, fadE, AV.cells, AV.isBot, AV.one, AV.flat, flatL, ids1, ids2, idsX, AV.lt, ltL, AObj.lt, finE, sevalprocAttr]
          have i4 : i = 4 := by omega
          subst i4
          refine loopA (fun p : Nat × List UInt32 => mk [(4, .ptr 0 0), (8, .ptr 1 0), (9, .ptr 2 0), (11, .ptr 4 0), (53, .int .i64 r), (13, .int .i64 r), (81, .int .i64 p.1)]
              [(0, .box (e32 h)), (1, .box (e32 (List.replicate 8 0))), (2, .box (e32 (wordsS block))), (4, .box (e32 p.2))] 5)
            (fun p => p.1 ≤ 4 ∧ p.2.length = 16 ∧ innerR (wordsS block) r (4 - p.1) (4 + p.1) p.2 = innerR (wordsS block) r 8 0 v) (fun p => 4 - p.1) (0, u) ⟨by simp, hu, hI⟩ ?_ ?_
          · refine less_mk (by simp) (by simp) ?_ ?_ <;> simp (disch := first | omega | (simp only [ZL] <;> omega)) only [Z, Op.callOf, bslE, nilE, mslE, fadE, AV.cells, AV.isBot, AV.one, AV.flat, flatL, ids1, ids2, idsX, AV.lt, ltL, AObj.lt, finE, sevalprocAttr, e32_lt]
          clear hI hu hi u
          rintro ⟨i, u⟩ ⟨hi, hu, hI⟩
          dsimp only at hi hu hI
          refine awp_seq (awp_go mixed [] 400 rfl ?_)
          simp (disch := first | omega | (simp only [ZL] <;> omega)) only [Z, Op.callOf, bslE, nilE, mslE, fadE, AV.cells, AV.isBot, AV.one, AV.flat, flatL, ids1, ids2, idsX, AV.lt, ltL, AObj.lt, finE, sevalprocAttr]
          by_cases e2 : (i : Int) < 4
          · refine awp_seq (awp_go mixed [] 400 rfl ?_)
            simp (disch := first | omega | (simp only [ZL] <;> omega)) only [Z, Op.callOf, bslE, nilE, mslE, fadE, AV.cells, AV.isBot, AV.one, AV.flat, flatL, ids1, ids2, idsX, AV.lt, ltL, AObj.lt, finE, sevalprocAttr, e2]
            refine awp_seq (awp_block (awp_seq (awp_go mixed [] 400 rfl ?_)))
            simp (disch := first | omega | (simp only [ZL] <;> omega)) only [Z, Op.callOf, bslE, nilE, mslE, fadE, AV.cells, AV.isBot, AV.one, AV.flat, flatL, ids1, ids2, idsX, AV.lt, ltL, AObj.lt, finE, sevalprocAttr]
            refine awp_last mixed (z := []) 27 (fun _ h => h) rfl (by kernel_rfl) ?_
            have i4 : i < 4 := by omega
            have w1 := (rowN_lt r (8 + 2 * i) hr' (by omega)).1
            have w2 := (rowN_lt r (9 + 2 * i) hr' (by omega)).1
            obtain ⟨q, hq⟩ : ∃ q, 4 - i = q + 1 := ⟨3 - i, by omega⟩
            have hst : stepS (wordsS block) r (4 + i) u = mixS u i (4 + (i + 1) % 4) (8 + (i + 2) % 4) (12 + (i + 3) % 4) ((wordsS block).getD (rowN r (8 + 2 * i)) 0) ((wordsS block).getD (rowN r (9 + 2 * i)) 0) := by
              unfold stepS
              rw [if_neg (by omega), show 4 + i - 4 = i by omega, show 2 * (4 + i) = 8 + 2 * i by omega, show 8 + 2 * i + 1 = 9 + 2 * i by omega]
            rw [hq, innerR, hst] at hI
            simp (disch := first | omega | (simp only [ZL] <;> omega)) only [Z, Op.callOf, bslE, nilE, mslE, fadE, AV.cells, AV.isBot, AV.one, AV.flat, flatL, ids1, ids2, idsX, AV.lt, ltL, AObj.lt, finE, sevalprocAttr, dg2, dg_a, dg_b, dg_c, dg_1, dg_2, dg_3, dg_m, dg_9]
            refine callD_pure (row_c r (8 + 2 * i) hr' (by omega)) (by simp [ltL, AV.lt]) ?_
            simp (disch := first | omega | (simp only [ZL] <;> omega)) only [Z, Op.callOf, bslE, nilE, mslE, fadE, AV.cells, AV.isBot, AV.one, AV.flat, flatL, ids1, ids2, idsX, AV.lt, ltL, AObj.lt, finE, sevalprocAttr, dg2, dg_a, dg_b, dg_c, dg_1, dg_2, dg_3, dg_m, dg_9, Nat.mul_one, e32_len, e32_get]
            refine callD_pure (row_c r (9 + 2 * i) hr' (by omega)) (by simp [ltL, AV.lt]) ?_
            simp (disch := first | omega | (simp only [ZL] <;> omega)) only [Z, Op.callOf, bslE, nilE, mslE, fadE, AV.cells, AV.isBot, AV.one, AV.flat, flatL, ids1, ids2, idsX, AV.lt, ltL, AObj.lt, finE, sevalprocAttr, dg2, dg_a, dg_b, dg_c, dg_1, dg_2, dg_3, dg_m, dg_9, Nat.mul_one, e32_len, e32_get]
            refine ⟨by kernel_rfl, ?_⟩
            refine callL_box (mixb_c u i (4 + (i + 1) % 4) (8 + (i + 2) % 4) (12 + (i + 3) % 4) _ _ hu (by omega) (by omega) (by omega) (by omega)) (by simp [ltL, AV.lt]) (by rw [e32_lt]; trivial) (by rw [e32_lt]; trivial) (by simp [upd]) (by simp) rfl ?_
            simp (disch := first | omega | (simp only [ZL] <;> omega)) only [Z, Op.callOf, bslE, nilE, mslE, fadE, AV.cells, AV.isBot, AV.one, AV.flat, flatL, ids1, ids2, idsX, AV.lt, ltL, AObj.lt, finE, sevalprocAttr, blkQ_n]
            refine awp_go mixed [] 400 rfl ?_
            simp (disch := first | omega | (simp only [ZL] <;> omega)) only [Z, Op.callOf, bslE, nilE, mslE, fadE, AV.cells, AV.isBot, AV.one, AV.flat, flatL, ids1, ids2, idsX, AV.lt, ltL, AObj.lt, finE, sevalprocAttr, KQ_fin_n]
            refine finR_of (i + 1, mixS u i (4 + (i + 1) % 4) (8 + (i + 2) % 4) (12 + (i + 3) % 4) ((wordsS block).getD (rowN r (8 + 2 * i)) 0) ((wordsS block).getD (rowN r (9 + 2 * i)) 0)) ⟨by dsimp only; omega, by rw [mix_len]; exact hu, ?_⟩ (by dsimp only; omega) ?_
            · dsimp only
              rw [show 4 - (i + 1) = q by omega, show 4 + (i + 1) = 4 + i + 1 by omega]; exact hI
            · refine less_mk (by simp) (by simp) ?_ ?_ <;> simp (disch := first | omega | (simp only [ZL] <;> omega)) only [Z, Op.callOf, bslE, nilE, mslE, fadE, AV.cells, AV.isBot, AV.one, AV.flat, flatL, ids1, ids2, idsX, AV.lt, ltL, AObj.lt, finE, sevalprocAttr, e32_lt, i64_add1]
          · refine awp_seq (awp_go mixed [] 400 rfl ?_)
            simp (disch := first | omega | (simp only [ZL] <;> omega)) only [Z, Op.callOf, bslE, nilE, mslE, fadE, AV.cells, AV.isBot, AV.one, AV.flat, flatL, ids1, ids2, idsX, AV.lt, ltL, AObj.lt, finE, sevalprocAttr, e2, KQ_fin_e]
            refine KQ_exit mixed [] 400 rfl ?_
            have i4 : i = 4 := by omega
            subst i4
            rw [Nat.sub_self, innerR] at hI
            simp (disch := first | omega | (simp only [ZL] <;> omega)) only [Z, Op.callOf, bslE, nilE, mslE, fadE, AV.cells, AV.isBot, AV.one, AV.flat, flatL, ids1, ids2, idsX, AV.lt, ltL, AObj.lt, finE, sevalprocAttr]
            refine finR_of (r + 1, u) ⟨by dsimp only; omega, hu, ?_⟩ (by dsimp only; omega) ?_
            · dsimp only
              rw [show 10 - (r + 1) = m10 by omega, hI]; exact hJ
            · refine less_mk (by simp) (by simp) ?_ ?_ <;> simp (disch := first | omega | (simp only [ZL] <;> omega)) only [Z, Op.callOf, bslE, nilE, mslE, fadE, AV.cells, AV.isBot, AV.one, AV.flat, flatL, ids1, ids2, idsX, AV.lt, ltL, AObj.lt, finE, sevalprocAttr, e32_lt, i64_add1]
      · have hr10 : r = 10 := by omega
        subst hr10
        rw [Nat.sub_self, outerR] at hJ
        simp (disch := first | omega | (simp only [ZL] <;> omega)) only [Z, Op.callOf, bslE, nilE, mslE, fadE, AV.cells, AV.isBot, AV.one, AV.flat, flatL, ids1, ids2, idsX, AV.lt, ltL, AObj.lt, finE, sevalprocAttr]
        have ht : ∀ i, i < 8 → (takeS h block count last).getD i 0 = h.getD i 0 ^^^ (v.getD i 0 ^^^ v.getD (i + 8) 0) := by
          intro i hi
          rw [hJ]
          simp [takeS, List.getD, hi]
        have htl := take_len h block count last
        generalize takeS h block count last = T at ht htl ⊢
        clear hJ hs16
        refine loopF mixed (fun p : Nat × List UInt32 => mk [(4, .ptr 0 0), (8, .ptr 1 0), (11, .ptr 4 0), (114, .int .i64 p.1)]
            [(0, .box (e32 p.2)), (1, .box (e32 (List.replicate 8 0))), (4, .box (e32 v))] 5)
          (fun p => p.1 ≤ 8 ∧ p.2.length = 8 ∧ (∀ i, i < p.1 → p.2.getD i 0 = T.getD i 0) ∧ ∀ i, p.1 ≤ i → p.2.getD i 0 = h.getD i 0) (fun p => 8 - p.1) (0, h) 400 rfl rfl ⟨by simp, hh, by intro i hi; omega, fun _ _ => rfl⟩ ?_ ?_
        · refine less_mk (by simp) (by simp) ?_ ?_ <;> simp (disch := first | omega | (simp only [ZL] <;> omega)) only [Z, Op.callOf, bslE, nilE, mslE, fadE, AV.cells, AV.isBot, AV.one, AV.flat, flatL, ids1, ids2, idsX, AV.lt, ltL, AObj.lt, finE, sevalprocAttr, e32_lt]
        rintro ⟨k, g⟩ ⟨hk, hgl, ha, hb2⟩
        dsimp only at hk hgl ha hb2
        simp (disch := first | omega | (simp only [ZL] <;> omega)) only [Z, Op.callOf, bslE, nilE, mslE, fadE, AV.cells, AV.isBot, AV.one, AV.flat, flatL, ids1, ids2, idsX, AV.lt, ltL, AObj.lt, finE, sevalprocAttr]
        refine condG_p (fun e => ?_) (fun e => ?_)
        · have hk' : k < 8 := by omega
          simp (disch := first | omega | (simp only [ZL] <;> omega)) only [Z, Op.callOf, bslE, nilE, mslE, fadE, AV.cells, AV.isBot, AV.one, AV.flat, flatL, ids1, ids2, idsX, AV.lt, ltL, AObj.lt, finE, sevalprocAttr, dg_8, Nat.mul_one, e32_len, e32_get, e32_set]
          refine okK_of (by kernel_rfl) ?_
          simp (disch := first | omega | (simp only [ZL] <;> omega)) only [Z, Op.callOf, bslE, nilE, mslE, fadE, AV.cells, AV.isBot, AV.one, AV.flat, flatL, ids1, ids2, idsX, AV.lt, ltL, AObj.lt, finE, sevalprocAttr, dg_8, Nat.mul_one, e32_len, e32_get, e32_set]
          refine finR_of (k + 1, g.set k (g.getD k 0 ^^^ (v.getD k 0 ^^^ v.getD (k + 8) 0))) ⟨by dsimp only; omega, by simpa using hgl, fun i hi => ?_, fun i hi => ?_⟩ (by dsimp only; omega) ?_
          · dsimp only at hi ⊢
            by_cases ei : k = i
            · subst ei
              rw [getD_set_eq _ _ _ (by omega), ht _ hk', hb2 _ (Nat.le_refl _)]
            · rw [getD_set_ne32 _ _ _ _ ei]; exact ha i (by omega)
          · dsimp only at hi ⊢
            rw [getD_set_ne32 _ _ _ _ (by omega)]; exact hb2 i (by omega)
          · refine less_mk (by simp) (by simp) ?_ ?_ <;> simp (disch := first | omega | (simp only [ZL] <;> omega)) only [Z, Op.callOf, bslE, nilE, mslE, fadE, AV.cells, AV.isBot, AV.one, AV.flat, flatL, ids1, ids2, idsX, AV.lt, ltL, AObj.lt, finE, sevalprocAttr, e32_lt, i64_add1]
        · have hgT : g = T := list_ext16 _ _ 8 hgl htl fun i hi => ha i (by omega)
          subst hgT
          have s8 : ∀ l : List UInt32, l.length = 8 → setL (e32 l) 0 (e32 g) = e32 g := fun l hl => setL_0 _ _ (by rw [e32_len, e32_len, hl, hgl])
          simp (disch := first | omega | (simp only [ZL] <;> omega)) only [Z, Op.callOf, bslE, nilE, mslE, fadE, AV.cells, AV.isBot, AV.one, AV.flat, flatL, ids1, ids2, idsX, AV.lt, ltL, AObj.lt, finE, sevalprocAttr, e32_len, hgl, e32_tk8, e32_one, s8, frzM_e32, e32_lt]
          repeat' first | exact Sub.rfl' _ | exact sub_nils _ | exact SubL.nil | refine sub_tup ?_ | refine sub_agg ?_ | refine SubL.cons ?_ ?_
    · simp (disch := first | omega | (simp only [ZL] <;> omega)) only [Z, Op.callOf, bslE, nilE, mslE, fadE, AV.cells, AV.isBot, AV.one, AV.flat, flatL, ids1, ids2, idsX, AV.lt, ltL, AObj.lt, finE, sevalprocAttr, e32_len, h8, hh, Nat.mul_one, e32_get, e32_set, List.length_append, List.length_set, v32_not]
      have hm16 := words_len block
      have hs16 := start_len h count last hh
      refine loopF mixed (fun p : Nat × List UInt32 => mk [(4, .ptr 0 0), (8, .ptr 1 0), (9, .ptr 2 0), (11, .ptr 4 0), (53, .int .i64 p.1)]
          [(0, .box (e32 h)), (1, .box (e32 (List.replicate 8 0))), (2, .box (e32 (wordsS block))), (4, .box (e32 p.2))] 5)
        (fun p => p.1 ≤ 10 ∧ p.2.length = 16 ∧ outerR (wordsS block) (10 - p.1) p.1 p.2 = outerR (wordsS block) 10 0 (startV h count last)) (fun p => 10 - p.1) (0, startV h count last) 400 rfl rfl ⟨by simp, hs16, rfl⟩ ?_ ?_
      · refine less_mk (by simp) (by simp) ?_ ?_ <;> simp (disch := first | omega | (simp only [ZL] <;> omega)) only [Z, Op.callOf, bslE, nilE, mslE, fadE, AV.cells, AV.isBot, AV.one, AV.flat, flatL, ids1, ids2, idsX, AV.lt, ltL, AObj.lt, finE, sevalprocAttr, e32_lt]
        subst e1
        rfl
      rintro ⟨r, v⟩ ⟨hr, hv, hJ⟩
      dsimp only at hr hv hJ
      simp (disch := first | omega | (simp only [ZL] <;> omega)) only [Z, Op.callOf, bslE, nilE, mslE, fadE, AV.cells, AV.isBot, AV.one, AV.flat, flatL, ids1, ids2, idsX, AV.lt, ltL, AObj.lt, finE, sevalprocAttr]
      refine condG_p (fun e => ?_) (fun e => ?_)
      · have hr' : r < 10 := by omega
        obtain ⟨m10, hm10⟩ : ∃ m, 10 - r = m + 1 := ⟨9 - r, by omega⟩
        rw [hm10, outerR] at hJ
        simp (disch := first | omega | (simp only [ZL] <;> omega)) only [Z, Op.callOf, bslE, nilE, mslE, fadE, AV.cells, AV.isBot, AV.one, AV.flat, flatL, ids1, ids2, idsX, AV.lt, ltL, AObj.lt, finE, sevalprocAttr]
        refine loopA (fun p : Nat × List UInt32 => mk [(4, .ptr 0 0), (8, .ptr 1 0), (9, .ptr 2 0), (11, .ptr 4 0), (53, .int .i64 r), (13, .int .i64 r), (56, .int .i64 p.1)]
            [(0, .box (e32 h)), (1, .box (e32 (List.replicate 8 0))), (2, .box (e32 (wordsS block))), (4, .box (e32 p.2))] 5)
          (fun p => p.1 ≤ 4 ∧ p.2.length = 16 ∧ innerR (wordsS block) r (8 - p.1) p.1 p.2 = innerR (wordsS block) r 8 0 v) (fun p => 4 - p.1) (0, v) ⟨by simp, hv, rfl⟩ ?_ ?_
        · refine less_mk (by simp) (by simp) ?_ ?_ <;> simp (disch := first | omega | (simp only [ZL] <;> omega)) only [Z, Op.callOf, bslE, nilE, mslE, fadE, AV.cells, AV.isBot, AV.one, AV.flat, flatL, ids1, ids2, idsX, AV.lt, ltL, AObj.lt, finE, sevalprocAttr, e32_lt]
        rintro ⟨i, u⟩ ⟨hi, hu, hI⟩
        dsimp only at hi hu hI
        refine awp_seq (awp_go mixed [] 400 rfl ?_)
        simp (disch := first | omega | (simp only [ZL] <;> omega)) only [Z, Op.callOf, bslE, nilE, mslE, fadE, AV.cells, AV.isBot, AV.one, AV.flat, flatL, ids1, ids2, idsX, AV.lt, ltL, AObj.lt, finE, sevalprocAttr]
        by_cases e2 : (i : Int) < 4
        · refine awp_seq (awp_go mixed [] 400 rfl ?_)
          simp (disch := first | omega | (simp only [ZL] <;> omega)) only [Z, Op.callOf, bslE, nilE, mslE, fadE, AV.cells, AV.isBot, AV.one, AV.flat, flatL, ids1, ids2, idsX, AV.lt, ltL, AObj.lt, finE, sevalprocAttr, e2]
          refine awp_seq (awp_block (awp_seq (awp_go mixed [] 400 rfl ?_)))
          simp (disch := first | omega | (simp only [ZL] <;> omega)) only [Z, Op.callOf, bslE, nilE, mslE, fadE, AV.cells, AV.isBot, AV.one, AV.flat, flatL, ids1, ids2, idsX, AV.lt, ltL, AObj.lt, finE, sevalprocAttr]
          refine awp_last mixed (z := []) 20 (fun _ h => h) rfl (by kernel_rfl) ?_
          have h2i : (2 : Int) * (i : Int) = ((2 * i : Nat) : Int) := by omega
          have h4i : (4 : Int) + (i : Int) = ((4 + i : Nat) : Int) := by omega
          have h8i : (8 : Int) + (i : Int) = ((8 + i : Nat) : Int) := by omega
          have h12i : (12 : Int) + (i : Int) = ((12 + i : Nat) : Int) := by omega
          have i4 : i < 4 := by omega
          have w1 := (rowN_lt r (2 * i) hr' (by omega)).1
          have w2 := (rowN_lt r (2 * i + 1) hr' (by omega)).1
          obtain ⟨q, hq⟩ : ∃ q, 8 - i = q + 1 := ⟨7 - i, by omega⟩
          rw [hq, innerR, stepS, if_pos i4] at hI
          simp (disch := first | omega | (simp only [ZL] <;> omega)) only [Z, Op.callOf, bslE, nilE, mslE, fadE, AV.cells, AV.isBot, AV.one, AV.flat, flatL, ids1, ids2, idsX, AV.lt, ltL, AObj.lt, finE, sevalprocAttr, h2i, h4i, h8i, h12i]
          refine callD_pure (row_c r (2 * i) hr' (by omega)) (by simp [ltL, AV.lt]) ?_
          simp (disch := first | omega | (simp only [ZL] <;> omega)) only [Z, Op.callOf, bslE, nilE, mslE, fadE, AV.cells, AV.isBot, AV.one, AV.flat, flatL, ids1, ids2, idsX, AV.lt, ltL, AObj.lt, finE, sevalprocAttr, h2i, h4i, h8i, h12i, i64_add1, Nat.mul_one, e32_len, e32_get]
          refine callD_pure (row_c r (2 * i + 1) hr' (by omega)) (by simp [ltL, AV.lt]) ?_
          simp (disch := first | omega | (simp only [ZL] <;> omega)) only [Z, Op.callOf, bslE, nilE, mslE, fadE, AV.cells, AV.isBot, AV.one, AV.flat, flatL, ids1, ids2, idsX, AV.lt, ltL, AObj.lt, finE, sevalprocAttr, h2i, h4i, h8i, h12i, i64_add1, Nat.mul_one, e32_len, e32_get]
          refine ⟨by kernel_rfl, ?_⟩
          refine callL_box (mixb_c u i (4 + i) (8 + i) (12 + i) _ _ hu (by omega) (by omega) (by omega) (by omega)) (by simp [ltL, AV.lt]) (by rw [e32_lt]; trivial) (by rw [e32_lt]; trivial) (by simp [upd]) (by simp) rfl ?_
          simp (disch := first | omega | (simp only [ZL] <;> omega)) only [Z, Op.callOf, bslE, nilE, mslE, fadE, AV.cells, AV.isBot, AV.one, AV.flat, flatL, ids1, ids2, idsX, AV.lt, ltL, AObj.lt, finE, sevalprocAttr, blkQ_n]
          refine awp_go mixed [] 400 rfl ?_
          simp (disch := first | omega | (simp only [ZL] <;> omega)) only [Z, Op.callOf, bslE, nilE, mslE, fadE, AV.cells, AV.isBot, AV.one, AV.flat, flatL, ids1, ids2, idsX, AV.lt, ltL, AObj.lt, finE, sevalprocAttr, KQ_fin_n]
          refine finR_of (i + 1, mixS u i (4 + i) (8 + i) (12 + i) ((wordsS block).getD (rowN r (2 * i)) 0) ((wordsS block).getD (rowN r (2 * i + 1)) 0)) ⟨by dsimp only; omega, by rw [mix_len]; exact hu, ?_⟩ (by dsimp only; omega) ?_
          · dsimp only
            rw [show 8 - (i + 1) = q by omega]; exact hI
          · refine less_mk (by simp) (by simp) ?_ ?_ <;> simp (disch := first | omega | (simp only [ZL] <;> omega)) only [Z, Op.callOf, bslE, nilE, mslE, fadE, AV.cells, AV.isBot, AV.one, AV.flat, flatL, ids1, ids2, idsX, AV.lt, ltL, AObj.lt, finE, sevalprocAttr, e32_lt, i64_add1]
        · refine awp_seq (awp_go mixed [] 400 rfl ?_)
          simp (disch := first | omega | (simp only [ZL] <;> omega)) only [Z, Op.callOf, bslE, nilE, mslE, fadE, AV.cells, AV.isBot, AV.one, AV.flat, flatL, ids1, ids2, idsX, AV.lt, ltL, AObj.lt, finE, sevalprocAttr, e2, KQ_fin_e]
          refine KQ_exit mixed [] 400 rfl ?_
          simp (disch := first | omega | (simp only [ZL] <;> omega)) only [Z, Op.callOf, bslE, nilE, mslE, fadE, AV.cells, AV.isBot, AV.one, AV.flat, flatL, ids1, ids2, idsX, AV.lt, ltL, AObj.lt, finE, sevalprocAttr]
          have i4 : i = 4 := by omega
          subst i4
          refine loopA (fun p : Nat × List UInt32 => mk [(4, .ptr 0 0), (8, .ptr 1 0), (9, .ptr 2 0), (11, .ptr 4 0), (53, .int .i64 r), (13, .int .i64 r), (81, .int .i64 p.1)]
              [(0, .box (e32 h)), (1, .box (e32 (List.replicate 8 0))), (2, .box (e32 (wordsS block))), (4, .box (e32 p.2))] 5)
            (fun p => p.1 ≤ 4 ∧ p.2.length = 16 ∧ innerR (wordsS block) r (4 - p.1) (4 + p.1) p.2 = innerR (wordsS block) r 8 0 v) (fun p => 4 - p.1) (0, u) ⟨by simp, hu, hI⟩ ?_ ?_
          · refine less_mk (by simp) (by simp) ?_ ?_ <;> simp (disch := first | omega | (simp only [ZL] <;> omega)) only [Z, Op.callOf, bslE, nilE, mslE, fadE, AV.cells, AV.isBot, AV.one, AV.flat, flatL, ids1, ids2, idsX, AV.lt, ltL, AObj.lt, finE, sevalprocAttr, e32_lt]
          clear hI hu hi u
          rintro ⟨i, u⟩ ⟨hi, hu, hI⟩
          dsimp only at hi hu hI
          refine awp_seq (awp_go mixed [] 400 rfl ?_)
          simp (disch := first | omega | (simp only [ZL] <;> omega)) only [Z, Op.callOf, bslE, nilE, mslE, fadE, AV.cells, AV.isBot, AV.one, AV.flat, flatL, ids1, ids2, idsX, AV.lt, ltL, AObj.lt, finE, sevalprocAttr]
          by_cases e2 : (i : Int) < 4
          · refine awp_seq (awp_go mixed [] 400 rfl ?_)
            simp (disch := first | omega | (simp only [ZL] <;> omega)) only [Z, Op.callOf, bslE, nilE, mslE, fadE, AV.cells, AV.isBot, AV.one, AV.flat, flatL, ids1, ids2, idsX, AV.lt, ltL, AObj.lt, finE, sevalprocAttr, e2]
            refine awp_seq (awp_block (awp_seq (awp_go mixed [] 400 rfl ?_)))
            simp (disch := first | omega | (simp only [ZL] <;> omega)) only [Z, Op.callOf, bslE, nilE, mslE, fadE, AV.cells, AV.isBot, AV.one, AV.flat, flatL, ids1, ids2, idsX, AV.lt, ltL, AObj.lt, finE, sevalprocAttr]
            refine awp_last mixed (z := []) 27 (fun _ h => h) rfl (by kernel_rfl) ?_
            have i4 : i < 4 := by omega
            have w1 := (rowN_lt r (8 + 2 * i) hr' (by omega)).1
            have w2 := (rowN_lt r (9 + 2 * i) hr' (by omega)).1
            obtain ⟨q, hq⟩ : ∃ q, 4 - i = q + 1 := ⟨3 - i, by omega⟩
            have hst : stepS (wordsS block) r (4 + i) u = mixS u i (4 + (i + 1) % 4) (8 + (i + 2) % 4) (12 + (i + 3) % 4) ((wordsS block).getD (rowN r (8 + 2 * i)) 0) ((wordsS block).getD (rowN r (9 + 2 * i)) 0) := by
              unfold stepS
              rw [if_neg (by omega), show 4 + i - 4 = i by omega, show 2 * (4 + i) = 8 + 2 * i by omega, show 8 + 2 * i + 1 = 9 + 2 * i by omega]
            rw [hq, innerR, hst] at hI
            simp (disch := first | omega | (simp only [ZL] <;> omega)) only [Z, Op.callOf, bslE, nilE, mslE, fadE, AV.cells, AV.isBot, AV.one, AV.flat, flatL, ids1, ids2, idsX, AV.lt, ltL, AObj.lt, finE, sevalprocAttr, dg2, dg_a, dg_b, dg_c, dg_1, dg_2, dg_3, dg_m, dg_9]
            refine callD_pure (row_c r (8 + 2 * i) hr' (by omega)) (by simp [ltL, AV.lt]) ?_
            simp (disch := first | omega | (simp only [ZL] <;> omega)) only [Z, Op.callOf, bslE, nilE, mslE, fadE, AV.cells, AV.isBot, AV.one, AV.flat, flatL, ids1, ids2, idsX, AV.lt, ltL, AObj.lt, finE, sevalprocAttr, dg2, dg_a, dg_b, dg_c, dg_1, dg_2, dg_3, dg_m, dg_9, Nat.mul_one, e32_len, e32_get]
            refine callD_pure (row_c r (9 + 2 * i) hr' (by omega)) (by simp [ltL, AV.lt]) ?_
            simp (disch := first | omega | (simp only [ZL] <;> omega)) only [Z, Op.callOf, bslE, nilE, mslE, fadE, AV.cells, AV.isBot, AV.one, AV.flat, flatL, ids1, ids2, idsX, AV.lt, ltL, AObj.lt, finE, sevalprocAttr, dg2, dg_a, dg_b, dg_c, dg_1, dg_2, dg_3, dg_m, dg_9, Nat.mul_one, e32_len, e32_get]
            refine ⟨by kernel_rfl, ?_⟩
            refine callL_box (mixb_c u i (4 + (i + 1) % 4) (8 + (i + 2) % 4) (12 + (i + 3) % 4) _ _ hu (by omega) (by omega) (by omega) (by omega)) (by simp [ltL, AV.lt]) (by rw [e32_lt]; trivial) (by rw [e32_lt]; trivial) (by simp [upd]) (by simp) rfl ?_
            simp (disch := first | omega | (simp only [ZL] <;> omega)) only [Z, Op.callOf, bslE, nilE, mslE, fadE, AV.cells, AV.isBot, AV.one, AV.flat, flatL, ids1, ids2, idsX, AV.lt, ltL, AObj.lt, finE, sevalprocAttr, blkQ_n]
            refine awp_go mixed [] 400 rfl ?_
            simp (disch := first | omega | (simp only [ZL] <;> omega)) only [Z, Op.callOf, bslE, nilE, mslE, fadE, AV.cells, AV.isBot, AV.one, AV.flat, flatL, ids1, ids2, idsX, AV.lt, ltL, AObj.lt, finE, sevalprocAttr, KQ_fin_n]
            refine finR_of (i + 1, mixS u i (4 + (i + 1) % 4) (8 + (i + 2) % 4) (12 + (i + 3) % 4) ((wordsS block).getD (rowN r (8 + 2 * i)) 0) ((wordsS block).getD (rowN r (9 + 2 * i)) 0)) ⟨by dsimp only; omega, by rw [mix_len]; exact hu, ?_⟩ (by dsimp only; omega) ?_
            · dsimp only
              rw [show 4 - (i + 1) = q by omega, show 4 + (i + 1) = 4 + i + 1 by omega]; exact hI
            · refine less_mk (by simp) (by simp) ?_ ?_ <;> simp (disch := first | omega | (simp only [ZL] <;> omega)) only [Z, Op.callOf, bslE, nilE, mslE, fadE, AV.cells, AV.isBot, AV.one, AV.flat, flatL, ids1, ids2, idsX, AV.lt, ltL, AObj.lt, finE, sevalprocAttr, e32_lt, i64_add1]
          · refine awp_seq (awp_go mixed [] 400 rfl ?_)
            simp (disch := first | omega | (simp only [ZL] <;> omega)) only [Z, Op.callOf, bslE, nilE, mslE, fadE, AV.cells, AV.isBot, AV.one, AV.flat, flatL, ids1, ids2, idsX, AV.lt, ltL, AObj.lt, finE, sevalprocAttr, e2, KQ_fin_e]
            refine KQ_exit mixed [] 400 rfl ?_
            have i4 : i = 4 := by omega
            subst i4
            rw [Nat.sub_self, innerR] at hI
            simp (disch := first | omega | (simp only [ZL] <;> omega)) only [Z, Op.callOf, bslE, nilE, mslE, fadE, AV.cells, AV.isBot, AV.one, AV.flat, flatL, ids1, ids2, idsX, AV.lt, ltL, AObj.lt, finE, sevalprocAttr]
            refine finR_of (r + 1, u) ⟨by dsimp only; omega, hu, ?_⟩ (by dsimp only; omega) ?_
            · dsimp only
              rw [show 10 - (r + 1) = m10 by omega, hI]; exact hJ
            · refine less_mk (by simp) (by simp) ?_ ?_ <;> simp (disch := first | omega | (simp only [ZL] <;> omega)) only [Z, Op.callOf, bslE, nilE, mslE, fadE, AV.cells, AV.isBot, AV.one, AV.flat, flatL, ids1, ids2, idsX, AV.lt, ltL, AObj.lt, finE, sevalprocAttr, e32_lt, i64_add1]
      · have hr10 : r = 10 := by omega
        subst hr10
        rw [Nat.sub_self, outerR] at hJ
        simp (disch := first | omega | (simp only [ZL] <;> omega)) only [Z, Op.callOf, bslE, nilE, mslE, fadE, AV.cells, AV.isBot, AV.one, AV.flat, flatL, ids1, ids2, idsX, AV.lt, ltL, AObj.lt, finE, sevalprocAttr]
        have ht : ∀ i, i < 8 → (takeS h block count last).getD i 0 = h.getD i 0 ^^^ (v.getD i 0 ^^^ v.getD (i + 8) 0) := by
          intro i hi
          rw [hJ]
          simp [takeS, List.getD, hi]
        have htl := take_len h block count last
        generalize takeS h block count last = T at ht htl ⊢
        clear hJ hs16
        refine loopF mixed (fun p : Nat × List UInt32 => mk [(4, .ptr 0 0), (8, .ptr 1 0), (11, .ptr 4 0), (114, .int .i64 p.1)]
            [(0, .box (e32 p.2)), (1, .box (e32 (List.replicate 8 0))), (4, .box (e32 v))] 5)
          (fun p => p.1 ≤ 8 ∧ p.2.length = 8 ∧ (∀ i, i < p.1 → p.2.getD i 0 = T.getD i 0) ∧ ∀ i, p.1 ≤ i → p.2.getD i 0 = h.getD i 0) (fun p => 8 - p.1) (0, h) 400 rfl rfl ⟨by simp, hh, by intro i hi; omega, fun _ _ => rfl⟩ ?_ ?_
        · refine less_mk (by simp) (by simp) ?_ ?_ <;> simp (disch := first | omega | (simp only [ZL] <;> omega)) only [Z, Op.callOf, bslE, nilE, mslE, fadE, AV.cells, AV.isBot, AV.one, AV.flat, flatL, ids1, ids2, idsX, AV.lt, ltL, AObj.lt, finE, sevalprocAttr, e32_lt]
        rintro ⟨k, g⟩ ⟨hk, hgl, ha, hb2⟩
        dsimp only at hk hgl ha hb2
        simp (disch := first | omega | (simp only [ZL] <;> omega)) only [Z, Op.callOf, bslE, nilE, mslE, fadE, AV.cells, AV.isBot, AV.one, AV.flat, flatL, ids1, ids2, idsX, AV.lt, ltL, AObj.lt, finE, sevalprocAttr]
        refine condG_p (fun e => ?_) (fun e => ?_)
        · have hk' : k < 8 := by omega
          simp (disch := first | omega | (simp only [ZL] <;> omega)) only [Z, Op.callOf, bslE, nilE, mslE, fadE, AV.cells, AV.isBot, AV.one, AV.flat, flatL, ids1, ids2, idsX, AV.lt, ltL, AObj.lt, finE, sevalprocAttr, dg_8, Nat.mul_one, e32_len, e32_get, e32_set]
          refine okK_of (by kernel_rfl) ?_
          simp (disch := first | omega | (simp only [ZL] <;> omega)) only [Z, Op.callOf, bslE, nilE, mslE, fadE, AV.cells, AV.isBot, AV.one, AV.flat, flatL, ids1, ids2, idsX, AV.lt, ltL, AObj.lt, finE, sevalprocAttr, dg_8, Nat.mul_one, e32_len, e32_get, e32_set]
          refine finR_of (k + 1, g.set k (g.getD k 0 ^^^ (v.getD k 0 ^^^ v.getD (k + 8) 0))) ⟨by dsimp only; omega, by simpa using hgl, fun i hi => ?_, fun i hi => ?_⟩ (by dsimp only; omega) ?_
          · dsimp only at hi ⊢
            by_cases ei : k = i
            · subst ei
              rw [getD_set_eq _ _ _ (by omega), ht _ hk', hb2 _ (Nat.le_refl _)]
            · rw [getD_set_ne32 _ _ _ _ ei]; exact ha i (by omega)
          · dsimp only at hi ⊢
            rw [getD_set_ne32 _ _ _ _ (by omega)]; exact hb2 i (by omega)
          · refine less_mk (by simp) (by simp) ?_ ?_ <;> simp (disch := first | omega | (simp only [ZL] <;> omega)) only [Z, Op.callOf, bslE, nilE, mslE, fadE, AV.cells, AV.isBot, AV.one, AV.flat, flatL, ids1, ids2, idsX, AV.lt, ltL, AObj.lt, finE, sevalprocAttr, e32_lt, i64_add1]
        · have hgT : g = T := list_ext16 _ _ 8 hgl htl fun i hi => ha i (by omega)
          subst hgT
          have s8 : ∀ l : List UInt32, l.length = 8 → setL (e32 l) 0 (e32 g) = e32 g := fun l hl => setL_0 _ _ (by rw [e32_len, e32_len, hl, hgl])
          simp (disch := first | omega | (simp only [ZL] <;> omega)) only [Z, Op.callOf, bslE, nilE, mslE, fadE, AV.cells, AV.isBot, AV.one, AV.flat, flatL, ids1, ids2, idsX, AV.lt, ltL, AObj.lt, finE, sevalprocAttr, e32_len, hgl, e32_tk8, e32_one, s8, frzM_e32, e32_lt]
          repeat' first | exact Sub.rfl' _ | exact sub_nils _ | exact SubL.nil | refine sub_tup ?_ | refine sub_agg ?_ | refine SubL.cons ?_ ?_
end Go.Ab
