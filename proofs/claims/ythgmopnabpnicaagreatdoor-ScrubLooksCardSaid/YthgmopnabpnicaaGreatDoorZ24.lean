import Derived.Test.YthgmopnabpnicaaGreatDoorZ23
set_option linter.all false
namespace Go.Ab
open Go Go.Proofs
def encOF : Option FT → List AV
  | none => [.bool false, .int .i64 0, .str [], .int .i64 0, .str []]
  | some f => [.bool true, .int .i64 (f.2.1 : Int), .str f.2.2.1, .int .i64 ((f.1 + 1 : Nat) : Int), .str f.2.2.2]
def encOs (l : List (Option FT)) : List (List AV) := l.map encOF
theorem encOs_len (l : List (Option FT)) : (encOs l).length = l.length := by simp [encOs]
theorem encOs_at (l : List (Option FT)) (k : Nat) (h : k < l.length) : (encOs l).getD k [] = encOF l[k] := by simp [encOs, List.getD, h]
theorem encOF_len (f : Option FT) : (encOF f).length = 5 := by cases f <;> rfl
theorem encOF_take (f : Option FT) : (encOF f).take 5 = encOF f := by cases f <;> rfl
theorem encOF_lt (f : Option FT) {n : Nat} : ltL n (encOF f) := by cases f <;> exact ⟨trivial, trivial, trivial, trivial, trivial, trivial⟩
theorem fitR_enc (k : Nat) (o : Option (Nat × List UInt8 × List UInt8)) : fitR k o = encOF (o.map fun p => (k, p)) := by cases o <;> rfl
theorem fitsN_len (name : List UInt8) (l : List Told) (n : Nat) : (fitsN name l n).length = n := by simp [fitsN]
theorem fitsN_snoc (name : List UInt8) (l : List Told) (n : Nat) : encOs (fitsN name l (n + 1)) = encOs (fitsN name l n) ++ [encOF (toldF name n (l.getD n Told.z))] := by rw [fitsN_succ]; simp [encOs]
theorem fitsN_ok (name : List UInt8) (l : List Told) (k : Nat) (h : k < (fitsN name l 5).length) (f : FT) (e : (fitsN name l 5)[k] = some f) : FTok f ∧ f.1 = k := by
  have hk : k < 5 := by rw [fitsN_len] at h; exact h
  refine toldF_ok (name := name) (t := l.getD k Told.z) ?_ hk
  rw [← e]
  simp [fitsN]
variable [Glob]
set_option maxHeartbeats 8000000

theorem rread37_c [LibC] (s : Store) (name : List UInt8) (hl : lok s) (hs : Small s) (hd : ∀ t ∈ (fiveS (getF name) s).2, t.data.length < 2^40) :
    APure Tryz.prog 33 [.agg s.av, .str name] (.tup [.agg (rdS s name).1.av, .str (rdS s name).2.1, .int .i64 (rdS s name).2.2]) := by
  refine apure_fin mixed [129] 400 Tryz.func33 Tryz.ntmps33 Tryz.results33 rfl rfl (by simp) rfl ?_
  simp (disch := first | omega | (simp only [ZL, store_len, shelf_len] <;> omega)) only [Z, Op.callOf, bslE, nilE, mslE, fadE, AV.cells, AV.isBot, AV.one, AV.flat, flatL, ids1, ids2, idsX, AV.lt, ltL, AObj.lt, finE, sevalprocAttr, frzM_store, frzM_shelf, shelf_len, shelf_one, shelf_flat, shelf_lt, shelf_take, shelf_set0, store_len, store_one, store_flat, store_lt, store_left, store_setl, store_get, store_set, store_take, store_set0]
  refine callL_pure (name36_c name) (by simp [ltL, AV.lt, store_lt, shelf_lt]) rfl ?_
  cases c : namedS name
  · simp (disch := first | omega | (simp only [ZL, store_len, shelf_len] <;> omega)) only [Z, Op.callOf, bslE, nilE, mslE, fadE, AV.cells, AV.isBot, AV.one, AV.flat, flatL, ids1, ids2, idsX, AV.lt, ltL, AObj.lt, finE, sevalprocAttr, frzM_store, frzM_shelf, shelf_len, shelf_one, shelf_flat, shelf_lt, shelf_take, shelf_set0, store_len, store_one, store_flat, store_lt, store_left, store_setl, store_get, store_set, store_take, store_set0]
    simp only [rdS, c, if_true]
    repeat' first | exact Sub.rfl' _ | exact sub_nils _ | exact SubL.nil | refine sub_tup ?_ | refine sub_agg ?_ | refine SubL.cons ?_ ?_
  simp (disch := first | omega | (simp only [ZL, store_len, shelf_len] <;> omega)) only [Z, Op.callOf, bslE, nilE, mslE, fadE, AV.cells, AV.isBot, AV.one, AV.flat, flatL, ids1, ids2, idsX, AV.lt, ltL, AObj.lt, finE, sevalprocAttr, frzM_store, frzM_shelf, shelf_len, shelf_one, shelf_flat, shelf_lt, shelf_take, shelf_set0, store_len, store_one, store_flat, store_lt, store_left, store_setl, store_get, store_set, store_take, store_set0]
  rw [s5_nil]
  refine callL_pure (rget5_c s name hl hs) (by simp [ltL, AV.lt, store_lt, s5_lt]) rfl ?_
  have hll := five_len (getF name) 5 0 s []
  simp only [rdS, c, Bool.true_eq_false, if_false]
  change (fiveS (getF name) s).2.length = 5 at hll
  generalize fiveS (getF name) s = q at hll hd ⊢
  obtain ⟨s', l⟩ := q
  dsimp only at hll hd ⊢
  simp (disch := first | omega | (simp only [ZL, store_len, shelf_len] <;> omega)) only [Z, Op.callOf, bslE, nilE, mslE, fadE, AV.cells, AV.isBot, AV.one, AV.flat, flatL, ids1, ids2, idsX, AV.lt, ltL, AObj.lt, finE, sevalprocAttr, frzM_store, frzM_shelf, shelf_len, shelf_one, shelf_flat, shelf_lt, shelf_take, shelf_set0, store_len, store_one, store_flat, store_lt, store_left, store_setl, store_get, store_set, store_take, store_set0]
  refine loopF mixed (fun k : Nat => mk [(1, .str name), (2, .ptr 0 0), (4, .ptr 1 0), (7, .sl 4 (l.map Told.rav)), (8, .row 14 k 0 k), (32, .sl 4 (l.map Told.rav)), (33, .int .i64 l.length), (34, .int .i64 k)]
      [(0, .box s'.av), (1, .box [.nils, .nils, .nils, .nils, .nils, .nils, .nils, .nils, .nils, .nils, .int .i64 0]), (14, .row 5 k (encOs (fitsN name l k)))] 19)
    (fun k => k ≤ 5) (fun k => 5 - k) 0 400 rfl rfl (by omega) ?_ ?_
  · refine less_mk (by simp) (by simp) ?_ ?_ <;> simp (disch := first | omega | (simp only [ZL, store_len, shelf_len] <;> omega)) only [Z, Op.callOf, bslE, nilE, mslE, fadE, AV.cells, AV.isBot, AV.one, AV.flat, flatL, ids1, ids2, idsX, AV.lt, ltL, AObj.lt, finE, sevalprocAttr, frzM_store, frzM_shelf, shelf_len, shelf_one, shelf_flat, shelf_lt, shelf_take, shelf_set0, store_len, store_one, store_flat, store_lt, store_left, store_setl, store_get, store_set, store_take, store_set0, fitsN, List.range_zero, List.map_nil, encOs]
  intro k hk
  have hsucc := fitsN_snoc name l k
  have hln := fitsN_len name l k
  simp (disch := first | omega | (simp only [ZL, store_len, shelf_len] <;> omega)) only [Z, Op.callOf, bslE, nilE, mslE, fadE, AV.cells, AV.isBot, AV.one, AV.flat, flatL, ids1, ids2, idsX, AV.lt, ltL, AObj.lt, finE, sevalprocAttr, frzM_store, frzM_shelf, shelf_len, shelf_one, shelf_flat, shelf_lt, shelf_take, shelf_set0, store_len, store_one, store_flat, store_lt, store_left, store_setl, store_get, store_set, store_take, store_set0]
  refine condG_p (fun e => ?_) (fun e => ?_)
  · have hk5 : k < 5 := by omega
    have hk' : k < l.length := by omega
    have hg : l.getD k Told.z = l[k] := by simp [List.getD, hk']
    rw [hg] at hsucc
    have hdk := hd l[k] (List.getElem_mem _)
    by_cases he : l[k].err = 0
    · have ht : encOF (toldF name k l[k]) = fitR k (fitS l[k].data name k) := by unfold toldF; rw [if_pos he, fitR_enc]
      rw [ht] at hsucc
      simp (disch := first | omega | (simp only [ZL, store_len, shelf_len] <;> omega)) only [Z, Op.callOf, bslE, nilE, mslE, fadE, AV.cells, AV.isBot, AV.one, AV.flat, flatL, ids1, ids2, idsX, AV.lt, ltL, AObj.lt, finE, sevalprocAttr, frzM_store, frzM_shelf, shelf_len, shelf_one, shelf_flat, shelf_lt, shelf_take, shelf_set0, store_len, store_one, store_flat, store_lt, store_left, store_setl, store_get, store_set, store_take, store_set0, Told.rav, he]
      refine callL_pure (rfits_c l[k].data name k hk5 hdk) (by simp [ltL, AV.lt]) rfl ?_
      generalize fitS l[k].data name k = o at *
      cases o with
      | none =>
        simp (disch := first | omega | (simp only [ZL] <;> omega)) only [Z, Op.callOf, bslE, nilE, mslE, fadE, AV.cells, AV.isBot, AV.one, AV.flat, flatL, ids1, ids2, idsX, AV.lt, ltL, AObj.lt, finE, sevalprocAttr, encOs_len, hln, fitR]
        refine finR_of (k + 1) (by omega) (by omega) ?_
        rw [hsucc]
        refine less_mk (by simp) (by simp) ?_ ?_ <;> simp (disch := first | omega | (simp only [ZL, store_len, shelf_len] <;> omega)) only [Z, Op.callOf, bslE, nilE, mslE, fadE, AV.cells, AV.isBot, AV.one, AV.flat, flatL, ids1, ids2, idsX, AV.lt, ltL, AObj.lt, finE, sevalprocAttr, frzM_store, frzM_shelf, shelf_len, shelf_one, shelf_flat, shelf_lt, shelf_take, shelf_set0, store_len, store_one, store_flat, store_lt, store_left, store_setl, store_get, store_set, store_take, store_set0, i64_add1, fitR]
      | some p =>
        simp (disch := first | omega | (simp only [ZL] <;> omega)) only [Z, Op.callOf, bslE, nilE, mslE, fadE, AV.cells, AV.isBot, AV.one, AV.flat, flatL, ids1, ids2, idsX, AV.lt, ltL, AObj.lt, finE, sevalprocAttr, encOs_len, hln, fitR]
        refine finR_of (k + 1) (by omega) (by omega) ?_
        rw [hsucc]
        refine less_mk (by simp) (by simp) ?_ ?_ <;> simp (disch := first | omega | (simp only [ZL, store_len, shelf_len] <;> omega)) only [Z, Op.callOf, bslE, nilE, mslE, fadE, AV.cells, AV.isBot, AV.one, AV.flat, flatL, ids1, ids2, idsX, AV.lt, ltL, AObj.lt, finE, sevalprocAttr, frzM_store, frzM_shelf, shelf_len, shelf_one, shelf_flat, shelf_lt, shelf_take, shelf_set0, store_len, store_one, store_flat, store_lt, store_left, store_setl, store_get, store_set, store_take, store_set0, i64_add1, fitR]
    · have ht : toldF name k l[k] = none := by unfold toldF; rw [if_neg he]
      rw [ht] at hsucc
      simp (disch := first | omega | (simp only [ZL, store_len, shelf_len] <;> omega)) only [Z, Op.callOf, bslE, nilE, mslE, fadE, AV.cells, AV.isBot, AV.one, AV.flat, flatL, ids1, ids2, idsX, AV.lt, ltL, AObj.lt, finE, sevalprocAttr, frzM_store, frzM_shelf, shelf_len, shelf_one, shelf_flat, shelf_lt, shelf_take, shelf_set0, store_len, store_one, store_flat, store_lt, store_left, store_setl, store_get, store_set, store_take, store_set0, Told.rav, he, encOs_len, hln]
      refine finR_of (k + 1) (by omega) (by omega) ?_
      rw [hsucc]
      refine less_mk (by simp) (by simp) ?_ ?_ <;> simp (disch := first | omega | (simp only [ZL, store_len, shelf_len] <;> omega)) only [Z, Op.callOf, bslE, nilE, mslE, fadE, AV.cells, AV.isBot, AV.one, AV.flat, flatL, ids1, ids2, idsX, AV.lt, ltL, AObj.lt, finE, sevalprocAttr, frzM_store, frzM_shelf, shelf_len, shelf_one, shelf_flat, shelf_lt, shelf_take, shelf_set0, store_len, store_one, store_flat, store_lt, store_left, store_setl, store_get, store_set, store_take, store_set0, i64_add1, encOF]
  · have : k = 5 := by omega
    subst this
    simp (disch := first | omega | (simp only [ZL] <;> omega)) only [Z, Op.callOf, bslE, nilE, mslE, fadE, AV.cells, AV.isBot, AV.one, AV.flat, flatL, ids1, ids2, idsX, AV.lt, ltL, AObj.lt, finE, sevalprocAttr]
    have hok := fitsN_ok name l
    have h5 := fitsN_len name l 5
    simp only [rdR, partsN, ← triO_eq]
    generalize fitsN name l 5 = L at *
    have htk : (encOs L).take 5 = encOs L := List.take_of_length_le (by rw [encOs_len]; omega)
    have h5e : (encOs L).length = 5 := by rw [encOs_len, h5]
    refine loopG_frz 8 ?_
    simp (disch := first | omega | (simp only [ZL] <;> omega)) only [Z, Op.callOf, bslE, nilE, mslE, fadE, AV.cells, AV.isBot, AV.one, AV.flat, flatL, ids1, ids2, idsX, AV.lt, ltL, AObj.lt, finE, sevalprocAttr, frzT_some, frz2, htk, h5e]
    refine loopF mixed (fun i : Nat => mk [(2, .ptr 0 0), (4, .ptr 1 0), (7, .sl 4 (l.map Told.rav)), (8, .sl 5 (encOs L)), (12, .int .i64 i)]
        [(0, .box s'.av), (1, .box [.nils, .nils, .nils, .nils, .nils, .nils, .nils, .nils, .nils, .nils, .int .i64 0])] 15)
      (fun i => i ≤ 5 ∧ triO L = triO (L.drop i)) (fun i => 5 - i) 0 400 rfl rfl ⟨by omega, by simp⟩ ?_ ?_
    · refine less_mk (by simp) (by simp) ?_ ?_ <;> simp (disch := first | omega | (simp only [ZL, store_len, shelf_len] <;> omega)) only [Z, Op.callOf, bslE, nilE, mslE, fadE, AV.cells, AV.isBot, AV.one, AV.flat, flatL, ids1, ids2, idsX, AV.lt, ltL, AObj.lt, finE, sevalprocAttr, frzM_store, frzM_shelf, shelf_len, shelf_one, shelf_flat, shelf_lt, shelf_take, shelf_set0, store_len, store_one, store_flat, store_lt, store_left, store_setl, store_get, store_set, store_take, store_set0, pv5_len, pv5_take, pv5_set0, pv5_get, pav_one, pav_lt, frzM_pav, pav_len, pav1_one]
    rintro i ⟨hi, hJ⟩
    simp (disch := first | omega | (simp only [ZL] <;> omega)) only [Z, Op.callOf, bslE, nilE, mslE, fadE, AV.cells, AV.isBot, AV.one, AV.flat, flatL, ids1, ids2, idsX, AV.lt, ltL, AObj.lt, finE, sevalprocAttr]
    refine condG_p (fun e => ?_) (fun e => ?_)
    · have hi' : i < L.length := by omega
      rw [List.drop_eq_getElem_cons hi', triO] at hJ
      simp (disch := first | omega | (simp only [ZL] <;> omega)) only [Z, Op.callOf, bslE, nilE, mslE, fadE, AV.cells, AV.isBot, AV.one, AV.flat, flatL, ids1, ids2, idsX, AV.lt, ltL, AObj.lt, finE, sevalprocAttr]
      refine loopF mixed (fun m : Nat => mk [(2, .ptr 0 0), (4, .ptr 1 0), (7, .sl 4 (l.map Told.rav)), (8, .sl 5 (encOs L)), (12, .int .i64 i), (13, .int .i64 m)]
          [(0, .box s'.av), (1, .box [.nils, .nils, .nils, .nils, .nils, .nils, .nils, .nils, .nils, .nils, .int .i64 0])] 15)
        (fun m => i + 1 ≤ m ∧ m ≤ 5 ∧ triO L = (pairsO L[i] (L.drop m)).or (triO (L.drop (i + 1)))) (fun m => 5 - m) (i + 1) 400 rfl rfl ⟨by omega, by omega, hJ⟩ ?_ ?_
      · refine less_mk (by simp) (by simp) ?_ ?_ <;> simp (disch := first | omega | (simp only [ZL, store_len, shelf_len] <;> omega)) only [Z, Op.callOf, bslE, nilE, mslE, fadE, AV.cells, AV.isBot, AV.one, AV.flat, flatL, ids1, ids2, idsX, AV.lt, ltL, AObj.lt, finE, sevalprocAttr, frzM_store, frzM_shelf, shelf_len, shelf_one, shelf_flat, shelf_lt, shelf_take, shelf_set0, store_len, store_one, store_flat, store_lt, store_left, store_setl, store_get, store_set, store_take, store_set0, pv5_len, pv5_take, pv5_set0, pv5_get, pav_one, pav_lt, frzM_pav, pav_len, pav1_one, i64_add1]
      rintro m ⟨hm0, hm, hJ⟩
      simp (disch := first | omega | (simp only [ZL] <;> omega)) only [Z, Op.callOf, bslE, nilE, mslE, fadE, AV.cells, AV.isBot, AV.one, AV.flat, flatL, ids1, ids2, idsX, AV.lt, ltL, AObj.lt, finE, sevalprocAttr]
      refine condG_p (fun e2 => ?_) (fun e2 => ?_)
      · have hm' : m < L.length := by omega
        rw [List.drop_eq_getElem_cons hm', pairsO, Option.or_assoc] at hJ
        simp (disch := first | omega | (simp only [ZL] <;> omega)) only [Z, Op.callOf, bslE, nilE, mslE, fadE, AV.cells, AV.isBot, AV.one, AV.flat, flatL, ids1, ids2, idsX, AV.lt, ltL, AObj.lt, finE, sevalprocAttr]
        refine loopF mixed (fun n : Nat => mk [(2, .ptr 0 0), (4, .ptr 1 0), (7, .sl 4 (l.map Told.rav)), (8, .sl 5 (encOs L)), (12, .int .i64 i), (13, .int .i64 m), (14, .int .i64 n)]
            [(0, .box s'.av), (1, .box [.nils, .nils, .nils, .nils, .nils, .nils, .nils, .nils, .nils, .nils, .int .i64 0])] 15)
          (fun n => m + 1 ≤ n ∧ n ≤ 5 ∧ triO L = (singO L[i] L[m] (L.drop n)).or ((pairsO L[i] (L.drop (m + 1))).or (triO (L.drop (i + 1))))) (fun n => 5 - n) (m + 1) 400 rfl rfl ⟨by omega, by omega, hJ⟩ ?_ ?_
        · refine less_mk (by simp) (by simp) ?_ ?_ <;> simp (disch := first | omega | (simp only [ZL, store_len, shelf_len] <;> omega)) only [Z, Op.callOf, bslE, nilE, mslE, fadE, AV.cells, AV.isBot, AV.one, AV.flat, flatL, ids1, ids2, idsX, AV.lt, ltL, AObj.lt, finE, sevalprocAttr, frzM_store, frzM_shelf, shelf_len, shelf_one, shelf_flat, shelf_lt, shelf_take, shelf_set0, store_len, store_one, store_flat, store_lt, store_left, store_setl, store_get, store_set, store_take, store_set0, pv5_len, pv5_take, pv5_set0, pv5_get, pav_one, pav_lt, frzM_pav, pav_len, pav1_one, i64_add1]
        rintro n ⟨hn0, hn, hJ⟩
        simp (disch := first | omega | (simp only [ZL] <;> omega)) only [Z, Op.callOf, bslE, nilE, mslE, fadE, AV.cells, AV.isBot, AV.one, AV.flat, flatL, ids1, ids2, idsX, AV.lt, ltL, AObj.lt, finE, sevalprocAttr]
        refine condG_p (fun e3 => ?_) (fun e3 => ?_)
        · have hn' : n < L.length := by omega
          rw [List.drop_eq_getElem_cons hn', singO, Option.or_assoc] at hJ
          have hoi := hok i hi'
          have hom := hok m hm'
          have hon := hok n hn'
          have gi := encOs_at L i hi'
          have gm := encOs_at L m hm'
          have gn := encOs_at L n hn'
          generalize L[i] = x at *
          generalize L[m] = y at *
          generalize L[n] = z at *
          cases x with
          | none =>
            rw [joinO_1, Option.none_or] at hJ
            cases y <;> cases z
            all_goals simp (disch := first | omega | (simp only [ZL] <;> omega)) only [Z, Op.callOf, bslE, nilE, mslE, fadE, AV.cells, AV.isBot, AV.one, AV.flat, flatL, ids1, ids2, idsX, AV.lt, ltL, AObj.lt, finE, sevalprocAttr, h5e, gi, gm, gn, encOF]
            all_goals refine okK_of (by kernel_rfl) ?_
            all_goals simp (disch := first | omega | (simp only [ZL] <;> omega)) only [Z, Op.callOf, bslE, nilE, mslE, fadE, AV.cells, AV.isBot, AV.one, AV.flat, flatL, ids1, ids2, idsX, AV.lt, ltL, AObj.lt, finE, sevalprocAttr]
            all_goals refine finR_of (n + 1) ⟨by omega, by omega, hJ⟩ (by omega) ?_
            all_goals refine less_mk (by simp) (by simp) ?_ ?_
            all_goals simp (disch := first | omega | (simp only [ZL, store_len, shelf_len] <;> omega)) only [Z, Op.callOf, bslE, nilE, mslE, fadE, AV.cells, AV.isBot, AV.one, AV.flat, flatL, ids1, ids2, idsX, AV.lt, ltL, AObj.lt, finE, sevalprocAttr, i64_add1, frzM_store, frzM_shelf, shelf_len, shelf_one, shelf_flat, shelf_lt, shelf_take, shelf_set0, store_len, store_one, store_flat, store_lt, store_left, store_setl, store_get, store_set, store_take, store_set0]
          | some x =>
            cases y with
            | none =>
              rw [joinO_2, Option.none_or] at hJ
              cases z
              all_goals simp (disch := first | omega | (simp only [ZL] <;> omega)) only [Z, Op.callOf, bslE, nilE, mslE, fadE, AV.cells, AV.isBot, AV.one, AV.flat, flatL, ids1, ids2, idsX, AV.lt, ltL, AObj.lt, finE, sevalprocAttr, h5e, gi, gm, gn, encOF]
              all_goals refine okK_of (by kernel_rfl) ?_
              all_goals simp (disch := first | omega | (simp only [ZL] <;> omega)) only [Z, Op.callOf, bslE, nilE, mslE, fadE, AV.cells, AV.isBot, AV.one, AV.flat, flatL, ids1, ids2, idsX, AV.lt, ltL, AObj.lt, finE, sevalprocAttr]
              all_goals refine finR_of (n + 1) ⟨by omega, by omega, hJ⟩ (by omega) ?_
              all_goals refine less_mk (by simp) (by simp) ?_ ?_
              all_goals simp (disch := first | omega | (simp only [ZL, store_len, shelf_len] <;> omega)) only [Z, Op.callOf, bslE, nilE, mslE, fadE, AV.cells, AV.isBot, AV.one, AV.flat, flatL, ids1, ids2, idsX, AV.lt, ltL, AObj.lt, finE, sevalprocAttr, i64_add1, frzM_store, frzM_shelf, shelf_len, shelf_one, shelf_flat, shelf_lt, shelf_take, shelf_set0, store_len, store_one, store_flat, store_lt, store_left, store_setl, store_get, store_set, store_take, store_set0]
            | some y =>
              cases z with
              | none =>
                rw [joinO_3, Option.none_or] at hJ
                simp (disch := first | omega | (simp only [ZL] <;> omega)) only [Z, Op.callOf, bslE, nilE, mslE, fadE, AV.cells, AV.isBot, AV.one, AV.flat, flatL, ids1, ids2, idsX, AV.lt, ltL, AObj.lt, finE, sevalprocAttr, h5e, gi, gm, gn, encOF]
                refine okK_of (by kernel_rfl) ?_
                simp (disch := first | omega | (simp only [ZL] <;> omega)) only [Z, Op.callOf, bslE, nilE, mslE, fadE, AV.cells, AV.isBot, AV.one, AV.flat, flatL, ids1, ids2, idsX, AV.lt, ltL, AObj.lt, finE, sevalprocAttr]
                refine finR_of (n + 1) ⟨by omega, by omega, hJ⟩ (by omega) ?_
                refine less_mk (by simp) (by simp) ?_ ?_ <;> simp (disch := first | omega | (simp only [ZL, store_len, shelf_len] <;> omega)) only [Z, Op.callOf, bslE, nilE, mslE, fadE, AV.cells, AV.isBot, AV.one, AV.flat, flatL, ids1, ids2, idsX, AV.lt, ltL, AObj.lt, finE, sevalprocAttr, i64_add1, frzM_store, frzM_shelf, shelf_len, shelf_one, shelf_flat, shelf_lt, shelf_take, shelf_set0, store_len, store_one, store_flat, store_lt, store_left, store_setl, store_get, store_set, store_take, store_set0]
              | some z =>
                obtain ⟨k1, e1⟩ := hoi x rfl
                obtain ⟨k2, e2'⟩ := hom y rfl
                obtain ⟨k3, e3'⟩ := hon z rfl
                have hp := parts_of k1 k2 k3 (by omega) (by omega)
                change triO L = (joinF x y z).or _ at hJ
                obtain ⟨i1, n1, s1, d1⟩ := x
                obtain ⟨i2, n2, s2, d2⟩ := y
                obtain ⟨i3, n3, s3, d3⟩ := z
                obtain ⟨a1, a2, a3, a4⟩ := k1
                simp only [joinF] at *
                by_cases c1 : n1 = n2
                rotate_left
                · have hs : ¬ sameF (i1, n1, s1, d1) (i2, n2, s2, d2) (i3, n3, s3, d3) := fun h => c1 h.1
                  have c1' : ¬ (n1 : Int) = n2 := by omega
                  rw [if_neg fun h => hs h.1, Option.none_or] at hJ
                  simp (disch := first | omega | (simp only [ZL] <;> omega)) only [Z, Op.callOf, bslE, nilE, mslE, fadE, AV.cells, AV.isBot, AV.one, AV.flat, flatL, ids1, ids2, idsX, AV.lt, ltL, AObj.lt, finE, sevalprocAttr, h5e, gi, gm, gn, encOF]
                  refine okK_of (by kernel_rfl) ?_
                  simp (disch := first | omega | (simp only [ZL] <;> omega)) only [Z, Op.callOf, bslE, nilE, mslE, fadE, AV.cells, AV.isBot, AV.one, AV.flat, flatL, ids1, ids2, idsX, AV.lt, ltL, AObj.lt, finE, sevalprocAttr, c1']
                  refine finR_of (n + 1) ⟨by omega, by omega, hJ⟩ (by omega) ?_
                  refine less_mk (by simp) (by simp) ?_ ?_ <;> simp (disch := first | omega | (simp only [ZL, store_len, shelf_len] <;> omega)) only [Z, Op.callOf, bslE, nilE, mslE, fadE, AV.cells, AV.isBot, AV.one, AV.flat, flatL, ids1, ids2, idsX, AV.lt, ltL, AObj.lt, finE, sevalprocAttr, i64_add1, frzM_store, frzM_shelf, shelf_len, shelf_one, shelf_flat, shelf_lt, shelf_take, shelf_set0, store_len, store_one, store_flat, store_lt, store_left, store_setl, store_get, store_set, store_take, store_set0]
                subst c1
                by_cases c2 : n1 = n3
                rotate_left
                · have hs : ¬ sameF (i1, n1, s1, d1) (i2, n1, s2, d2) (i3, n3, s3, d3) := fun h => c2 h.2.1
                  have c2' : ¬ (n1 : Int) = n3 := by omega
                  rw [if_neg fun h => hs h.1, Option.none_or] at hJ
                  simp (disch := first | omega | (simp only [ZL] <;> omega)) only [Z, Op.callOf, bslE, nilE, mslE, fadE, AV.cells, AV.isBot, AV.one, AV.flat, flatL, ids1, ids2, idsX, AV.lt, ltL, AObj.lt, finE, sevalprocAttr, h5e, gi, gm, gn, encOF]
                  refine okK_of (by kernel_rfl) ?_
                  simp (disch := first | omega | (simp only [ZL] <;> omega)) only [Z, Op.callOf, bslE, nilE, mslE, fadE, AV.cells, AV.isBot, AV.one, AV.flat, flatL, ids1, ids2, idsX, AV.lt, ltL, AObj.lt, finE, sevalprocAttr, c2']
                  refine finR_of (n + 1) ⟨by omega, by omega, hJ⟩ (by omega) ?_
                  refine less_mk (by simp) (by simp) ?_ ?_ <;> simp (disch := first | omega | (simp only [ZL, store_len, shelf_len] <;> omega)) only [Z, Op.callOf, bslE, nilE, mslE, fadE, AV.cells, AV.isBot, AV.one, AV.flat, flatL, ids1, ids2, idsX, AV.lt, ltL, AObj.lt, finE, sevalprocAttr, i64_add1, frzM_store, frzM_shelf, shelf_len, shelf_one, shelf_flat, shelf_lt, shelf_take, shelf_set0, store_len, store_one, store_flat, store_lt, store_left, store_setl, store_get, store_set, store_take, store_set0]
                subst c2
                by_cases c3 : s1 = s2
                rotate_left
                · have hs : ¬ sameF (i1, n1, s1, d1) (i2, n1, s2, d2) (i3, n1, s3, d3) := fun h => c3 h.2.2.1
                  rw [if_neg fun h => hs h.1, Option.none_or] at hJ
                  simp (disch := first | omega | (simp only [ZL] <;> omega)) only [Z, Op.callOf, bslE, nilE, mslE, fadE, AV.cells, AV.isBot, AV.one, AV.flat, flatL, ids1, ids2, idsX, AV.lt, ltL, AObj.lt, finE, sevalprocAttr, h5e, gi, gm, gn, encOF]
                  refine okK_of (by kernel_rfl) ?_
                  simp (disch := first | omega | (simp only [ZL] <;> omega)) only [Z, Op.callOf, bslE, nilE, mslE, fadE, AV.cells, AV.isBot, AV.one, AV.flat, flatL, ids1, ids2, idsX, AV.lt, ltL, AObj.lt, finE, sevalprocAttr, c3]
                  refine finR_of (n + 1) ⟨by omega, by omega, hJ⟩ (by omega) ?_
                  refine less_mk (by simp) (by simp) ?_ ?_ <;> simp (disch := first | omega | (simp only [ZL, store_len, shelf_len] <;> omega)) only [Z, Op.callOf, bslE, nilE, mslE, fadE, AV.cells, AV.isBot, AV.one, AV.flat, flatL, ids1, ids2, idsX, AV.lt, ltL, AObj.lt, finE, sevalprocAttr, i64_add1, frzM_store, frzM_shelf, shelf_len, shelf_one, shelf_flat, shelf_lt, shelf_take, shelf_set0, store_len, store_one, store_flat, store_lt, store_left, store_setl, store_get, store_set, store_take, store_set0]
                subst c3
                by_cases c4 : s1 = s3
                rotate_left
                · have hs : ¬ sameF (i1, n1, s1, d1) (i2, n1, s1, d2) (i3, n1, s3, d3) := fun h => c4 h.2.2.2
                  rw [if_neg fun h => hs h.1, Option.none_or] at hJ
                  simp (disch := first | omega | (simp only [ZL] <;> omega)) only [Z, Op.callOf, bslE, nilE, mslE, fadE, AV.cells, AV.isBot, AV.one, AV.flat, flatL, ids1, ids2, idsX, AV.lt, ltL, AObj.lt, finE, sevalprocAttr, h5e, gi, gm, gn, encOF]
                  refine okK_of (by kernel_rfl) ?_
                  simp (disch := first | omega | (simp only [ZL] <;> omega)) only [Z, Op.callOf, bslE, nilE, mslE, fadE, AV.cells, AV.isBot, AV.one, AV.flat, flatL, ids1, ids2, idsX, AV.lt, ltL, AObj.lt, finE, sevalprocAttr, c4]
                  refine finR_of (n + 1) ⟨by omega, by omega, hJ⟩ (by omega) ?_
                  refine less_mk (by simp) (by simp) ?_ ?_ <;> simp (disch := first | omega | (simp only [ZL, store_len, shelf_len] <;> omega)) only [Z, Op.callOf, bslE, nilE, mslE, fadE, AV.cells, AV.isBot, AV.one, AV.flat, flatL, ids1, ids2, idsX, AV.lt, ltL, AObj.lt, finE, sevalprocAttr, i64_add1, frzM_store, frzM_shelf, shelf_len, shelf_one, shelf_flat, shelf_lt, shelf_take, shelf_set0, store_len, store_one, store_flat, store_lt, store_left, store_setl, store_get, store_set, store_take, store_set0]
                subst c4
                have hs : sameF (i1, n1, s1, d1) (i2, n1, s1, d2) (i3, n1, s1, d3) := ⟨rfl, rfl, rfl, rfl⟩
                unfold joinT at hJ
                rw [if_pos hs] at hJ
                simp (disch := first | omega | (simp only [ZL] <;> omega)) only [Z, Op.callOf, bslE, nilE, mslE, fadE, AV.cells, AV.isBot, AV.one, AV.flat, flatL, ids1, ids2, idsX, AV.lt, ltL, AObj.lt, finE, sevalprocAttr, h5e, gi, gm, gn, encOF]
                refine okK_of (by kernel_rfl) ?_
                simp (disch := first | omega | (simp only [ZL] <;> omega)) only [Z, Op.callOf, bslE, nilE, mslE, fadE, AV.cells, AV.isBot, AV.one, AV.flat, flatL, ids1, ids2, idsX, AV.lt, ltL, AObj.lt, finE, sevalprocAttr]
                have hj := rjoin_c (i1 + 1) (i2 + 1) (i3 + 1) d1 d2 d3 n1 a2 (hp ⟨rfl, rfl, rfl, rfl⟩)
                refine callL_pure hj (by simp [ltL, AV.lt]) rfl ?_
                have hl := joinS_len (i1 + 1) (i2 + 1) (i3 + 1) d1 d2 d3 n1
                generalize joinS (i1 + 1) (i2 + 1) (i3 + 1) d1 d2 d3 n1 = s at *
                simp (disch := first | omega | (simp only [ZL] <;> omega)) only [Z, Op.callOf, bslE, nilE, mslE, fadE, AV.cells, AV.isBot, AV.one, AV.flat, flatL, ids1, ids2, idsX, AV.lt, ltL, AObj.lt, finE, sevalprocAttr]
                refine callD_pure (rsum37_c s (by omega)) (by simp [ltL, AV.lt]) ?_
                by_cases c5 : sumS s = s1
                · rw [if_pos ⟨hs, c5⟩, Option.some_or] at hJ
                  rw [hJ]
                  simp (disch := first | omega | (simp only [ZL] <;> omega)) only [Z, Op.callOf, bslE, nilE, mslE, fadE, AV.cells, AV.isBot, AV.one, AV.flat, flatL, ids1, ids2, idsX, AV.lt, ltL, AObj.lt, finE, sevalprocAttr, c5]
                  refine okK_of (by kernel_rfl) ?_
                  simp (disch := first | omega | (simp only [ZL, store_len, shelf_len] <;> omega)) only [Z, Op.callOf, bslE, nilE, mslE, fadE, AV.cells, AV.isBot, AV.one, AV.flat, flatL, ids1, ids2, idsX, AV.lt, ltL, AObj.lt, finE, sevalprocAttr, frzM_store, frzM_shelf, shelf_len, shelf_one, shelf_flat, shelf_lt, shelf_take, shelf_set0, store_len, store_one, store_flat, store_lt, store_left, store_setl, store_get, store_set, store_take, store_set0]
                  repeat' first | exact Sub.rfl' _ | exact sub_nils _ | exact SubL.nil | refine sub_tup ?_ | refine sub_agg ?_ | refine SubL.cons ?_ ?_
                · rw [if_neg fun h => c5 h.2, Option.none_or] at hJ
                  simp (disch := first | omega | (simp only [ZL] <;> omega)) only [Z, Op.callOf, bslE, nilE, mslE, fadE, AV.cells, AV.isBot, AV.one, AV.flat, flatL, ids1, ids2, idsX, AV.lt, ltL, AObj.lt, finE, sevalprocAttr, c5]
                  refine okK_of (by kernel_rfl) ?_
                  simp (disch := first | omega | (simp only [ZL] <;> omega)) only [Z, Op.callOf, bslE, nilE, mslE, fadE, AV.cells, AV.isBot, AV.one, AV.flat, flatL, ids1, ids2, idsX, AV.lt, ltL, AObj.lt, finE, sevalprocAttr]
                  refine finR_of (n + 1) ⟨by omega, by omega, hJ⟩ (by omega) ?_
                  refine less_mk (by simp) (by simp) ?_ ?_ <;> simp (disch := first | omega | (simp only [ZL, store_len, shelf_len] <;> omega)) only [Z, Op.callOf, bslE, nilE, mslE, fadE, AV.cells, AV.isBot, AV.one, AV.flat, flatL, ids1, ids2, idsX, AV.lt, ltL, AObj.lt, finE, sevalprocAttr, i64_add1, frzM_store, frzM_shelf, shelf_len, shelf_one, shelf_flat, shelf_lt, shelf_take, shelf_set0, store_len, store_one, store_flat, store_lt, store_left, store_setl, store_get, store_set, store_take, store_set0]
        · have : n = 5 := by omega
          subst this
          rw [List.drop_of_length_le (by omega : L.length ≤ 5), singO, Option.none_or] at hJ
          simp (disch := first | omega | (simp only [ZL] <;> omega)) only [Z, Op.callOf, bslE, nilE, mslE, fadE, AV.cells, AV.isBot, AV.one, AV.flat, flatL, ids1, ids2, idsX, AV.lt, ltL, AObj.lt, finE, sevalprocAttr]
          refine finR_of (m + 1) ⟨by omega, by omega, hJ⟩ (by omega) ?_
          refine less_mk (by simp) (by simp) ?_ ?_ <;> simp (disch := first | omega | (simp only [ZL, store_len, shelf_len] <;> omega)) only [Z, Op.callOf, bslE, nilE, mslE, fadE, AV.cells, AV.isBot, AV.one, AV.flat, flatL, ids1, ids2, idsX, AV.lt, ltL, AObj.lt, finE, sevalprocAttr, i64_add1, frzM_store, frzM_shelf, shelf_len, shelf_one, shelf_flat, shelf_lt, shelf_take, shelf_set0, store_len, store_one, store_flat, store_lt, store_left, store_setl, store_get, store_set, store_take, store_set0, pv5_len, pv5_take, pv5_set0, pv5_get, pav_one, pav_lt, frzM_pav, pav_len, pav1_one]
      · have : m = 5 := by omega
        subst this
        rw [List.drop_of_length_le (by omega : L.length ≤ 5), pairsO, Option.none_or] at hJ
        simp (disch := first | omega | (simp only [ZL] <;> omega)) only [Z, Op.callOf, bslE, nilE, mslE, fadE, AV.cells, AV.isBot, AV.one, AV.flat, flatL, ids1, ids2, idsX, AV.lt, ltL, AObj.lt, finE, sevalprocAttr]
        refine finR_of (i + 1) ⟨by omega, hJ⟩ (by omega) ?_
        refine less_mk (by simp) (by simp) ?_ ?_ <;> simp (disch := first | omega | (simp only [ZL, store_len, shelf_len] <;> omega)) only [Z, Op.callOf, bslE, nilE, mslE, fadE, AV.cells, AV.isBot, AV.one, AV.flat, flatL, ids1, ids2, idsX, AV.lt, ltL, AObj.lt, finE, sevalprocAttr, i64_add1, frzM_store, frzM_shelf, shelf_len, shelf_one, shelf_flat, shelf_lt, shelf_take, shelf_set0, store_len, store_one, store_flat, store_lt, store_left, store_setl, store_get, store_set, store_take, store_set0, pv5_len, pv5_take, pv5_set0, pv5_get, pav_one, pav_lt, frzM_pav, pav_len, pav1_one]
    · have : i = 5 := by omega
      subst this
      rw [List.drop_of_length_le (by omega : L.length ≤ 5), triO] at hJ
      rw [hJ]
      simp (disch := first | omega | (simp only [ZL, store_len, shelf_len] <;> omega)) only [Z, Op.callOf, bslE, nilE, mslE, fadE, AV.cells, AV.isBot, AV.one, AV.flat, flatL, ids1, ids2, idsX, AV.lt, ltL, AObj.lt, finE, sevalprocAttr, frzM_store, frzM_shelf, shelf_len, shelf_one, shelf_flat, shelf_lt, shelf_take, shelf_set0, store_len, store_one, store_flat, store_lt, store_left, store_setl, store_get, store_set, store_take, store_set0]
      refine callD_pure (rlost_c l (by omega)) (by simp [ltL, AV.lt, store_lt, shelf_lt]) ?_
      simp (disch := first | omega | (simp only [ZL, store_len, shelf_len] <;> omega)) only [Z, Op.callOf, bslE, nilE, mslE, fadE, AV.cells, AV.isBot, AV.one, AV.flat, flatL, ids1, ids2, idsX, AV.lt, ltL, AObj.lt, finE, sevalprocAttr, frzM_store, frzM_shelf, shelf_len, shelf_one, shelf_flat, shelf_lt, shelf_take, shelf_set0, store_len, store_one, store_flat, store_lt, store_left, store_setl, store_get, store_set, store_take, store_set0]
      refine okK_of (by kernel_rfl) ?_
      simp (disch := first | omega | (simp only [ZL, store_len, shelf_len] <;> omega)) only [Z, Op.callOf, bslE, nilE, mslE, fadE, AV.cells, AV.isBot, AV.one, AV.flat, flatL, ids1, ids2, idsX, AV.lt, ltL, AObj.lt, finE, sevalprocAttr, frzM_store, frzM_shelf, shelf_len, shelf_one, shelf_flat, shelf_lt, shelf_take, shelf_set0, store_len, store_one, store_flat, store_lt, store_left, store_setl, store_get, store_set, store_take, store_set0]
      repeat' first | exact Sub.rfl' _ | exact sub_nils _ | exact SubL.nil | refine sub_tup ?_ | refine sub_agg ?_ | refine SubL.cons ?_ ?_
end Go.Ab
namespace Go.Ab
open Go Go.Proofs
def rootB : List UInt8 := [114, 111, 111, 116, 47]
def postedS (name : List UInt8) : Bool := decide (name.take 5 = rootB)
noncomputable def partOf (name data : List UInt8) (i : Nat) : List UInt8 :=
  rowS [hibsB, name, decB (data.length : Int), decB ((i + 1 : Nat) : Int), sumS data, sumS (partB data (i + 1)), partB data (i + 1)]
noncomputable def shouldS (name data : List UInt8) (i : Nat) : List UInt8 := if postedS name then data else partOf name data i
theorem cutS_len (data : List UInt8) : (cutS data).length = 5 := by simp [cutS]
theorem cutS_get (data : List UInt8) (i : Nat) (h : i < (cutS data).length) : (cutS data)[i] = (i + 1, partB data (i + 1)) := by simp [cutS]
theorem digB_len7 : ∀ (k n : Nat), n < 10 ^ k → (digB n).length ≤ k + 1
  | 0, n, h => by rw [digB, if_pos (by simp at h; omega)]; simp
  | k + 1, n, h => by
    rw [digB]
    split
    · simp
    · have := digB_len7 k (n / 10) (by rw [Nat.pow_succ] at h; omega)
      simp; omega
theorem decB_nat (n : Nat) (h : n < 1000000) : (decB (n : Int)).length ≤ 7 := by
  have := digB_len7 6 n (by simpa using h)
  unfold decB
  rw [if_neg (by omega)]
  simpa using this
theorem part_ok {name data : List UInt8} {i : Nat} (hi : i < 5) (h1 : name.length < 1000000) (h2 : data.length < 1000000) :
    ∀ s ∈ [hibsB, name, decB (data.length : Int), decB ((i + 1 : Nat) : Int), sumS data, sumS (partB data (i + 1)), partB data (i + 1)], s.length < 1000000 := by
  have a := decB_nat data.length h2
  have b := decB_nat (i + 1) (by omega)
  have c := sumS_len data
  have d := sumS_len (partB data (i + 1))
  have e := partB_len data (i + 1)
  have f : rowsN data.length ≤ data.length := by unfold rowsN; omega
  intro s hs
  simp only [List.mem_cons, List.not_mem_nil, or_false] at hs
  rcases hs with rfl | rfl | rfl | rfl | rfl | rfl | rfl
  · decide
  all_goals omega
theorem posted_len {name : List UInt8} (h : name.take 5 = rootB) : 5 ≤ name.length := by
  have := congrArg List.length h
  simp [rootB] at this
  omega
variable [Glob]
class LibR [Glob] : Prop where
  row : ∀ (l : List (List UInt8)), l.length < 1000 → (∀ s ∈ l, s.length < 1000000) → APure Tryz.prog 40 [.sl 1 (encT l)] (.str (rowS l))
set_option maxHeartbeats 1000000

theorem rposted_c (name : List UInt8) (h : name.length < 2^40) : APure Tryz.prog 27 [.str name] (.bool (postedS name)) := by
  refine apure_fin mixed [] 400 Tryz.func27 Tryz.ntmps27 Tryz.results27 rfl rfl (by simp) rfl ?_
  by_cases c : (5 : Int) ≤ name.length
  · have c' : 5 ≤ name.length := by omega
    simp (disch := first | omega | (simp only [ZL] <;> omega)) only [Z, Op.callOf, bslE, nilE, mslE, fadE, AV.cells, AV.isBot, AV.one, AV.flat, flatL, ids1, ids2, idsX, AV.lt, ltL, AObj.lt, finE, sevalprocAttr, c]
    exact Sub.rfl' _
  · have c2 : postedS name = false := decide_eq_false fun h => by have := posted_len h; omega
    rw [c2]
    simp (disch := first | omega | (simp only [ZL] <;> omega)) only [Z, Op.callOf, bslE, nilE, mslE, fadE, AV.cells, AV.isBot, AV.one, AV.flat, flatL, ids1, ids2, idsX, AV.lt, ltL, AObj.lt, finE, sevalprocAttr, c]
    repeat' first | exact Sub.rfl' _ | exact sub_nils _ | exact SubL.nil | refine sub_tup ?_ | refine sub_agg ?_ | refine SubL.cons ?_ ?_
theorem rpart_c [LibC] (name data : List UInt8) (i : Nat) (hi : i < 5) (h1 : name.length < 1000000) (h2 : data.length < 1000000) :
    APure Tryz.prog 54 [.str name, .str data, .int .i64 i] (.str (partOf name data i)) := by
  refine apure_fin mixed [26] 400 Tryz.func54 Tryz.ntmps54 Tryz.results54 rfl rfl (by simp) rfl ?_
  have hc := cutS_len data
  have hg := cutS_get data i (by omega)
  simp (disch := first | omega | (simp only [ZL] <;> omega)) only [Z, Op.callOf, bslE, nilE, mslE, fadE, AV.cells, AV.isBot, AV.one, AV.flat, flatL, ids1, ids2, idsX, AV.lt, ltL, AObj.lt, finE, sevalprocAttr]
  refine callL_pure (rcut_c data (by omega)) (by simp [ltL, AV.lt]) rfl ?_
  simp (disch := first | omega | (simp only [ZL] <;> omega)) only [Z, Op.callOf, bslE, nilE, mslE, fadE, AV.cells, AV.isBot, AV.one, AV.flat, flatL, ids1, ids2, idsX, AV.lt, ltL, AObj.lt, finE, sevalprocAttr, encP_len, hc, encP_at, hg]
  refine callL_pure (rdec_c _ _ (Nat.le_refl _) (by constructor <;> omega)) (by simp [ltL, AV.lt]) rfl ?_
  simp (disch := first | omega | (simp only [ZL] <;> omega)) only [Z, Op.callOf, bslE, nilE, mslE, fadE, AV.cells, AV.isBot, AV.one, AV.flat, flatL, ids1, ids2, idsX, AV.lt, ltL, AObj.lt, finE, sevalprocAttr, i64_add1]
  refine callL_pure (rdec_c _ _ (Nat.le_refl _) (by constructor <;> omega)) (by simp [ltL, AV.lt]) rfl ?_
  simp (disch := first | omega | (simp only [ZL] <;> omega)) only [Z, Op.callOf, bslE, nilE, mslE, fadE, AV.cells, AV.isBot, AV.one, AV.flat, flatL, ids1, ids2, idsX, AV.lt, ltL, AObj.lt, finE, sevalprocAttr]
  refine callL_pure (rsum37_c data (by omega)) (by simp [ltL, AV.lt]) rfl ?_
  simp (disch := first | omega | (simp only [ZL] <;> omega)) only [Z, Op.callOf, bslE, nilE, mslE, fadE, AV.cells, AV.isBot, AV.one, AV.flat, flatL, ids1, ids2, idsX, AV.lt, ltL, AObj.lt, finE, sevalprocAttr]
  refine callL_pure (rsum37_c (partB data (i + 1)) (by rw [partB_len]; unfold rowsN; omega)) (by simp [ltL, AV.lt]) rfl ?_
  simp (disch := first | omega | (simp only [ZL] <;> omega)) only [Z, Op.callOf, bslE, nilE, mslE, fadE, AV.cells, AV.isBot, AV.one, AV.flat, flatL, ids1, ids2, idsX, AV.lt, ltL, AObj.lt, finE, sevalprocAttr]
  refine callL_pure (rrow_c [hibsB, name, decB (data.length : Int), decB ((i + 1 : Nat) : Int), sumS data, sumS (partB data (i + 1)), partB data (i + 1)] (by simp) (part_ok hi h1 h2)) (by simp [ltL, AV.lt]) rfl ?_
  simp (disch := first | omega | (simp only [ZL] <;> omega)) only [Z, Op.callOf, bslE, nilE, mslE, fadE, AV.cells, AV.isBot, AV.one, AV.flat, flatL, ids1, ids2, idsX, AV.lt, ltL, AObj.lt, finE, sevalprocAttr]
  exact Sub.rfl' _
theorem should_c [LibC] (name data : List UInt8) (i : Nat) (hi : i < 5) (h1 : name.length < 1000000) (h2 : data.length < 1000000) :
    APure Tryz.prog 49 [.str name, .str data, .int .i64 i] (.str (shouldS name data i)) := by
  refine apure_fin mixed [] 400 Tryz.func49 Tryz.ntmps49 Tryz.results49 rfl rfl (by simp) rfl ?_
  simp (disch := first | omega | (simp only [ZL] <;> omega)) only [Z, Op.callOf, bslE, nilE, mslE, fadE, AV.cells, AV.isBot, AV.one, AV.flat, flatL, ids1, ids2, idsX, AV.lt, ltL, AObj.lt, finE, sevalprocAttr]
  refine callL_pure (rposted_c name (by omega)) (by simp [ltL, AV.lt]) rfl ?_
  cases c : postedS name
  · simp (disch := first | omega | (simp only [ZL] <;> omega)) only [Z, Op.callOf, bslE, nilE, mslE, fadE, AV.cells, AV.isBot, AV.one, AV.flat, flatL, ids1, ids2, idsX, AV.lt, ltL, AObj.lt, finE, sevalprocAttr]
    refine callL_pure (rpart_c name data i hi h1 h2) (by simp [ltL, AV.lt]) rfl ?_
    simp (disch := first | omega | (simp only [ZL] <;> omega)) only [Z, Op.callOf, bslE, nilE, mslE, fadE, AV.cells, AV.isBot, AV.one, AV.flat, flatL, ids1, ids2, idsX, AV.lt, ltL, AObj.lt, finE, sevalprocAttr]
    unfold shouldS
    rw [c]
    exact Sub.rfl' _
  · simp (disch := first | omega | (simp only [ZL] <;> omega)) only [Z, Op.callOf, bslE, nilE, mslE, fadE, AV.cells, AV.isBot, AV.one, AV.flat, flatL, ids1, ids2, idsX, AV.lt, ltL, AObj.lt, finE, sevalprocAttr]
    unfold shouldS
    rw [c]
    exact Sub.rfl' _
theorem posted_c [LibC] (name : List UInt8) : APure Tryz.prog 29 [.str name] (.bool (postedS name)) := by
  refine apure_fin mixed [] 400 Tryz.func29 Tryz.ntmps29 Tryz.results29 rfl rfl (by simp) rfl ?_
  simp (disch := first | omega | (simp only [ZL] <;> omega)) only [Z, Op.callOf, bslE, nilE, mslE, fadE, AV.cells, AV.isBot, AV.one, AV.flat, flatL, ids1, ids2, idsX, AV.lt, ltL, AObj.lt, finE, sevalprocAttr]
  refine callL_pure (LibC.pre name rootB) (by simp [ltL, AV.lt]) rfl ?_
  simp (disch := first | omega | (simp only [ZL] <;> omega)) only [Z, Op.callOf, bslE, nilE, mslE, fadE, AV.cells, AV.isBot, AV.one, AV.flat, flatL, ids1, ids2, idsX, AV.lt, ltL, AObj.lt, finE, sevalprocAttr]
  refine sub_eq (congrArg _ ?_)
  rw [postedS]
  apply Bool.eq_iff_iff.2
  rw [List.isPrefixOf_iff_prefix, decide_eq_true_iff]
  constructor
  · rintro ⟨t, rfl⟩; rfl
  · intro h; exact ⟨name.drop 5, by rw [← h, List.take_append_drop]⟩
noncomputable def toldS (s : Store) (name : List UInt8) : Store × List UInt8 × Int := if postedS name then voteS s name else rdS s name
theorem rtold_c [LibC] (s : Store) (name : List UInt8) (hl : lok s) (hs : Small s) (hn : name.length < 2^40) (hd : ∀ t ∈ (fiveS (getF name) s).2, t.data.length < 2^40) :
    APure Tryz.prog 47 [.agg s.av, .str name] (.tup [.agg (toldS s name).1.av, .str (toldS s name).2.1, .int .i64 (toldS s name).2.2]) := by
  refine apure_fin mixed [] 400 Tryz.func47 Tryz.ntmps47 Tryz.results47 rfl rfl (by simp) rfl ?_
  simp (disch := first | omega | (simp only [ZL, store_len, shelf_len] <;> omega)) only [Z, Op.callOf, bslE, nilE, mslE, fadE, AV.cells, AV.isBot, AV.one, AV.flat, flatL, ids1, ids2, idsX, AV.lt, ltL, AObj.lt, finE, sevalprocAttr, frzM_store, frzM_shelf, shelf_len, shelf_one, shelf_flat, shelf_lt, shelf_take, shelf_set0, store_len, store_one, store_flat, store_lt, store_left, store_setl, store_get, store_set, store_take, store_set0]
  refine callL_pure (rposted_c name hn) (by simp [ltL, AV.lt]) rfl ?_
  cases c : postedS name
  · simp (disch := first | omega | (simp only [ZL, store_len, shelf_len] <;> omega)) only [Z, Op.callOf, bslE, nilE, mslE, fadE, AV.cells, AV.isBot, AV.one, AV.flat, flatL, ids1, ids2, idsX, AV.lt, ltL, AObj.lt, finE, sevalprocAttr, frzM_store, frzM_shelf, shelf_len, shelf_one, shelf_flat, shelf_lt, shelf_take, shelf_set0, store_len, store_one, store_flat, store_lt, store_left, store_setl, store_get, store_set, store_take, store_set0]
    refine callL_pure (rread37_c s name hl hs hd) (by simp [ltL, AV.lt, store_lt, shelf_lt]) rfl ?_
    simp (disch := first | omega | (simp only [ZL, store_len, shelf_len] <;> omega)) only [Z, Op.callOf, bslE, nilE, mslE, fadE, AV.cells, AV.isBot, AV.one, AV.flat, flatL, ids1, ids2, idsX, AV.lt, ltL, AObj.lt, finE, sevalprocAttr, frzM_store, frzM_shelf, shelf_len, shelf_one, shelf_flat, shelf_lt, shelf_take, shelf_set0, store_len, store_one, store_flat, store_lt, store_left, store_setl, store_get, store_set, store_take, store_set0]
    unfold toldS
    rw [c]
    repeat' first | exact Sub.rfl' _ | exact sub_nils _ | exact SubL.nil | refine sub_tup ?_ | refine sub_agg ?_ | refine SubL.cons ?_ ?_
  · simp (disch := first | omega | (simp only [ZL, store_len, shelf_len] <;> omega)) only [Z, Op.callOf, bslE, nilE, mslE, fadE, AV.cells, AV.isBot, AV.one, AV.flat, flatL, ids1, ids2, idsX, AV.lt, ltL, AObj.lt, finE, sevalprocAttr, frzM_store, frzM_shelf, shelf_len, shelf_one, shelf_flat, shelf_lt, shelf_take, shelf_set0, store_len, store_one, store_flat, store_lt, store_left, store_setl, store_get, store_set, store_take, store_set0]
    refine callL_pure (rvote_c s name hl hs) (by simp [ltL, AV.lt, store_lt, shelf_lt]) rfl ?_
    simp (disch := first | omega | (simp only [ZL, store_len, shelf_len] <;> omega)) only [Z, Op.callOf, bslE, nilE, mslE, fadE, AV.cells, AV.isBot, AV.one, AV.flat, flatL, ids1, ids2, idsX, AV.lt, ltL, AObj.lt, finE, sevalprocAttr, frzM_store, frzM_shelf, shelf_len, shelf_one, shelf_flat, shelf_lt, shelf_take, shelf_set0, store_len, store_one, store_flat, store_lt, store_left, store_setl, store_get, store_set, store_take, store_set0]
    unfold toldS
    rw [c]
    repeat' first | exact Sub.rfl' _ | exact sub_nils _ | exact SubL.nil | refine sub_tup ?_ | refine sub_agg ?_ | refine SubL.cons ?_ ?_
theorem asked_c [LibB] [LibC] (s : Store) (name : List UInt8) (hl : lok s) (hs : Small s) (hd : ∀ t ∈ (fiveS (getF name) s).2, t.data.length < 2^40) :
    APure Tryz.prog 44 [.agg s.av, .str name] (.tup [.agg (toldS s name).1.av, .str (toldS s name).2.1, .int .i64 (toldS s name).2.2]) := by
  refine apure_fin mixed [] 400 Tryz.func44 Tryz.ntmps44 Tryz.results44 rfl rfl (by simp) rfl ?_
  simp (disch := first | omega | (simp only [ZL, store_len, shelf_len] <;> omega)) only [Z, Op.callOf, bslE, nilE, mslE, fadE, AV.cells, AV.isBot, AV.one, AV.flat, flatL, ids1, ids2, idsX, AV.lt, ltL, AObj.lt, finE, sevalprocAttr, frzM_store, frzM_shelf, shelf_len, shelf_one, shelf_flat, shelf_lt, shelf_take, shelf_set0, store_len, store_one, store_flat, store_lt, store_left, store_setl, store_get, store_set, store_take, store_set0]
  refine callL_pure (posted_c name) (by simp [ltL, AV.lt]) rfl ?_
  cases c : postedS name
  · simp (disch := first | omega | (simp only [ZL, store_len, shelf_len] <;> omega)) only [Z, Op.callOf, bslE, nilE, mslE, fadE, AV.cells, AV.isBot, AV.one, AV.flat, flatL, ids1, ids2, idsX, AV.lt, ltL, AObj.lt, finE, sevalprocAttr, frzM_store, frzM_shelf, shelf_len, shelf_one, shelf_flat, shelf_lt, shelf_take, shelf_set0, store_len, store_one, store_flat, store_lt, store_left, store_setl, store_get, store_set, store_take, store_set0]
    refine callL_pure (read37_c s name hl hs hd) (by simp [ltL, AV.lt, store_lt, shelf_lt]) rfl ?_
    simp (disch := first | omega | (simp only [ZL, store_len, shelf_len] <;> omega)) only [Z, Op.callOf, bslE, nilE, mslE, fadE, AV.cells, AV.isBot, AV.one, AV.flat, flatL, ids1, ids2, idsX, AV.lt, ltL, AObj.lt, finE, sevalprocAttr, frzM_store, frzM_shelf, shelf_len, shelf_one, shelf_flat, shelf_lt, shelf_take, shelf_set0, store_len, store_one, store_flat, store_lt, store_left, store_setl, store_get, store_set, store_take, store_set0]
    unfold toldS
    rw [c]
    repeat' first | exact Sub.rfl' _ | exact sub_nils _ | exact SubL.nil | refine sub_tup ?_ | refine sub_agg ?_ | refine SubL.cons ?_ ?_
  · simp (disch := first | omega | (simp only [ZL, store_len, shelf_len] <;> omega)) only [Z, Op.callOf, bslE, nilE, mslE, fadE, AV.cells, AV.isBot, AV.one, AV.flat, flatL, ids1, ids2, idsX, AV.lt, ltL, AObj.lt, finE, sevalprocAttr, frzM_store, frzM_shelf, shelf_len, shelf_one, shelf_flat, shelf_lt, shelf_take, shelf_set0, store_len, store_one, store_flat, store_lt, store_left, store_setl, store_get, store_set, store_take, store_set0]
    refine callL_pure (vote_c s name hl hs) (by simp [ltL, AV.lt, store_lt, shelf_lt]) rfl ?_
    simp (disch := first | omega | (simp only [ZL, store_len, shelf_len] <;> omega)) only [Z, Op.callOf, bslE, nilE, mslE, fadE, AV.cells, AV.isBot, AV.one, AV.flat, flatL, ids1, ids2, idsX, AV.lt, ltL, AObj.lt, finE, sevalprocAttr, frzM_store, frzM_shelf, shelf_len, shelf_one, shelf_flat, shelf_lt, shelf_take, shelf_set0, store_len, store_one, store_flat, store_lt, store_left, store_setl, store_get, store_set, store_take, store_set0]
    unfold toldS
    rw [c]
    repeat' first | exact Sub.rfl' _ | exact sub_nils _ | exact SubL.nil | refine sub_tup ?_ | refine sub_agg ?_ | refine SubL.cons ?_ ?_
end Go.Ab
namespace Go.Ab
open Go Go.Proofs
variable [Glob]
theorem get_set_eq (s : Store) (i : Nat) (x : Shelf) (hi : i < 5) : (s.set i x).get i = x := by
  match i, hi with
  | 0, _ => rfl
  | 1, _ => rfl
  | 2, _ => rfl
  | 3, _ => rfl
  | 4, _ => rfl
def BndX (x : Shelf) : Prop := x.objs.length < 2^40 ∧ x.fates.length < 2^40 ∧ ∀ o ∈ x.objs, o.data.length < 1000000 ∧ o.was.length < 1000000
def Bnd (s : Store) : Prop := ∀ k, k < 5 → BndX (s.get k)
theorem Bnd.small {s : Store} (h : Bnd s) : Small s := fun k hk => ⟨(h k hk).1, (h k hk).2.1⟩
theorem fateS_len (s : Shelf) : (fateS s).1.fates.length ≤ s.fates.length := by
  obtain ⟨objs, fates⟩ := s
  cases fates <;> simp [fateS]
theorem flipS_len (b : List UInt8) : (flipS b).length = b.length := by
  unfold flipS
  cases h : b.reverse with
  | nil => rw [List.reverse_eq_nil_iff] at h; subst h; rfl
  | cons x r =>
    have := congrArg List.length h
    simp at this ⊢
    omega
theorem getS_ok {x : Shelf} (h : BndX x) (name : List UInt8) : BndX (getS x name).1 ∧ (getS x name).2.1.length < 1000000 := by
  have hz : ([] : List UInt8).length < 1000000 := by simp
  have hf : BndX (fateS x).1 := by
    refine ⟨by rw [fateS_objs]; exact h.1, ?_, by rw [fateS_objs]; exact h.2.2⟩
    have := fateS_len x
    have := h.2.1
    omega
  unfold getS
  split
  · exact ⟨h, hz⟩
  split
  · exact ⟨h, hz⟩
  dsimp only
  split
  · exact ⟨hf, hz⟩
  cases e : findS x.objs name with
  | none => exact ⟨hf, hz⟩
  | some o =>
    have ho := h.2.2 o (List.mem_of_find?_eq_some e)
    dsimp only
    split
    · exact ⟨hf, hz⟩
    split
    · split
      · exact ⟨hf, ho.2⟩
      · exact ⟨hf, hz⟩
    split
    · exact ⟨hf, by rw [flipS_len]; exact ho.1⟩
    · exact ⟨hf, ho.1⟩
theorem call_bnd {s : Store} (h : Bnd s) (name : List UInt8) (k : Nat) (hk : k < 5) : Bnd (callF (getF name) k s).1 ∧ (callF (getF name) k s).2.data.length < 1000000 := by
  unfold callF
  split
  · exact ⟨h, by simp⟩
  · refine ⟨fun j hj => ?_, (getS_ok (h k hk) name).2⟩
    by_cases e : k = j
    · subst e
      rw [get_set_eq _ _ _ hk]
      exact (getS_ok (h k hk) name).1
    · rw [get_set_ne _ _ _ _ hk hj e, powS_get]
      exact h j hj
theorem five_bnd (name : List UInt8) : ∀ (n k : Nat) (s : Store) (l : List Told), k + n ≤ 5 → Bnd s → lok s → (∀ t ∈ l, t.data.length < 1000000) →
    Bnd (fiveR (getF name) n k s l).1 ∧ lok (fiveR (getF name) n k s l).1 ∧ ∀ t ∈ (fiveR (getF name) n k s l).2, t.data.length < 1000000
  | 0, k, s, l, _, h1, h2, h3 => ⟨h1, h2, h3⟩
  | n + 1, k, s, l, hk, h1, h2, h3 => by
    rw [fiveR]
    have hc := call_bnd h1 name k (by omega)
    refine five_bnd name n (k + 1) _ _ (by omega) hc.1 (lok_call _ _ _ h2) fun t ht => ?_
    rcases List.mem_append.1 ht with h4 | h4
    · exact h3 t h4
    · rw [List.mem_singleton] at h4; subst h4; exact hc.2
theorem fiveS_bnd {s : Store} (h1 : Bnd s) (h2 : lok s) (name : List UInt8) :
    Bnd (fiveS (getF name) s).1 ∧ lok (fiveS (getF name) s).1 ∧ ∀ t ∈ (fiveS (getF name) s).2, t.data.length < 1000000 :=
  five_bnd name 5 0 s [] (by omega) h1 h2 fun t ht => (List.not_mem_nil ht).elim
theorem or_some {α : Type} {a b : Option α} {x : α} (h : a.or b = some x) : a = some x ∨ b = some x := by
  cases a with
  | none => exact .inr (by simpa using h)
  | some y => exact .inl (by simpa using h)
theorem joinF_len {x y z : FT} {s : List UInt8} (h : joinF x y z = some s) (hx : FTok x) : s.length ≤ 65536 := by
  unfold joinF at h
  split at h
  · cases h
    unfold joinT
    split
    · have := joinS_len (x.1 + 1) (y.1 + 1) (z.1 + 1) x.2.2.2 y.2.2.2 z.2.2.2 x.2.1
      have := hx.2.1
      omega
    · simp
  · cases h
theorem sing_len {x y : FT} {s : List UInt8} (hx : FTok x) : ∀ l, sing x y l = some s → s.length ≤ 65536
  | [], h => by cases h
  | z :: l, h => by
    rcases or_some h with h | h
    · exact joinF_len h hx
    · exact sing_len hx l h
theorem pairs_len {x : FT} {s : List UInt8} (hx : FTok x) : ∀ l, pairs x l = some s → s.length ≤ 65536
  | [], h => by cases h
  | z :: l, h => by
    rcases or_some h with h | h
    · exact sing_len hx l h
    · exact pairs_len hx l h
theorem tri_len {s : List UInt8} : ∀ l : List FT, (∀ x ∈ l, FTok x) → tri l = some s → s.length ≤ 65536
  | [], _, h => by cases h
  | z :: l, hx, h => by
    rcases or_some h with h | h
    · exact pairs_len (hx z (by simp)) l h
    · exact tri_len l (fun x hx' => hx x (by simp [hx'])) h
theorem told_bnd {s : Store} (h1 : Bnd s) (h2 : lok s) (name : List UInt8) : Bnd (toldS s name).1 ∧ lok (toldS s name).1 ∧ (toldS s name).2.1.length < 1000000 := by
  obtain ⟨a, b, c⟩ := fiveS_bnd h1 h2 name
  unfold toldS
  split
  · unfold voteS
    split
    · exact ⟨h1, h2, by simp⟩
    · refine ⟨a, b, ?_⟩
      dsimp only
      unfold voteR
      split
      · rename_i t e
        exact c t (List.mem_of_find?_eq_some e)
      · simp
  · unfold rdS
    split
    · exact ⟨h1, h2, by simp⟩
    · refine ⟨a, b, ?_⟩
      dsimp only
      unfold rdR
      split
      · rename_i t e
        have := tri_len _ (fun f hf => ((partsN_ok name _ 5 (Nat.le_refl _)).1 f hf).1) e
        dsimp only
        omega
      · simp
noncomputable def lookN (name data : List UInt8) (s : Store) : Nat → Store × List Int × Bool
  | 0 => (s, [], false)
  | n + 1 => if (lookN name data s n).1.left = 0 then ((lookN name data s n).1, (lookN name data s n).2.1, true) else
    ((powS (lookN name data s n).1).set n (getS ((lookN name data s n).1.get n) name).1,
      (if (getS ((lookN name data s n).1.get n) name).2.2 = 0 ∧ (getS ((lookN name data s n).1.get n) name).2.1 = shouldS name data n then (lookN name data s n).2.1 else (lookN name data s n).2.1 ++ [(n : Int)]),
      (lookN name data s n).2.2)
theorem lookN_succ (name data : List UInt8) (s : Store) (n : Nat) : lookN name data s (n + 1) = if (lookN name data s n).1.left = 0 then ((lookN name data s n).1, (lookN name data s n).2.1, true) else
    ((powS (lookN name data s n).1).set n (getS ((lookN name data s n).1.get n) name).1,
      (if (getS ((lookN name data s n).1.get n) name).2.2 = 0 ∧ (getS ((lookN name data s n).1.get n) name).2.1 = shouldS name data n then (lookN name data s n).2.1 else (lookN name data s n).2.1 ++ [(n : Int)]),
      (lookN name data s n).2.2) := rfl
noncomputable def lookS (s : Store) (name : List UInt8) : Store × List Int × List UInt8 × Int :=
  if (toldS s name).2.2 ≠ 0 then ((toldS s name).1, [], [], (toldS s name).2.2) else
  if (lookN name (toldS s name).2.1 (toldS s name).1 5).2.2 then ((lookN name (toldS s name).2.1 (toldS s name).1 5).1, [], [], 17) else
    ((lookN name (toldS s name).2.1 (toldS s name).1 5).1, (lookN name (toldS s name).2.1 (toldS s name).1 5).2.1, (toldS s name).2.1, 0)
theorem lookN_ok (name data : List UInt8) (s : Store) (h1 : Bnd s) (h2 : lok s) : ∀ n, n ≤ 5 → Bnd (lookN name data s n).1 ∧ lok (lookN name data s n).1 ∧ (lookN name data s n).2.1.length ≤ n
  | 0, _ => ⟨h1, h2, Nat.le_refl _⟩
  | n + 1, h => by
    obtain ⟨a, b, c⟩ := lookN_ok name data s h1 h2 n (by omega)
    have hc := call_bnd a name n (by omega)
    have hd := lok_call (getF name) n _ b
    rw [lookN]
    split
    · exact ⟨a, b, by dsimp only; omega⟩
    · rename_i e
      unfold callF at hc hd
      rw [if_neg e] at hc hd
      refine ⟨hc.1, hd, ?_⟩
      dsimp only
      split
      · omega
      · simp; omega
end Go.Ab
namespace Go.Ab
open Go Go.Proofs
theorem bsl_len32 (l : List AV) (h : l.length = 32) : l.take 32 = l := List.take_of_length_le (by omega)
variable [Glob] [LibC]
set_option maxHeartbeats 2000000

theorem sh1_c (data : List UInt8) (i : Int) : APure Tryz.prog 77 [.int .i64 i, .cp [.str data]] (.str data) := by
  refine apure_fin mixed [] 400 Tryz.func77 Tryz.ntmps77 Tryz.results77 rfl rfl (by simp) rfl ?_
  simp (disch := first | omega | (simp only [ZL] <;> omega)) only [Z, Op.callOf, bslE, nilE, mslE, fadE, AV.cells, AV.isBot, AV.one, AV.flat, flatL, ids1, ids2, idsX, AV.lt, ltL, AObj.lt, finE, sevalprocAttr]
  exact Sub.rfl' _
theorem sh2_c (s : List UInt8) (hs : s.length < 2^40) : APure Tryz.prog 78 [.str s] (.str (sumS s)) := by
  refine apure_fin mixed [5] 400 Tryz.func78 Tryz.ntmps78 Tryz.results78 rfl rfl (by simp) rfl ?_
  simp (disch := first | omega | (simp only [ZL] <;> omega)) only [Z, Op.callOf, bslE, nilE, mslE, fadE, AV.cells, AV.isBot, AV.one, AV.flat, flatL, ids1, ids2, idsX, AV.lt, ltL, AObj.lt, finE, sevalprocAttr]
  refine callL_pure (sum_c s hs) (by simp [ltL, AV.lt]) rfl ?_
  have hsl := sumS_len s
  simp (disch := first | omega | (simp only [ZL] <;> omega)) only [Z, Op.callOf, bslE, nilE, mslE, fadE, AV.cells, AV.isBot, AV.one, AV.flat, flatL, ids1, ids2, idsX, AV.lt, ltL, AObj.lt, finE, sevalprocAttr, eB_len, hsl, eB_set0, eB_tk32, eB_aflat, eB_one, contB_box, eB_encB]

  repeat' first | exact Sub.rfl' _ | exact sub_nils _ | exact SubL.nil | refine sub_tup ?_ | refine sub_agg ?_ | refine SubL.cons ?_ ?_
theorem sh3_c [LibR] (name data : List UInt8) (i : Nat) (hi : i < 5) (h1 : name.length < 1000000) (h2 : data.length < 1000000) :
    APure Tryz.prog 79 [.int .i64 i, .cp [.sl 2 (encP (cutS data))], .cp [.str name], .cp [.str data], .cp [.fn (.func 78) [] []]] (.str (partOf name data i)) := by
  refine apure_fin mixed [27] 400 Tryz.func79 Tryz.ntmps79 Tryz.results79 rfl rfl (by simp) rfl ?_
  have hc := cutS_len data
  have hg := cutS_get data i (by omega)
  simp (disch := first | omega | (simp only [ZL] <;> omega)) only [Z, Op.callOf, bslE, nilE, mslE, fadE, AV.cells, AV.isBot, AV.one, AV.flat, flatL, ids1, ids2, idsX, AV.lt, ltL, AObj.lt, finE, sevalprocAttr, encP_len, hc, encP_at, hg]
  refine callD_pure (dec_c _ (by constructor <;> omega)) (by simp [ltL, AV.lt]) ?_
  simp (disch := first | omega | (simp only [ZL] <;> omega)) only [Z, Op.callOf, bslE, nilE, mslE, fadE, AV.cells, AV.isBot, AV.one, AV.flat, flatL, ids1, ids2, idsX, AV.lt, ltL, AObj.lt, finE, sevalprocAttr, i64_add1]
  refine callD_pure (dec_c _ (by constructor <;> omega)) (by simp [ltL, AV.lt]) ?_
  simp (disch := first | omega | (simp only [ZL] <;> omega)) only [Z, Op.callOf, bslE, nilE, mslE, fadE, AV.cells, AV.isBot, AV.one, AV.flat, flatL, ids1, ids2, idsX, AV.lt, ltL, AObj.lt, finE, sevalprocAttr]
  refine callD_pure (sh2_c data (by omega)) (by simp [ltL, AV.lt]) ?_
  simp (disch := first | omega | (simp only [ZL] <;> omega)) only [Z, Op.callOf, bslE, nilE, mslE, fadE, AV.cells, AV.isBot, AV.one, AV.flat, flatL, ids1, ids2, idsX, AV.lt, ltL, AObj.lt, finE, sevalprocAttr]
  refine callD_pure (sh2_c (partB data (i + 1)) (by rw [partB_len]; unfold rowsN; omega)) (by simp [ltL, AV.lt]) ?_
  simp (disch := first | omega | (simp only [ZL] <;> omega)) only [Z, Op.callOf, bslE, nilE, mslE, fadE, AV.cells, AV.isBot, AV.one, AV.flat, flatL, ids1, ids2, idsX, AV.lt, ltL, AObj.lt, finE, sevalprocAttr]
  refine callD_pure (LibR.row [hibsB, name, decB (data.length : Int), decB ((i + 1 : Nat) : Int), sumS data, sumS (partB data (i + 1)), partB data (i + 1)] (by simp) (part_ok hi h1 h2)) (by simp [ltL, AV.lt]) ?_
  simp (disch := first | omega | (simp only [ZL] <;> omega)) only [Z, Op.callOf, bslE, nilE, mslE, fadE, AV.cells, AV.isBot, AV.one, AV.flat, flatL, ids1, ids2, idsX, AV.lt, ltL, AObj.lt, finE, sevalprocAttr]
  refine okK_of (by kernel_rfl) ?_
  simp (disch := first | omega | (simp only [ZL] <;> omega)) only [Z, Op.callOf, bslE, nilE, mslE, fadE, AV.cells, AV.isBot, AV.one, AV.flat, flatL, ids1, ids2, idsX, AV.lt, ltL, AObj.lt, finE, sevalprocAttr]
  exact Sub.rfl' _
end Go.Ab
