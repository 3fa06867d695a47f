import Derived.Test.YthgmopnabpnicaaGreatDoorZ24
set_option linter.all false
namespace Go.Ab
open Go Go.Proofs
variable [Glob] [LibC]
set_option maxHeartbeats 4000000

/-- should's answer -/
def wantV (name data : List UInt8) : AV :=
  if postedS name then .fn (.func 77) [] [.cp [.str data]] else
    .fn (.func 79) [] [.cp [.sl 2 (encP (cutS data))], .cp [.str name], .cp [.str data], .cp [.fn (.func 78) [] []]]
theorem sshould_c [LibB] (name data : List UInt8) (h2 : data.length < 1000000) : APure Tryz.prog 45 [.str name, .str data] (wantV name data) := by
  refine apure_fin mixed [] 400 Tryz.func45 Tryz.ntmps45 Tryz.results45 rfl rfl (by simp) rfl ?_
  simp (disch := first | omega | (simp only [ZL] <;> omega)) only [Z, Op.callOf, bslE, nilE, mslE, fadE, AV.cells, AV.isBot, AV.one, AV.flat, flatL, ids1, ids2, idsX, AV.lt, ltL, AObj.lt, finE, sevalprocAttr]
  refine callL_pure (posted_c name) (by simp [ltL, AV.lt]) rfl ?_
  unfold wantV
  cases c : postedS name
  · simp (disch := first | omega | (simp only [ZL] <;> omega)) only [Z, Op.callOf, bslE, nilE, mslE, fadE, AV.cells, AV.isBot, AV.one, AV.flat, flatL, ids1, ids2, idsX, AV.lt, ltL, AObj.lt, finE, sevalprocAttr]
    refine callL_pure (cut_c data (by omega)) (by simp [ltL, AV.lt]) rfl ?_
    simp (disch := first | omega | (simp only [ZL] <;> omega)) only [Z, Op.callOf, bslE, nilE, mslE, fadE, AV.cells, AV.isBot, AV.one, AV.flat, flatL, ids1, ids2, idsX, AV.lt, ltL, AObj.lt, finE, sevalprocAttr]
    exact Sub.rfl' _
  · simp (disch := first | omega | (simp only [ZL] <;> omega)) only [Z, Op.callOf, bslE, nilE, mslE, fadE, AV.cells, AV.isBot, AV.one, AV.flat, flatL, ids1, ids2, idsX, AV.lt, ltL, AObj.lt, finE, sevalprocAttr]
    exact Sub.rfl' _
theorem rget_c (s : Store) (k : Nat) (name : List UInt8) (hk : k < 5) (hl : lok s) (hs : Small s) :
    APure Tryz.prog 48 [.agg s.av, .int .i64 k, .str name] (.tup [.agg (callF (getF name) k s).1.av, .str (callF (getF name) k s).2.data, .int .i64 (callF (getF name) k s).2.err, .bool (callF (getF name) k s).2.gone]) := by
  refine apure_fin mixed [] 400 Tryz.func48 Tryz.ntmps48 Tryz.results48 rfl rfl (by simp) rfl ?_
  unfold callF
  by_cases c : s.left = 0
  · simp (disch := first | omega | (simp only [ZL, store_len, shelf_len] <;> omega)) only [Z, Op.callOf, bslE, nilE, mslE, fadE, AV.cells, AV.isBot, AV.one, AV.flat, flatL, ids1, ids2, idsX, AV.lt, ltL, AObj.lt, finE, sevalprocAttr, frzM_store, frzM_shelf, shelf_len, shelf_one, shelf_flat, shelf_lt, shelf_take, shelf_set0, store_len, store_one, store_flat, store_lt, store_left, store_setl, store_get, store_set, store_take, store_set0, c]
    repeat' first | exact Sub.rfl' _ | exact sub_nils _ | exact SubL.nil | refine sub_tup ?_ | refine sub_agg ?_ | refine SubL.cons ?_ ?_
  · have h1 : -9223372036854775808 ≤ s.left ∧ s.left ≤ 9223372036854775807 := hl
    rw [if_neg c]
    by_cases c2 : 0 < s.left
    · have hp : powS s = { s with left := s.left - 1 } := by unfold powS; rw [if_pos c2]
      simp (disch := first | omega | (simp only [ZL, store_len, shelf_len] <;> omega)) only [Z, Op.callOf, bslE, nilE, mslE, fadE, AV.cells, AV.isBot, AV.one, AV.flat, flatL, ids1, ids2, idsX, AV.lt, ltL, AObj.lt, finE, sevalprocAttr, frzM_store, frzM_shelf, shelf_len, shelf_one, shelf_flat, shelf_lt, shelf_take, shelf_set0, store_len, store_one, store_flat, store_lt, store_left, store_setl, store_get, store_set, store_take, store_set0, c, c2]
      rw [← hp]
      have e2 : ((powS s).get k).objs.length < 2^40 := by rw [powS_get]; exact (hs k hk).1
      have e3 : ((powS s).get k).fates.length < 2^40 := by rw [powS_get]; exact (hs k hk).2
      refine callL_pure (get36_c _ name e2 e3) (by simp [ltL, AV.lt, store_lt, shelf_lt]) rfl ?_
      simp (disch := first | omega | (simp only [ZL, store_len, shelf_len] <;> omega)) only [Z, Op.callOf, bslE, nilE, mslE, fadE, AV.cells, AV.isBot, AV.one, AV.flat, flatL, ids1, ids2, idsX, AV.lt, ltL, AObj.lt, finE, sevalprocAttr, frzM_store, frzM_shelf, shelf_len, shelf_one, shelf_flat, shelf_lt, shelf_take, shelf_set0, store_len, store_one, store_flat, store_lt, store_left, store_setl, store_get, store_set, store_take, store_set0]
      simp only [powS_get]
      repeat' first | exact Sub.rfl' _ | exact sub_nils _ | exact SubL.nil | refine sub_tup ?_ | refine sub_agg ?_ | refine SubL.cons ?_ ?_
    · have hp : powS s = s := by unfold powS; rw [if_neg c2]
      simp (disch := first | omega | (simp only [ZL, store_len, shelf_len] <;> omega)) only [Z, Op.callOf, bslE, nilE, mslE, fadE, AV.cells, AV.isBot, AV.one, AV.flat, flatL, ids1, ids2, idsX, AV.lt, ltL, AObj.lt, finE, sevalprocAttr, frzM_store, frzM_shelf, shelf_len, shelf_one, shelf_flat, shelf_lt, shelf_take, shelf_set0, store_len, store_one, store_flat, store_lt, store_left, store_setl, store_get, store_set, store_take, store_set0, c, c2]
      rw [show s.get k = (powS s).get k by rw [hp]]
      have e2 : ((powS s).get k).objs.length < 2^40 := by rw [powS_get]; exact (hs k hk).1
      have e3 : ((powS s).get k).fates.length < 2^40 := by rw [powS_get]; exact (hs k hk).2
      refine callL_pure (get36_c _ name e2 e3) (by simp [ltL, AV.lt, store_lt, shelf_lt]) rfl ?_
      simp (disch := first | omega | (simp only [ZL, store_len, shelf_len] <;> omega)) only [Z, Op.callOf, bslE, nilE, mslE, fadE, AV.cells, AV.isBot, AV.one, AV.flat, flatL, ids1, ids2, idsX, AV.lt, ltL, AObj.lt, finE, sevalprocAttr, frzM_store, frzM_shelf, shelf_len, shelf_one, shelf_flat, shelf_lt, shelf_take, shelf_set0, store_len, store_one, store_flat, store_lt, store_left, store_setl, store_get, store_set, store_take, store_set0]
      rw [hp]
      repeat' first | exact Sub.rfl' _ | exact sub_nils _ | exact SubL.nil | refine sub_tup ?_ | refine sub_agg ?_ | refine SubL.cons ?_ ?_
end Go.Ab
namespace Go.Ab
open Go Go.Proofs
theorem encI_snoc (l : List Int) (n : Int) : encI (l ++ [n]) = encI l ++ [[.int .i64 n]] := by simp [encI]
theorem powS_pos {s : Store} (h : 0 < s.left) : powS s = { s with left := s.left - 1 } := by unfold powS; rw [if_pos h]
theorem powS_neg {s : Store} (h : ¬ 0 < s.left) : powS s = s := by unfold powS; rw [if_neg h]
variable [Glob] [LibC]
set_option maxHeartbeats 4000000

theorem want_ok [LibR] (name data : List UInt8) (h1 : name.length < 1000000) (h2 : data.length < 1000000) :
    ∃ fid ca, wantV name data = .fn (.func fid) [] ca ∧ ltL 0 ca ∧ ∀ i : Nat, i < 5 → APure Tryz.prog fid ([] ++ [.int .i64 i] ++ ca) (.str (shouldS name data i)) := by
  unfold wantV shouldS
  cases c : postedS name
  · exact ⟨_, _, rfl, by simp [ltL, AV.lt], fun i hi => sh3_c name data i hi h1 h2⟩
  · exact ⟨_, _, rfl, by simp [ltL, AV.lt], fun i hi => sh1_c data i⟩

theorem slook_c [LibB] [LibR] (s : Store) (name : List UInt8) (hl : lok s) (hs : Bnd s) (h1 : name.length < 1000000) :
    APure Tryz.prog 24 [.agg s.av, .str name] (.tup [.agg (lookS s name).1.av, .sl 1 (encI (lookS s name).2.1), .str (lookS s name).2.2.1, .int .i64 (lookS s name).2.2.2]) := by
  refine apure_fin mixed [] 400 Tryz.func24 Tryz.ntmps24 Tryz.results24 rfl rfl (by simp) rfl ?_
  simp (disch := first | omega | (simp only [ZL, store_len, shelf_len] <;> omega)) only [Z, Op.callOf, bslE, nilE, mslE, fadE, AV.cells, AV.isBot, AV.one, AV.flat, flatL, ids1, ids2, idsX, AV.lt, ltL, AObj.lt, finE, sevalprocAttr, frzM_store, frzM_shelf, shelf_len, shelf_one, shelf_flat, shelf_lt, shelf_take, shelf_set0, store_len, store_one, store_flat, store_lt, store_left, store_setl, store_get, store_set, store_take, store_set0]
  have hfd := (fiveS_bnd hs hl name).2.2
  refine callL_pure (asked_c s name hl hs.small fun t ht => by have := hfd t ht; omega) (by simp [ltL, AV.lt, store_lt, shelf_lt]) rfl ?_
  obtain ⟨b1, b2, b3⟩ := told_bnd hs hl name
  unfold lookS
  generalize toldS s name = q at *
  obtain ⟨s', data, e⟩ := q
  dsimp only at b1 b2 b3 ⊢
  by_cases c : e = 0
  rotate_left
  · rw [if_pos c]
    simp (disch := first | omega | (simp only [ZL, store_len, shelf_len] <;> omega)) only [Z, Op.callOf, bslE, nilE, mslE, fadE, AV.cells, AV.isBot, AV.one, AV.flat, flatL, ids1, ids2, idsX, AV.lt, ltL, AObj.lt, finE, sevalprocAttr, frzM_store, frzM_shelf, shelf_len, shelf_one, shelf_flat, shelf_lt, shelf_take, shelf_set0, store_len, store_one, store_flat, store_lt, store_left, store_setl, store_get, store_set, store_take, store_set0, c]
    repeat' first | exact Sub.rfl' _ | exact sub_nils _ | exact SubL.nil | refine sub_tup ?_ | refine sub_agg ?_ | refine SubL.cons ?_ ?_
  rw [if_neg (by simp [c])]
  subst c
  simp (disch := first | omega | (simp only [ZL, store_len, shelf_len] <;> omega)) only [Z, Op.callOf, bslE, nilE, mslE, fadE, AV.cells, AV.isBot, AV.one, AV.flat, flatL, ids1, ids2, idsX, AV.lt, ltL, AObj.lt, finE, sevalprocAttr, frzM_store, frzM_shelf, shelf_len, shelf_one, shelf_flat, shelf_lt, shelf_take, shelf_set0, store_len, store_one, store_flat, store_lt, store_left, store_setl, store_get, store_set, store_take, store_set0]
  refine callL_pure (sshould_c name data b3) (by simp [ltL, AV.lt]) rfl ?_
  obtain ⟨fid, ca, hw, hca, hf⟩ := want_ok name data h1 b3
  rw [hw]
  simp (disch := first | omega | (simp only [ZL, store_len, shelf_len] <;> omega)) only [Z, Op.callOf, bslE, nilE, mslE, fadE, AV.cells, AV.isBot, AV.one, AV.flat, flatL, ids1, ids2, idsX, AV.lt, ltL, AObj.lt, finE, sevalprocAttr, frzM_store, frzM_shelf, shelf_len, shelf_one, shelf_flat, shelf_lt, shelf_take, shelf_set0, store_len, store_one, store_flat, store_lt, store_left, store_setl, store_get, store_set, store_take, store_set0]
  refine loopG_row0 1 10 rfl ?_
  simp (disch := first | omega | (simp only [ZL] <;> omega)) only [Z, Op.callOf, bslE, nilE, mslE, fadE, AV.cells, AV.isBot, AV.one, AV.flat, flatL, ids1, ids2, idsX, AV.lt, ltL, AObj.lt, finE, sevalprocAttr]
  refine loopF mixed (fun k : Nat => mk [(1, .str name), (2, .ptr 0 0), (4, .ptr 1 0), (8, .str data), (10, .row 22 (lookN name data s' k).2.1.length 0 (lookN name data s' k).2.1.length), (11, .bool (lookN name data s' k).2.2), (12, .fn (.func fid) [] ca), (31, .int .i64 k)]
      [(0, .box (lookN name data s' k).1.av), (1, .box [.nils, .nils, .nils, .nils, .nils, .nils, .nils, .nils, .nils, .nils, .int .i64 0]), (22, .row 1 (lookN name data s' k).2.1.length (encI (lookN name data s' k).2.1))] 23)
    (fun k => k ≤ 5) (fun k => 5 - k) 0 400 rfl rfl (by omega) ?_ ?_
  · refine less_mk (by simp) (by simp) ?_ ?_ <;> simp (disch := first | omega | (simp only [ZL, store_len, shelf_len] <;> omega)) only [Z, Op.callOf, bslE, nilE, mslE, fadE, AV.cells, AV.isBot, AV.one, AV.flat, flatL, ids1, ids2, idsX, AV.lt, ltL, AObj.lt, finE, sevalprocAttr, frzM_store, frzM_shelf, shelf_len, shelf_one, shelf_flat, shelf_lt, shelf_take, shelf_set0, store_len, store_one, store_flat, store_lt, store_left, store_setl, store_get, store_set, store_take, store_set0, lookN, List.length_nil]
    · exact ltL0 23 hca
    · exact rfl
  intro k hk
  obtain ⟨hb, hlo, hln⟩ := lookN_ok name data s' b1 b2 k hk
  have hN := lookN_succ name data s' k
  simp (disch := first | omega | (simp only [ZL, store_len, shelf_len] <;> omega)) only [Z, Op.callOf, bslE, nilE, mslE, fadE, AV.cells, AV.isBot, AV.one, AV.flat, flatL, ids1, ids2, idsX, AV.lt, ltL, AObj.lt, finE, sevalprocAttr, frzM_store, frzM_shelf, shelf_len, shelf_one, shelf_flat, shelf_lt, shelf_take, shelf_set0, store_len, store_one, store_flat, store_lt, store_left, store_setl, store_get, store_set, store_take, store_set0]
  refine condG_p (fun e => ?_) (fun e => ?_)
  · have hk' : k < 5 := by omega
    generalize lookN name data s' k = q at *
    obtain ⟨st, out, g⟩ := q
    dsimp only at hb hlo hln hN ⊢
    have hlo' : -9223372036854775808 ≤ st.left ∧ st.left ≤ 9223372036854775807 := hlo
    by_cases c0 : st.left = 0
    · rw [if_pos c0] at hN
      simp (disch := first | omega | (simp only [ZL, store_len, shelf_len] <;> omega)) only [Z, Op.callOf, bslE, nilE, mslE, fadE, AV.cells, AV.isBot, AV.one, AV.flat, flatL, ids1, ids2, idsX, AV.lt, ltL, AObj.lt, finE, sevalprocAttr, frzM_store, frzM_shelf, shelf_len, shelf_one, shelf_flat, shelf_lt, shelf_take, shelf_set0, store_len, store_one, store_flat, store_lt, store_left, store_setl, store_get, store_set, store_take, store_set0, c0]
      refine finR_of (k + 1) (by omega) (by omega) ?_
      rw [hN]
      refine less_mk (by simp) (by simp) ?_ ?_ <;> simp (disch := first | omega | (simp only [ZL, store_len, shelf_len] <;> omega)) only [Z, Op.callOf, bslE, nilE, mslE, fadE, AV.cells, AV.isBot, AV.one, AV.flat, flatL, ids1, ids2, idsX, AV.lt, ltL, AObj.lt, finE, sevalprocAttr, frzM_store, frzM_shelf, shelf_len, shelf_one, shelf_flat, shelf_lt, shelf_take, shelf_set0, store_len, store_one, store_flat, store_lt, store_left, store_setl, store_get, store_set, store_take, store_set0, i64_add1]
      exact ltL0 23 hca
    rw [if_neg c0] at hN
    obtain ⟨gr, hgr⟩ : ∃ gr, gr = getS (st.get k) name := ⟨_, rfl⟩
    by_cases c1 : 0 < st.left
    · have hp := powS_pos c1
      simp (disch := first | omega | (simp only [ZL, store_len, shelf_len] <;> omega)) only [Z, Op.callOf, bslE, nilE, mslE, fadE, AV.cells, AV.isBot, AV.one, AV.flat, flatL, ids1, ids2, idsX, AV.lt, ltL, AObj.lt, finE, sevalprocAttr, frzM_store, frzM_shelf, shelf_len, shelf_one, shelf_flat, shelf_lt, shelf_take, shelf_set0, store_len, store_one, store_flat, store_lt, store_left, store_setl, store_get, store_set, store_take, store_set0, c0, c1]
      rw [← hp]
      have e2 : ((powS st).get k).objs.length < 2^40 := by rw [powS_get]; exact (hb k hk').1
      have e3 : ((powS st).get k).fates.length < 2^40 := by rw [powS_get]; exact (hb k hk').2.1
      refine callL_pure (get_c _ name e2 e3) (by simp [ltL, AV.lt, store_lt, shelf_lt]) rfl ?_
      rw [powS_get]
      rw [← hgr] at hN ⊢
      by_cases d1 : gr.2.2 = 0
      · by_cases d2 : gr.2.1 = shouldS name data k
        · simp (disch := first | omega | (simp only [ZL, store_len, shelf_len] <;> omega)) only [Z, Op.callOf, bslE, nilE, mslE, fadE, AV.cells, AV.isBot, AV.one, AV.flat, flatL, ids1, ids2, idsX, AV.lt, ltL, AObj.lt, finE, sevalprocAttr, frzM_store, frzM_shelf, shelf_len, shelf_one, shelf_flat, shelf_lt, shelf_take, shelf_set0, store_len, store_one, store_flat, store_lt, store_left, store_setl, store_get, store_set, store_take, store_set0, d1]
          refine callL_pure (hf k hk') (by simp [ltL, AV.lt, hca]) rfl ?_
          simp (disch := first | omega | (simp only [ZL, store_len, shelf_len] <;> omega)) only [Z, Op.callOf, bslE, nilE, mslE, fadE, AV.cells, AV.isBot, AV.one, AV.flat, flatL, ids1, ids2, idsX, AV.lt, ltL, AObj.lt, finE, sevalprocAttr, frzM_store, frzM_shelf, shelf_len, shelf_one, shelf_flat, shelf_lt, shelf_take, shelf_set0, store_len, store_one, store_flat, store_lt, store_left, store_setl, store_get, store_set, store_take, store_set0, d1, d2]
          rw [if_pos ⟨d1, d2⟩] at hN
          refine finR_of (k + 1) (by omega) (by omega) ?_
          rw [hN]
          refine less_mk (by simp) (by simp) ?_ ?_ <;> simp (disch := first | omega | (simp only [ZL, store_len, shelf_len] <;> omega)) only [Z, Op.callOf, bslE, nilE, mslE, fadE, AV.cells, AV.isBot, AV.one, AV.flat, flatL, ids1, ids2, idsX, AV.lt, ltL, AObj.lt, finE, sevalprocAttr, frzM_store, frzM_shelf, shelf_len, shelf_one, shelf_flat, shelf_lt, shelf_take, shelf_set0, store_len, store_one, store_flat, store_lt, store_left, store_setl, store_get, store_set, store_take, store_set0, i64_add1]
          exact ltL0 23 hca
        · simp (disch := first | omega | (simp only [ZL, store_len, shelf_len] <;> omega)) only [Z, Op.callOf, bslE, nilE, mslE, fadE, AV.cells, AV.isBot, AV.one, AV.flat, flatL, ids1, ids2, idsX, AV.lt, ltL, AObj.lt, finE, sevalprocAttr, frzM_store, frzM_shelf, shelf_len, shelf_one, shelf_flat, shelf_lt, shelf_take, shelf_set0, store_len, store_one, store_flat, store_lt, store_left, store_setl, store_get, store_set, store_take, store_set0, d1]
          refine callL_pure (hf k hk') (by simp [ltL, AV.lt, hca]) rfl ?_
          simp (disch := first | omega | (simp only [ZL, store_len, shelf_len] <;> omega)) only [Z, Op.callOf, bslE, nilE, mslE, fadE, AV.cells, AV.isBot, AV.one, AV.flat, flatL, ids1, ids2, idsX, AV.lt, ltL, AObj.lt, finE, sevalprocAttr, frzM_store, frzM_shelf, shelf_len, shelf_one, shelf_flat, shelf_lt, shelf_take, shelf_set0, store_len, store_one, store_flat, store_lt, store_left, store_setl, store_get, store_set, store_take, store_set0, d1, d2, encI_len]
          rw [if_neg fun h => d2 h.2] at hN
          refine finR_of (k + 1) (by omega) (by omega) ?_
          rw [hN]
          refine less_mk (by simp) (by simp) ?_ ?_ <;> simp (disch := first | omega | (simp only [ZL, store_len, shelf_len] <;> omega)) only [Z, Op.callOf, bslE, nilE, mslE, fadE, AV.cells, AV.isBot, AV.one, AV.flat, flatL, ids1, ids2, idsX, AV.lt, ltL, AObj.lt, finE, sevalprocAttr, frzM_store, frzM_shelf, shelf_len, shelf_one, shelf_flat, shelf_lt, shelf_take, shelf_set0, store_len, store_one, store_flat, store_lt, store_left, store_setl, store_get, store_set, store_take, store_set0, i64_add1, encI_snoc]
          exact ltL0 23 hca
      · simp (disch := first | omega | (simp only [ZL, store_len, shelf_len] <;> omega)) only [Z, Op.callOf, bslE, nilE, mslE, fadE, AV.cells, AV.isBot, AV.one, AV.flat, flatL, ids1, ids2, idsX, AV.lt, ltL, AObj.lt, finE, sevalprocAttr, frzM_store, frzM_shelf, shelf_len, shelf_one, shelf_flat, shelf_lt, shelf_take, shelf_set0, store_len, store_one, store_flat, store_lt, store_left, store_setl, store_get, store_set, store_take, store_set0, d1, encI_len]
        rw [if_neg fun h => d1 h.1] at hN
        refine finR_of (k + 1) (by omega) (by omega) ?_
        rw [hN]
        refine less_mk (by simp) (by simp) ?_ ?_ <;> simp (disch := first | omega | (simp only [ZL, store_len, shelf_len] <;> omega)) only [Z, Op.callOf, bslE, nilE, mslE, fadE, AV.cells, AV.isBot, AV.one, AV.flat, flatL, ids1, ids2, idsX, AV.lt, ltL, AObj.lt, finE, sevalprocAttr, frzM_store, frzM_shelf, shelf_len, shelf_one, shelf_flat, shelf_lt, shelf_take, shelf_set0, store_len, store_one, store_flat, store_lt, store_left, store_setl, store_get, store_set, store_take, store_set0, i64_add1, encI_snoc]
        exact ltL0 23 hca
    · have hp := powS_neg c1
      simp (disch := first | omega | (simp only [ZL, store_len, shelf_len] <;> omega)) only [Z, Op.callOf, bslE, nilE, mslE, fadE, AV.cells, AV.isBot, AV.one, AV.flat, flatL, ids1, ids2, idsX, AV.lt, ltL, AObj.lt, finE, sevalprocAttr, frzM_store, frzM_shelf, shelf_len, shelf_one, shelf_flat, shelf_lt, shelf_take, shelf_set0, store_len, store_one, store_flat, store_lt, store_left, store_setl, store_get, store_set, store_take, store_set0, c0, c1]
      rw [← hp]
      have e2 : ((powS st).get k).objs.length < 2^40 := by rw [powS_get]; exact (hb k hk').1
      have e3 : ((powS st).get k).fates.length < 2^40 := by rw [powS_get]; exact (hb k hk').2.1
      refine callL_pure (get_c _ name e2 e3) (by simp [ltL, AV.lt, store_lt, shelf_lt]) rfl ?_
      rw [powS_get]
      rw [← hgr] at hN ⊢
      by_cases d1 : gr.2.2 = 0
      · by_cases d2 : gr.2.1 = shouldS name data k
        · simp (disch := first | omega | (simp only [ZL, store_len, shelf_len] <;> omega)) only [Z, Op.callOf, bslE, nilE, mslE, fadE, AV.cells, AV.isBot, AV.one, AV.flat, flatL, ids1, ids2, idsX, AV.lt, ltL, AObj.lt, finE, sevalprocAttr, frzM_store, frzM_shelf, shelf_len, shelf_one, shelf_flat, shelf_lt, shelf_take, shelf_set0, store_len, store_one, store_flat, store_lt, store_left, store_setl, store_get, store_set, store_take, store_set0, d1]
          refine callL_pure (hf k hk') (by simp [ltL, AV.lt, hca]) rfl ?_
          simp (disch := first | omega | (simp only [ZL, store_len, shelf_len] <;> omega)) only [Z, Op.callOf, bslE, nilE, mslE, fadE, AV.cells, AV.isBot, AV.one, AV.flat, flatL, ids1, ids2, idsX, AV.lt, ltL, AObj.lt, finE, sevalprocAttr, frzM_store, frzM_shelf, shelf_len, shelf_one, shelf_flat, shelf_lt, shelf_take, shelf_set0, store_len, store_one, store_flat, store_lt, store_left, store_setl, store_get, store_set, store_take, store_set0, d1, d2]
          rw [if_pos ⟨d1, d2⟩] at hN
          refine finR_of (k + 1) (by omega) (by omega) ?_
          rw [hN]
          refine less_mk (by simp) (by simp) ?_ ?_ <;> simp (disch := first | omega | (simp only [ZL, store_len, shelf_len] <;> omega)) only [Z, Op.callOf, bslE, nilE, mslE, fadE, AV.cells, AV.isBot, AV.one, AV.flat, flatL, ids1, ids2, idsX, AV.lt, ltL, AObj.lt, finE, sevalprocAttr, frzM_store, frzM_shelf, shelf_len, shelf_one, shelf_flat, shelf_lt, shelf_take, shelf_set0, store_len, store_one, store_flat, store_lt, store_left, store_setl, store_get, store_set, store_take, store_set0, i64_add1]
          exact ltL0 23 hca
        · simp (disch := first | omega | (simp only [ZL, store_len, shelf_len] <;> omega)) only [Z, Op.callOf, bslE, nilE, mslE, fadE, AV.cells, AV.isBot, AV.one, AV.flat, flatL, ids1, ids2, idsX, AV.lt, ltL, AObj.lt, finE, sevalprocAttr, frzM_store, frzM_shelf, shelf_len, shelf_one, shelf_flat, shelf_lt, shelf_take, shelf_set0, store_len, store_one, store_flat, store_lt, store_left, store_setl, store_get, store_set, store_take, store_set0, d1]
          refine callL_pure (hf k hk') (by simp [ltL, AV.lt, hca]) rfl ?_
          simp (disch := first | omega | (simp only [ZL, store_len, shelf_len] <;> omega)) only [Z, Op.callOf, bslE, nilE, mslE, fadE, AV.cells, AV.isBot, AV.one, AV.flat, flatL, ids1, ids2, idsX, AV.lt, ltL, AObj.lt, finE, sevalprocAttr, frzM_store, frzM_shelf, shelf_len, shelf_one, shelf_flat, shelf_lt, shelf_take, shelf_set0, store_len, store_one, store_flat, store_lt, store_left, store_setl, store_get, store_set, store_take, store_set0, d1, d2, encI_len]
          rw [if_neg fun h => d2 h.2] at hN
          refine finR_of (k + 1) (by omega) (by omega) ?_
          rw [hN]
          refine less_mk (by simp) (by simp) ?_ ?_ <;> simp (disch := first | omega | (simp only [ZL, store_len, shelf_len] <;> omega)) only [Z, Op.callOf, bslE, nilE, mslE, fadE, AV.cells, AV.isBot, AV.one, AV.flat, flatL, ids1, ids2, idsX, AV.lt, ltL, AObj.lt, finE, sevalprocAttr, frzM_store, frzM_shelf, shelf_len, shelf_one, shelf_flat, shelf_lt, shelf_take, shelf_set0, store_len, store_one, store_flat, store_lt, store_left, store_setl, store_get, store_set, store_take, store_set0, i64_add1, encI_snoc]
          exact ltL0 23 hca
      · simp (disch := first | omega | (simp only [ZL, store_len, shelf_len] <;> omega)) only [Z, Op.callOf, bslE, nilE, mslE, fadE, AV.cells, AV.isBot, AV.one, AV.flat, flatL, ids1, ids2, idsX, AV.lt, ltL, AObj.lt, finE, sevalprocAttr, frzM_store, frzM_shelf, shelf_len, shelf_one, shelf_flat, shelf_lt, shelf_take, shelf_set0, store_len, store_one, store_flat, store_lt, store_left, store_setl, store_get, store_set, store_take, store_set0, d1, encI_len]
        rw [if_neg fun h => d1 h.1] at hN
        refine finR_of (k + 1) (by omega) (by omega) ?_
        rw [hN]
        refine less_mk (by simp) (by simp) ?_ ?_ <;> simp (disch := first | omega | (simp only [ZL, store_len, shelf_len] <;> omega)) only [Z, Op.callOf, bslE, nilE, mslE, fadE, AV.cells, AV.isBot, AV.one, AV.flat, flatL, ids1, ids2, idsX, AV.lt, ltL, AObj.lt, finE, sevalprocAttr, frzM_store, frzM_shelf, shelf_len, shelf_one, shelf_flat, shelf_lt, shelf_take, shelf_set0, store_len, store_one, store_flat, store_lt, store_left, store_setl, store_get, store_set, store_take, store_set0, i64_add1, encI_snoc]
        exact ltL0 23 hca
  · have : k = 5 := by omega
    subst this
    generalize lookN name data s' 5 = q at *
    obtain ⟨st, out, g⟩ := q
    dsimp only at hb hlo hln ⊢
    cases g
    · have htk : (encI out).take out.length = encI out := List.take_of_length_le (by simp [encI])
      simp (disch := first | omega | (simp only [ZL, store_len, shelf_len] <;> omega)) only [Z, Op.callOf, bslE, nilE, mslE, fadE, AV.cells, AV.isBot, AV.one, AV.flat, flatL, ids1, ids2, idsX, AV.lt, ltL, AObj.lt, finE, sevalprocAttr, frzM_store, frzM_shelf, shelf_len, shelf_one, shelf_flat, shelf_lt, shelf_take, shelf_set0, store_len, store_one, store_flat, store_lt, store_left, store_setl, store_get, store_set, store_take, store_set0, encI_len, htk]
      repeat' first | exact Sub.rfl' _ | exact sub_nils _ | exact SubL.nil | refine sub_tup ?_ | refine sub_agg ?_ | refine SubL.cons ?_ ?_
    · simp (disch := first | omega | (simp only [ZL, store_len, shelf_len] <;> omega)) only [Z, Op.callOf, bslE, nilE, mslE, fadE, AV.cells, AV.isBot, AV.one, AV.flat, flatL, ids1, ids2, idsX, AV.lt, ltL, AObj.lt, finE, sevalprocAttr, frzM_store, frzM_shelf, shelf_len, shelf_one, shelf_flat, shelf_lt, shelf_take, shelf_set0, store_len, store_one, store_flat, store_lt, store_left, store_setl, store_get, store_set, store_take, store_set0]
      repeat' first | exact Sub.rfl' _ | exact sub_nils _ | exact SubL.nil | refine sub_tup ?_ | refine sub_agg ?_ | refine SubL.cons ?_ ?_
end Go.Ab
namespace Go.Ab
open Go Go.Proofs
variable [Glob] [LibC]
set_option maxHeartbeats 4000000

theorem rlook_c (s : Store) (name : List UInt8) (hl : lok s) (hs : Bnd s) (h1 : name.length < 1000000) :
    APure Tryz.prog 25 [.agg s.av, .str name] (.tup [.agg (lookS s name).1.av, .sl 1 (encI (lookS s name).2.1), .str (lookS s name).2.2.1, .int .i64 (lookS s name).2.2.2]) := by
  refine apure_fin mixed [] 400 Tryz.func25 Tryz.ntmps25 Tryz.results25 rfl rfl (by simp) rfl ?_
  simp (disch := first | omega | (simp only [ZL, store_len, shelf_len] <;> omega)) only [Z, Op.callOf, bslE, nilE, mslE, fadE, AV.cells, AV.isBot, AV.one, AV.flat, flatL, ids1, ids2, idsX, AV.lt, ltL, AObj.lt, finE, sevalprocAttr, frzM_store, frzM_shelf, shelf_len, shelf_one, shelf_flat, shelf_lt, shelf_take, shelf_set0, store_len, store_one, store_flat, store_lt, store_left, store_setl, store_get, store_set, store_take, store_set0]
  have hfd := (fiveS_bnd hs hl name).2.2
  refine callL_pure (rtold_c s name hl hs.small (by omega) fun t ht => by have := hfd t ht; omega) (by simp [ltL, AV.lt, store_lt, shelf_lt]) rfl ?_
  obtain ⟨b1, b2, b3⟩ := told_bnd hs hl name
  unfold lookS
  generalize toldS s name = q at *
  obtain ⟨s', data, e⟩ := q
  dsimp only at b1 b2 b3 ⊢
  by_cases c : e = 0
  rotate_left
  · rw [if_pos c]
    simp (disch := first | omega | (simp only [ZL, store_len, shelf_len] <;> omega)) only [Z, Op.callOf, bslE, nilE, mslE, fadE, AV.cells, AV.isBot, AV.one, AV.flat, flatL, ids1, ids2, idsX, AV.lt, ltL, AObj.lt, finE, sevalprocAttr, frzM_store, frzM_shelf, shelf_len, shelf_one, shelf_flat, shelf_lt, shelf_take, shelf_set0, store_len, store_one, store_flat, store_lt, store_left, store_setl, store_get, store_set, store_take, store_set0, c]
    repeat' first | exact Sub.rfl' _ | exact sub_nils _ | exact SubL.nil | refine sub_tup ?_ | refine sub_agg ?_ | refine SubL.cons ?_ ?_
  rw [if_neg (by simp [c])]
  subst c
  simp (disch := first | omega | (simp only [ZL, store_len, shelf_len] <;> omega)) only [Z, Op.callOf, bslE, nilE, mslE, fadE, AV.cells, AV.isBot, AV.one, AV.flat, flatL, ids1, ids2, idsX, AV.lt, ltL, AObj.lt, finE, sevalprocAttr, frzM_store, frzM_shelf, shelf_len, shelf_one, shelf_flat, shelf_lt, shelf_take, shelf_set0, store_len, store_one, store_flat, store_lt, store_left, store_setl, store_get, store_set, store_take, store_set0]
  refine loopF mixed (fun p : Nat × List Int => mk [(1, .str name), (2, .ptr 0 0), (4, .ptr 1 0), (8, .row 5 p.2.length 0 p.2.length), (9, .str data), (11, .bool (lookN name data s' p.1).2.2), (12, .int .i64 p.1)]
      [(0, .box (lookN name data s' p.1).1.av), (1, .box [.nils, .nils, .nils, .nils, .nils, .nils, .nils, .nils, .nils, .nils, .int .i64 0]), (5, .row 1 p.2.length (encI p.2))] 16)
    (fun p => p.1 ≤ 5 ∧ p.2.length ≤ p.1 ∧ ((lookN name data s' p.1).2.2 = false → p.2 = (lookN name data s' p.1).2.1)) (fun p => 5 - p.1) (0, []) 400 rfl rfl ⟨by simp, by simp, fun _ => rfl⟩ ?_ ?_
  · refine less_mk (by simp) (by simp) ?_ ?_ <;> simp (disch := first | omega | (simp only [ZL, store_len, shelf_len] <;> omega)) only [Z, Op.callOf, bslE, nilE, mslE, fadE, AV.cells, AV.isBot, AV.one, AV.flat, flatL, ids1, ids2, idsX, AV.lt, ltL, AObj.lt, finE, sevalprocAttr, frzM_store, frzM_shelf, shelf_len, shelf_one, shelf_flat, shelf_lt, shelf_take, shelf_set0, store_len, store_one, store_flat, store_lt, store_left, store_setl, store_get, store_set, store_take, store_set0, lookN, List.length_nil]
    exact rfl
  rintro ⟨k, out⟩ ⟨hk, hln, hout⟩
  dsimp only at hk hln hout
  obtain ⟨hb, hlo, _⟩ := lookN_ok name data s' b1 b2 k hk
  have hN := lookN_succ name data s' k
  simp (disch := first | omega | (simp only [ZL, store_len, shelf_len] <;> omega)) only [Z, Op.callOf, bslE, nilE, mslE, fadE, AV.cells, AV.isBot, AV.one, AV.flat, flatL, ids1, ids2, idsX, AV.lt, ltL, AObj.lt, finE, sevalprocAttr, frzM_store, frzM_shelf, shelf_len, shelf_one, shelf_flat, shelf_lt, shelf_take, shelf_set0, store_len, store_one, store_flat, store_lt, store_left, store_setl, store_get, store_set, store_take, store_set0]
  refine condG_p (fun e => ?_) (fun e => ?_)
  · have hk' : k < 5 := by omega
    generalize lookN name data s' k = q at *
    obtain ⟨st, outN, g⟩ := q
    dsimp only at hb hlo hN hout ⊢
    simp (disch := first | omega | (simp only [ZL, store_len, shelf_len] <;> omega)) only [Z, Op.callOf, bslE, nilE, mslE, fadE, AV.cells, AV.isBot, AV.one, AV.flat, flatL, ids1, ids2, idsX, AV.lt, ltL, AObj.lt, finE, sevalprocAttr, frzM_store, frzM_shelf, shelf_len, shelf_one, shelf_flat, shelf_lt, shelf_take, shelf_set0, store_len, store_one, store_flat, store_lt, store_left, store_setl, store_get, store_set, store_take, store_set0]
    refine callL_pure (rget_c st k name hk' hlo hb.small) (by simp [ltL, AV.lt, store_lt, shelf_lt]) rfl ?_
    unfold callF
    by_cases c0 : st.left = 0
    · rw [if_pos c0] at hN ⊢
      cases g
      all_goals simp (disch := first | omega | (simp only [ZL, store_len, shelf_len] <;> omega)) only [Z, Op.callOf, bslE, nilE, mslE, fadE, AV.cells, AV.isBot, AV.one, AV.flat, flatL, ids1, ids2, idsX, AV.lt, ltL, AObj.lt, finE, sevalprocAttr, frzM_store, frzM_shelf, shelf_len, shelf_one, shelf_flat, shelf_lt, shelf_take, shelf_set0, store_len, store_one, store_flat, store_lt, store_left, store_setl, store_get, store_set, store_take, store_set0, encI_len]
      all_goals refine finR_of (k + 1, out ++ [(k : Int)]) ⟨by dsimp only; omega, by simp; omega, fun h => ?_⟩ (by dsimp only; omega) ?_
      all_goals first
        | exact absurd (show (lookN name data s' (k + 1)).2.2 = false from h) (by rw [hN]; simp)
        | skip
      all_goals dsimp only
      all_goals rw [hN]
      all_goals refine less_mk (by simp) (by simp) ?_ ?_
      all_goals simp (disch := first | omega | (simp only [ZL, store_len, shelf_len] <;> omega)) only [Z, Op.callOf, bslE, nilE, mslE, fadE, AV.cells, AV.isBot, AV.one, AV.flat, flatL, ids1, ids2, idsX, AV.lt, ltL, AObj.lt, finE, sevalprocAttr, frzM_store, frzM_shelf, shelf_len, shelf_one, shelf_flat, shelf_lt, shelf_take, shelf_set0, store_len, store_one, store_flat, store_lt, store_left, store_setl, store_get, store_set, store_take, store_set0, i64_add1, encI_snoc, List.length_append, List.length_cons, List.length_nil, Nat.zero_add]
    rw [if_neg c0] at hN ⊢
    obtain ⟨gr, hgr⟩ : ∃ gr, gr = getF name k (st.get k) := ⟨_, rfl⟩
    have hgr' : gr = getS (st.get k) name := hgr
    dsimp only
    rw [← hgr'] at hN
    rw [← hgr]
    by_cases d1 : gr.2.2 = 0
    · by_cases d2 : gr.2.1 = shouldS name data k
      · rw [if_pos ⟨d1, d2⟩] at hN
        cases g
        all_goals simp (disch := first | omega | (simp only [ZL, store_len, shelf_len] <;> omega)) only [Z, Op.callOf, bslE, nilE, mslE, fadE, AV.cells, AV.isBot, AV.one, AV.flat, flatL, ids1, ids2, idsX, AV.lt, ltL, AObj.lt, finE, sevalprocAttr, frzM_store, frzM_shelf, shelf_len, shelf_one, shelf_flat, shelf_lt, shelf_take, shelf_set0, store_len, store_one, store_flat, store_lt, store_left, store_setl, store_get, store_set, store_take, store_set0, d1]
        all_goals refine callL_pure (should_c name data k hk' h1 b3) (by simp [ltL, AV.lt]) rfl ?_
        all_goals simp (disch := first | omega | (simp only [ZL, store_len, shelf_len] <;> omega)) only [Z, Op.callOf, bslE, nilE, mslE, fadE, AV.cells, AV.isBot, AV.one, AV.flat, flatL, ids1, ids2, idsX, AV.lt, ltL, AObj.lt, finE, sevalprocAttr, frzM_store, frzM_shelf, shelf_len, shelf_one, shelf_flat, shelf_lt, shelf_take, shelf_set0, store_len, store_one, store_flat, store_lt, store_left, store_setl, store_get, store_set, store_take, store_set0, d1, d2]
        all_goals refine finR_of (k + 1, out) ⟨by dsimp only; omega, by dsimp only; omega, fun h => by dsimp only at h ⊢; rw [hN] at h ⊢; exact hout h⟩ (by dsimp only; omega) ?_
        all_goals dsimp only
        all_goals rw [hN]
        all_goals refine less_mk (by simp) (by simp) ?_ ?_
        all_goals simp (disch := first | omega | (simp only [ZL, store_len, shelf_len] <;> omega)) only [Z, Op.callOf, bslE, nilE, mslE, fadE, AV.cells, AV.isBot, AV.one, AV.flat, flatL, ids1, ids2, idsX, AV.lt, ltL, AObj.lt, finE, sevalprocAttr, frzM_store, frzM_shelf, shelf_len, shelf_one, shelf_flat, shelf_lt, shelf_take, shelf_set0, store_len, store_one, store_flat, store_lt, store_left, store_setl, store_get, store_set, store_take, store_set0, i64_add1]
      · rw [if_neg fun h => d2 h.2] at hN
        cases g
        all_goals simp (disch := first | omega | (simp only [ZL, store_len, shelf_len] <;> omega)) only [Z, Op.callOf, bslE, nilE, mslE, fadE, AV.cells, AV.isBot, AV.one, AV.flat, flatL, ids1, ids2, idsX, AV.lt, ltL, AObj.lt, finE, sevalprocAttr, frzM_store, frzM_shelf, shelf_len, shelf_one, shelf_flat, shelf_lt, shelf_take, shelf_set0, store_len, store_one, store_flat, store_lt, store_left, store_setl, store_get, store_set, store_take, store_set0, d1]
        all_goals refine callL_pure (should_c name data k hk' h1 b3) (by simp [ltL, AV.lt]) rfl ?_
        all_goals simp (disch := first | omega | (simp only [ZL, store_len, shelf_len] <;> omega)) only [Z, Op.callOf, bslE, nilE, mslE, fadE, AV.cells, AV.isBot, AV.one, AV.flat, flatL, ids1, ids2, idsX, AV.lt, ltL, AObj.lt, finE, sevalprocAttr, frzM_store, frzM_shelf, shelf_len, shelf_one, shelf_flat, shelf_lt, shelf_take, shelf_set0, store_len, store_one, store_flat, store_lt, store_left, store_setl, store_get, store_set, store_take, store_set0, d1, d2, encI_len]
        all_goals refine finR_of (k + 1, out ++ [(k : Int)]) ⟨by dsimp only; omega, by simp; omega, fun h => by dsimp only at h ⊢; rw [hN] at h ⊢; rw [hout h]⟩ (by dsimp only; omega) ?_
        all_goals dsimp only
        all_goals rw [hN]
        all_goals refine less_mk (by simp) (by simp) ?_ ?_
        all_goals simp (disch := first | omega | (simp only [ZL, store_len, shelf_len] <;> omega)) only [Z, Op.callOf, bslE, nilE, mslE, fadE, AV.cells, AV.isBot, AV.one, AV.flat, flatL, ids1, ids2, idsX, AV.lt, ltL, AObj.lt, finE, sevalprocAttr, frzM_store, frzM_shelf, shelf_len, shelf_one, shelf_flat, shelf_lt, shelf_take, shelf_set0, store_len, store_one, store_flat, store_lt, store_left, store_setl, store_get, store_set, store_take, store_set0, i64_add1, encI_snoc, List.length_append, List.length_cons, List.length_nil, Nat.zero_add]
    · rw [if_neg fun h => d1 h.1] at hN
      cases g
      all_goals simp (disch := first | omega | (simp only [ZL, store_len, shelf_len] <;> omega)) only [Z, Op.callOf, bslE, nilE, mslE, fadE, AV.cells, AV.isBot, AV.one, AV.flat, flatL, ids1, ids2, idsX, AV.lt, ltL, AObj.lt, finE, sevalprocAttr, frzM_store, frzM_shelf, shelf_len, shelf_one, shelf_flat, shelf_lt, shelf_take, shelf_set0, store_len, store_one, store_flat, store_lt, store_left, store_setl, store_get, store_set, store_take, store_set0, d1, encI_len]
      all_goals refine finR_of (k + 1, out ++ [(k : Int)]) ⟨by dsimp only; omega, by simp; omega, fun h => by dsimp only at h ⊢; rw [hN] at h ⊢; rw [hout h]⟩ (by dsimp only; omega) ?_
      all_goals dsimp only
      all_goals rw [hN]
      all_goals refine less_mk (by simp) (by simp) ?_ ?_
      all_goals simp (disch := first | omega | (simp only [ZL, store_len, shelf_len] <;> omega)) only [Z, Op.callOf, bslE, nilE, mslE, fadE, AV.cells, AV.isBot, AV.one, AV.flat, flatL, ids1, ids2, idsX, AV.lt, ltL, AObj.lt, finE, sevalprocAttr, frzM_store, frzM_shelf, shelf_len, shelf_one, shelf_flat, shelf_lt, shelf_take, shelf_set0, store_len, store_one, store_flat, store_lt, store_left, store_setl, store_get, store_set, store_take, store_set0, i64_add1, encI_snoc, List.length_append, List.length_cons, List.length_nil, Nat.zero_add]
  · have : k = 5 := by omega
    subst this
    generalize lookN name data s' 5 = q at *
    obtain ⟨st, outN, g⟩ := q
    dsimp only at hb hlo hln hout ⊢
    cases g
    · have htk : (encI out).take out.length = encI out := List.take_of_length_le (by simp [encI])
      rw [hout rfl] at htk ⊢
      simp (disch := first | omega | (simp only [ZL, store_len, shelf_len] <;> omega)) only [Z, Op.callOf, bslE, nilE, mslE, fadE, AV.cells, AV.isBot, AV.one, AV.flat, flatL, ids1, ids2, idsX, AV.lt, ltL, AObj.lt, finE, sevalprocAttr, frzM_store, frzM_shelf, shelf_len, shelf_one, shelf_flat, shelf_lt, shelf_take, shelf_set0, store_len, store_one, store_flat, store_lt, store_left, store_setl, store_get, store_set, store_take, store_set0, encI_len, htk]
      repeat' first | exact Sub.rfl' _ | exact sub_nils _ | exact SubL.nil | refine sub_tup ?_ | refine sub_agg ?_ | refine SubL.cons ?_ ?_
    · simp (disch := first | omega | (simp only [ZL, store_len, shelf_len] <;> omega)) only [Z, Op.callOf, bslE, nilE, mslE, fadE, AV.cells, AV.isBot, AV.one, AV.flat, flatL, ids1, ids2, idsX, AV.lt, ltL, AObj.lt, finE, sevalprocAttr, frzM_store, frzM_shelf, shelf_len, shelf_one, shelf_flat, shelf_lt, shelf_take, shelf_set0, store_len, store_one, store_flat, store_lt, store_left, store_setl, store_get, store_set, store_take, store_set0]
      repeat' first | exact Sub.rfl' _ | exact sub_nils _ | exact SubL.nil | refine sub_tup ?_ | refine sub_agg ?_ | refine SubL.cons ?_ ?_
end Go.Ab
namespace Go.Ab
open Go Go.Proofs
variable [Glob] [LibC]
set_option maxHeartbeats 4000000

theorem slook2_c [LibB] [LibR] (s : Store) (name : List UInt8) (hl : lok s) (hs : Bnd s) (h1 : name.length < 1000000) :
    APure Tryz.prog 11 [.agg s.av, .str name] (.tup [.agg (lookS s name).1.av, .sl 1 (encI (lookS s name).2.1), .int .i64 (lookS s name).2.2.2]) := by
  refine apure_fin mixed [] 400 Tryz.func11 Tryz.ntmps11 Tryz.results11 rfl rfl (by simp) rfl ?_
  simp (disch := first | omega | (simp only [ZL, store_len, shelf_len] <;> omega)) only [Z, Op.callOf, bslE, nilE, mslE, fadE, AV.cells, AV.isBot, AV.one, AV.flat, flatL, ids1, ids2, idsX, AV.lt, ltL, AObj.lt, finE, sevalprocAttr, frzM_store, frzM_shelf, shelf_len, shelf_one, shelf_flat, shelf_lt, shelf_take, shelf_set0, store_len, store_one, store_flat, store_lt, store_left, store_setl, store_get, store_set, store_take, store_set0]
  refine callL_pure (slook_c s name hl hs h1) (by simp [ltL, AV.lt, store_lt, shelf_lt]) rfl ?_
  simp (disch := first | omega | (simp only [ZL, store_len, shelf_len] <;> omega)) only [Z, Op.callOf, bslE, nilE, mslE, fadE, AV.cells, AV.isBot, AV.one, AV.flat, flatL, ids1, ids2, idsX, AV.lt, ltL, AObj.lt, finE, sevalprocAttr, frzM_store, frzM_shelf, shelf_len, shelf_one, shelf_flat, shelf_lt, shelf_take, shelf_set0, store_len, store_one, store_flat, store_lt, store_left, store_setl, store_get, store_set, store_take, store_set0]
  repeat' first | exact Sub.rfl' _ | exact sub_nils _ | exact SubL.nil | refine sub_tup ?_ | refine sub_agg ?_ | refine SubL.cons ?_ ?_
theorem rlook2_c (s : Store) (name : List UInt8) (hl : lok s) (hs : Bnd s) (h1 : name.length < 1000000) :
    APure Tryz.prog 12 [.agg s.av, .str name] (.tup [.agg (lookS s name).1.av, .sl 1 (encI (lookS s name).2.1), .int .i64 (lookS s name).2.2.2]) := by
  refine apure_fin mixed [] 400 Tryz.func12 Tryz.ntmps12 Tryz.results12 rfl rfl (by simp) rfl ?_
  simp (disch := first | omega | (simp only [ZL, store_len, shelf_len] <;> omega)) only [Z, Op.callOf, bslE, nilE, mslE, fadE, AV.cells, AV.isBot, AV.one, AV.flat, flatL, ids1, ids2, idsX, AV.lt, ltL, AObj.lt, finE, sevalprocAttr, frzM_store, frzM_shelf, shelf_len, shelf_one, shelf_flat, shelf_lt, shelf_take, shelf_set0, store_len, store_one, store_flat, store_lt, store_left, store_setl, store_get, store_set, store_take, store_set0]
  refine callL_pure (rlook_c s name hl hs h1) (by simp [ltL, AV.lt, store_lt, shelf_lt]) rfl ?_
  simp (disch := first | omega | (simp only [ZL, store_len, shelf_len] <;> omega)) only [Z, Op.callOf, bslE, nilE, mslE, fadE, AV.cells, AV.isBot, AV.one, AV.flat, flatL, ids1, ids2, idsX, AV.lt, ltL, AObj.lt, finE, sevalprocAttr, frzM_store, frzM_shelf, shelf_len, shelf_one, shelf_flat, shelf_lt, shelf_take, shelf_set0, store_len, store_one, store_flat, store_lt, store_left, store_setl, store_get, store_set, store_take, store_set0]
  repeat' first | exact Sub.rfl' _ | exact sub_nils _ | exact SubL.nil | refine sub_tup ?_ | refine sub_agg ?_ | refine SubL.cons ?_ ?_
theorem encI_at (l : List Int) (k : Nat) (h : k < l.length) : (encI l).getD k [] = [.int .i64 l[k]] := by simp [encI, List.getD, h]
theorem ints_c (l : List Int) (hl : l.length < 2^40) : APure Tryz.prog 14 [.sl 1 (encI l), .sl 1 (encI l)] (.bool true) := by
  refine apure_fin mixed [] 400 Tryz.func14 Tryz.ntmps14 Tryz.results14 rfl rfl (by simp) rfl ?_
  simp (disch := first | omega | (simp only [ZL] <;> omega)) only [Z, Op.callOf, bslE, nilE, mslE, fadE, AV.cells, AV.isBot, AV.one, AV.flat, flatL, ids1, ids2, idsX, AV.lt, ltL, AObj.lt, finE, sevalprocAttr, encI_len]
  refine loopF mixed (fun k : Nat => mk [(0, .sl 1 (encI l)), (1, .sl 1 (encI l)), (12, .int .i64 l.length), (13, .int .i64 k)] [] 0) (fun k => k ≤ l.length) (fun k => l.length - k) 0 400 rfl rfl (by omega) ?_ ?_
  · refine less_mk (by simp) (by simp) ?_ ?_ <;> simp (disch := first | omega | (simp only [ZL] <;> omega)) only [Z, Op.callOf, bslE, nilE, mslE, fadE, AV.cells, AV.isBot, AV.one, AV.flat, flatL, ids1, ids2, idsX, AV.lt, ltL, AObj.lt, finE, sevalprocAttr]
  intro k hk
  simp (disch := first | omega | (simp only [ZL] <;> omega)) only [Z, Op.callOf, bslE, nilE, mslE, fadE, AV.cells, AV.isBot, AV.one, AV.flat, flatL, ids1, ids2, idsX, AV.lt, ltL, AObj.lt, finE, sevalprocAttr]
  refine condG_p (fun e => ?_) (fun e => ?_)
  · have hk' : k < l.length := by omega
    simp (disch := first | omega | (simp only [ZL] <;> omega)) only [Z, Op.callOf, bslE, nilE, mslE, fadE, AV.cells, AV.isBot, AV.one, AV.flat, flatL, ids1, ids2, idsX, AV.lt, ltL, AObj.lt, finE, sevalprocAttr, encI_len, encI_at]
    refine okK_of (by kernel_rfl) ?_
    simp (disch := first | omega | (simp only [ZL] <;> omega)) only [Z, Op.callOf, bslE, nilE, mslE, fadE, AV.cells, AV.isBot, AV.one, AV.flat, flatL, ids1, ids2, idsX, AV.lt, ltL, AObj.lt, finE, sevalprocAttr]
    refine finR_of (k + 1) (by omega) (by omega) ?_
    refine less_mk (by simp) (by simp) ?_ ?_ <;> simp (disch := first | omega | (simp only [ZL] <;> omega)) only [Z, Op.callOf, bslE, nilE, mslE, fadE, AV.cells, AV.isBot, AV.one, AV.flat, flatL, ids1, ids2, idsX, AV.lt, ltL, AObj.lt, finE, sevalprocAttr, i64_add1]
  · simp (disch := first | omega | (simp only [ZL] <;> omega)) only [Z, Op.callOf, bslE, nilE, mslE, fadE, AV.cells, AV.isBot, AV.one, AV.flat, flatL, ids1, ids2, idsX, AV.lt, ltL, AObj.lt, finE, sevalprocAttr]
    exact Sub.rfl' _
theorem tf55 : tFields Tryz.prog 55 = some [(9, 0, 1), (9, 1, 1), (9, 2, 1), (4, 3, 1)] := by kernel_rfl
theorem tS9 : tStr Tryz.prog 9 = true := by kernel_rfl
theorem tB4 : tBool Tryz.prog 4 = true := by kernel_rfl
theorem obj_eq (a b c : List UInt8) (d : Bool) : aeqIn Tryz.prog 5 55 [.str a, .str b, .str c, .bool d] [.str a, .str b, .str c, .bool d] = some true := by
  simp [aeqIn, tf55, aeqFs, cut, tS9, tB4]
theorem obind_some {β : Type} (b : Bool) (f : Bool → Option β) : (some b).bind f = f b := rfl
theorem eqOp_neq (b : Bool) : eqOp .neq b = some (.bool !b) := rfl
theorem objs_at (l : List Obj) (k : Nat) (h : k < l.length) : (l.map Obj.av).getD k [] = l[k].av := by simp [List.getD, h]
theorem rsame_c (x : Shelf) (h1 : x.objs.length < 2^40) (h2 : x.fates.length < 2^40) : APure Tryz.prog 26 [.agg x.av, .agg x.av] (.bool true) := by
  refine apure_fin mixed [] 400 Tryz.func26 Tryz.ntmps26 Tryz.results26 rfl rfl (by simp) rfl ?_
  obtain ⟨objs, fates⟩ := x
  dsimp only at h1 h2
  simp only [Shelf.av]
  simp (disch := first | omega | (simp only [ZL] <;> omega)) only [Z, Op.callOf, bslE, nilE, mslE, fadE, AV.cells, AV.isBot, AV.one, AV.flat, flatL, ids1, ids2, idsX, AV.lt, ltL, AObj.lt, finE, sevalprocAttr, encI_len]
  refine loopF mixed (fun k : Nat => mk [(2, .ptr 0 0), (3, .ptr 1 0), (25, .int .i64 objs.length), (26, .int .i64 k)] [(0, .box [.sl 4 (objs.map Obj.av), .sl 1 (encI fates)]), (1, .box [.sl 4 (objs.map Obj.av), .sl 1 (encI fates)])] 2) (fun k => k ≤ objs.length) (fun k => objs.length - k) 0 400 rfl rfl (by omega) ?_ ?_
  · refine less_mk (by simp) (by simp) ?_ ?_ <;> simp (disch := first | omega | (simp only [ZL] <;> omega)) only [Z, Op.callOf, bslE, nilE, mslE, fadE, AV.cells, AV.isBot, AV.one, AV.flat, flatL, ids1, ids2, idsX, AV.lt, ltL, AObj.lt, finE, sevalprocAttr]
  intro k hk
  simp (disch := first | omega | (simp only [ZL] <;> omega)) only [Z, Op.callOf, bslE, nilE, mslE, fadE, AV.cells, AV.isBot, AV.one, AV.flat, flatL, ids1, ids2, idsX, AV.lt, ltL, AObj.lt, finE, sevalprocAttr]
  refine condG_p (fun e => ?_) (fun e => ?_)
  · have hk' : k < objs.length := by omega
    simp (disch := first | omega | (simp only [ZL] <;> omega)) only [Z, Op.callOf, bslE, nilE, mslE, fadE, AV.cells, AV.isBot, AV.one, AV.flat, flatL, ids1, ids2, idsX, AV.lt, ltL, AObj.lt, finE, sevalprocAttr, objs_at, Obj.av, obj_eq, obind_some, eqOp_neq]
    refine okK_of (by kernel_rfl) ?_
    simp (disch := first | omega | (simp only [ZL] <;> omega)) only [Z, Op.callOf, bslE, nilE, mslE, fadE, AV.cells, AV.isBot, AV.one, AV.flat, flatL, ids1, ids2, idsX, AV.lt, ltL, AObj.lt, finE, sevalprocAttr]
    refine finR_of (k + 1) (by omega) (by omega) ?_
    refine less_mk (by simp) (by simp) ?_ ?_ <;> simp (disch := first | omega | (simp only [ZL] <;> omega)) only [Z, Op.callOf, bslE, nilE, mslE, fadE, AV.cells, AV.isBot, AV.one, AV.flat, flatL, ids1, ids2, idsX, AV.lt, ltL, AObj.lt, finE, sevalprocAttr, i64_add1]
  · simp (disch := first | omega | (simp only [ZL] <;> omega)) only [Z, Op.callOf, bslE, nilE, mslE, fadE, AV.cells, AV.isBot, AV.one, AV.flat, flatL, ids1, ids2, idsX, AV.lt, ltL, AObj.lt, finE, sevalprocAttr, encI_len]
    refine loopF mixed (fun k : Nat => mk [(2, .ptr 0 0), (3, .ptr 1 0), (43, .int .i64 fates.length), (44, .int .i64 k)] [(0, .box [.sl 4 (objs.map Obj.av), .sl 1 (encI fates)]), (1, .box [.sl 4 (objs.map Obj.av), .sl 1 (encI fates)])] 2) (fun k => k ≤ fates.length) (fun k => fates.length - k) 0 400 rfl rfl (by omega) ?_ ?_
    · refine less_mk (by simp) (by simp) ?_ ?_ <;> simp (disch := first | omega | (simp only [ZL] <;> omega)) only [Z, Op.callOf, bslE, nilE, mslE, fadE, AV.cells, AV.isBot, AV.one, AV.flat, flatL, ids1, ids2, idsX, AV.lt, ltL, AObj.lt, finE, sevalprocAttr]
    intro k hk
    simp (disch := first | omega | (simp only [ZL] <;> omega)) only [Z, Op.callOf, bslE, nilE, mslE, fadE, AV.cells, AV.isBot, AV.one, AV.flat, flatL, ids1, ids2, idsX, AV.lt, ltL, AObj.lt, finE, sevalprocAttr]
    refine condG_p (fun e => ?_) (fun e => ?_)
    · have hk' : k < fates.length := by omega
      simp (disch := first | omega | (simp only [ZL] <;> omega)) only [Z, Op.callOf, bslE, nilE, mslE, fadE, AV.cells, AV.isBot, AV.one, AV.flat, flatL, ids1, ids2, idsX, AV.lt, ltL, AObj.lt, finE, sevalprocAttr, encI_len, encI_at]
      refine okK_of (by kernel_rfl) ?_
      simp (disch := first | omega | (simp only [ZL] <;> omega)) only [Z, Op.callOf, bslE, nilE, mslE, fadE, AV.cells, AV.isBot, AV.one, AV.flat, flatL, ids1, ids2, idsX, AV.lt, ltL, AObj.lt, finE, sevalprocAttr]
      refine finR_of (k + 1) (by omega) (by omega) ?_
      refine less_mk (by simp) (by simp) ?_ ?_ <;> simp (disch := first | omega | (simp only [ZL] <;> omega)) only [Z, Op.callOf, bslE, nilE, mslE, fadE, AV.cells, AV.isBot, AV.one, AV.flat, flatL, ids1, ids2, idsX, AV.lt, ltL, AObj.lt, finE, sevalprocAttr, i64_add1]
    · simp (disch := first | omega | (simp only [ZL] <;> omega)) only [Z, Op.callOf, bslE, nilE, mslE, fadE, AV.cells, AV.isBot, AV.one, AV.flat, flatL, ids1, ids2, idsX, AV.lt, ltL, AObj.lt, finE, sevalprocAttr]
      exact Sub.rfl' _
end Go.Ab
