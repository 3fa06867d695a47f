import Derived.Test.YthgmopnabpnicaaGreatDoorZ13
set_option linter.all false
namespace Go.Ab
open Go Go.Proofs
def like (t u : Told) : Bool := decide (t.err = 0) && decide (u.err = 0) && decide (t.data = u.data)
def most (l : List Told) (t : Told) : Bool := decide (3 ≤ l.countP (like t))
def voteR (l : List Told) : List UInt8 × Int := match l.find? (most l) with | some t => (t.data, 0) | none => ([], lostS l)
def voteS (s : Store) (name : List UInt8) : Store × List UInt8 × Int :=
  if namedS name = false then (s, [], 7) else ((fiveS (getF name) s).1, voteR (fiveS (getF name) s).2)
variable [Glob] [LibC]
set_option maxHeartbeats 400000

theorem s5_nil : [AV.str [], AV.str [], AV.str [], AV.str [], AV.str []] = s5 fun _ => [] := rfl
theorem rvote_c (s : Store) (name : List UInt8) (hl : lok s) (hs : Small s) : APure Tryz.prog 32 [.agg s.av, .str name] (.tup [.agg (voteS s name).1.av, .str (voteS s name).2.1, .int .i64 (voteS s name).2.2]) := by
  refine apure_fin mixed [] 400 Tryz.func32 Tryz.ntmps32 Tryz.results32 rfl rfl (by simp) rfl ?_
  simp (disch := first | omega | (simp only [ZL, store_len, shelf_len] <;> omega)) only [Z, Op.callOf, bslE, nilE, mslE, fadE, AV.cells, AV.isBot, AV.one, AV.flat, flatL, ids1, ids2, idsX, AV.lt, ltL, AObj.lt, finE, sevalprocAttr, frzM_store, frzM_shelf, shelf_len, shelf_one, shelf_flat, shelf_lt, shelf_take, shelf_set0, store_len, store_one, store_flat, store_lt, store_left, store_setl, store_get, store_set, store_take, store_set0]
  refine callL_pure (name36_c name) (by simp [ltL, AV.lt, store_lt, shelf_lt]) rfl ?_
  cases c : namedS name
  · simp (disch := first | omega | (simp only [ZL, store_len, shelf_len] <;> omega)) only [Z, Op.callOf, bslE, nilE, mslE, fadE, AV.cells, AV.isBot, AV.one, AV.flat, flatL, ids1, ids2, idsX, AV.lt, ltL, AObj.lt, finE, sevalprocAttr, frzM_store, frzM_shelf, shelf_len, shelf_one, shelf_flat, shelf_lt, shelf_take, shelf_set0, store_len, store_one, store_flat, store_lt, store_left, store_setl, store_get, store_set, store_take, store_set0]
    simp only [voteS, c, if_true]
    repeat' first | exact Sub.rfl' _ | exact sub_nils _ | exact SubL.nil | refine sub_tup ?_ | refine sub_agg ?_ | refine SubL.cons ?_ ?_
  simp (disch := first | omega | (simp only [ZL, store_len, shelf_len] <;> omega)) only [Z, Op.callOf, bslE, nilE, mslE, fadE, AV.cells, AV.isBot, AV.one, AV.flat, flatL, ids1, ids2, idsX, AV.lt, ltL, AObj.lt, finE, sevalprocAttr, frzM_store, frzM_shelf, shelf_len, shelf_one, shelf_flat, shelf_lt, shelf_take, shelf_set0, store_len, store_one, store_flat, store_lt, store_left, store_setl, store_get, store_set, store_take, store_set0]
  rw [s5_nil]
  refine callL_pure (rget5_c s name hl hs) (by simp [ltL, AV.lt, store_lt, s5_lt]) rfl ?_
  have hll := five_len (getF name) 5 0 s []
  simp only [voteS, c, Bool.true_eq_false, if_false]
  change (fiveS (getF name) s).2.length = 5 at hll
  generalize fiveS (getF name) s = q at hll ⊢
  obtain ⟨s', l⟩ := q
  dsimp only at hll ⊢
  simp (disch := first | omega | (simp only [ZL, store_len, shelf_len] <;> omega)) only [Z, Op.callOf, bslE, nilE, mslE, fadE, AV.cells, AV.isBot, AV.one, AV.flat, flatL, ids1, ids2, idsX, AV.lt, ltL, AObj.lt, finE, sevalprocAttr, frzM_store, frzM_shelf, shelf_len, shelf_one, shelf_flat, shelf_lt, shelf_take, shelf_set0, store_len, store_one, store_flat, store_lt, store_left, store_setl, store_get, store_set, store_take, store_set0]
  refine loopF mixed (fun k : Nat => mk [(2, .ptr 0 0), (4, .ptr 1 0), (7, .sl 4 (l.map Told.rav)), (24, .sl 4 (l.map Told.rav)), (25, .int .i64 l.length), (26, .int .i64 k)]
      [(0, .box s'.av), (1, .box [.nils, .nils, .nils, .nils, .nils, .nils, .nils, .nils, .nils, .nils, .int .i64 0])] 2)
    (fun k => k ≤ l.length ∧ (l.drop k).find? (most l) = l.find? (most l)) (fun k => l.length - k) 0 400 rfl rfl ⟨by omega, by simp⟩ ?_ ?_
  · refine less_mk (by simp) (by simp) ?_ ?_ <;> simp (disch := first | omega | (simp only [ZL, store_len, shelf_len] <;> omega)) only [Z, Op.callOf, bslE, nilE, mslE, fadE, AV.cells, AV.isBot, AV.one, AV.flat, flatL, ids1, ids2, idsX, AV.lt, ltL, AObj.lt, finE, sevalprocAttr, frzM_store, frzM_shelf, shelf_len, shelf_one, shelf_flat, shelf_lt, shelf_take, shelf_set0, store_len, store_one, store_flat, store_lt, store_left, store_setl, store_get, store_set, store_take, store_set0]
  rintro k ⟨hk, hJ⟩
  simp (disch := first | omega | (simp only [ZL, store_len, shelf_len] <;> omega)) only [Z, Op.callOf, bslE, nilE, mslE, fadE, AV.cells, AV.isBot, AV.one, AV.flat, flatL, ids1, ids2, idsX, AV.lt, ltL, AObj.lt, finE, sevalprocAttr, frzM_store, frzM_shelf, shelf_len, shelf_one, shelf_flat, shelf_lt, shelf_take, shelf_set0, store_len, store_one, store_flat, store_lt, store_left, store_setl, store_get, store_set, store_take, store_set0]
  refine condG_p (fun e => ?_) (fun e => ?_)
  · have hk' : k < l.length := by omega
    rw [List.drop_eq_getElem_cons hk', List.find?_cons] at hJ
    simp (disch := first | omega | (simp only [ZL, store_len, shelf_len] <;> omega)) only [Z, Op.callOf, bslE, nilE, mslE, fadE, AV.cells, AV.isBot, AV.one, AV.flat, flatL, ids1, ids2, idsX, AV.lt, ltL, AObj.lt, finE, sevalprocAttr, frzM_store, frzM_shelf, shelf_len, shelf_one, shelf_flat, shelf_lt, shelf_take, shelf_set0, store_len, store_one, store_flat, store_lt, store_left, store_setl, store_get, store_set, store_take, store_set0, Told.rav]
    refine loopF mixed (fun p : Nat × Nat => mk [(2, .ptr 0 0), (4, .ptr 1 0), (7, .sl 4 (l.map Told.rav)), (9, .ptr 5 0), (10, .int .i64 p.2), (24, .sl 4 (l.map Told.rav)), (25, .int .i64 l.length), (26, .int .i64 k),
        (30, .sl 4 (l.map Told.rav)), (31, .int .i64 l.length), (32, .int .i64 p.1)]
        [(0, .box s'.av), (1, .box [.nils, .nils, .nils, .nils, .nils, .nils, .nils, .nils, .nils, .nils, .int .i64 0]), (5, .box l[k].rav)] 6)
      (fun p => p.1 ≤ l.length ∧ p.2 = (l.take p.1).countP (like l[k]) ∧ p.2 ≤ p.1) (fun p => l.length - p.1) (0, 0) 400 rfl rfl ⟨by simp, rfl, by simp⟩ ?_ ?_
    · refine less_mk (by simp) (by simp) ?_ ?_ <;> simp (disch := first | omega | (simp only [ZL, store_len, shelf_len] <;> omega)) only [Z, Op.callOf, bslE, nilE, mslE, fadE, AV.cells, AV.isBot, AV.one, AV.flat, flatL, ids1, ids2, idsX, AV.lt, ltL, AObj.lt, finE, sevalprocAttr, frzM_store, frzM_shelf, shelf_len, shelf_one, shelf_flat, shelf_lt, shelf_take, shelf_set0, store_len, store_one, store_flat, store_lt, store_left, store_setl, store_get, store_set, store_take, store_set0, Told.rav]
    rintro ⟨m, c⟩ ⟨hm, hc, hcm⟩
    dsimp only at hm hc hcm
    simp (disch := first | omega | (simp only [ZL, store_len, shelf_len] <;> omega)) only [Z, Op.callOf, bslE, nilE, mslE, fadE, AV.cells, AV.isBot, AV.one, AV.flat, flatL, ids1, ids2, idsX, AV.lt, ltL, AObj.lt, finE, sevalprocAttr, frzM_store, frzM_shelf, shelf_len, shelf_one, shelf_flat, shelf_lt, shelf_take, shelf_set0, store_len, store_one, store_flat, store_lt, store_left, store_setl, store_get, store_set, store_take, store_set0]
    refine condG_p (fun e => ?_) (fun e => ?_)
    · have hm' : m < l.length := by omega
      have et : l.take (m + 1) = l.take m ++ [l[m]] := by simp
      have ec : (l.take (m + 1)).countP (like l[k]) = c + (if like l[k] l[m] then 1 else 0) := by
        rw [et, List.countP_append, hc]; simp [List.countP_cons]
      by_cases a1 : l[k].err = 0
      · by_cases a2 : l[m].err = 0
        · by_cases a3 : l[k].data = l[m].data
          · simp (disch := first | omega | (simp only [ZL, store_len, shelf_len] <;> omega)) only [Z, Op.callOf, bslE, nilE, mslE, fadE, AV.cells, AV.isBot, AV.one, AV.flat, flatL, ids1, ids2, idsX, AV.lt, ltL, AObj.lt, finE, sevalprocAttr, frzM_store, frzM_shelf, shelf_len, shelf_one, shelf_flat, shelf_lt, shelf_take, shelf_set0, store_len, store_one, store_flat, store_lt, store_left, store_setl, store_get, store_set, store_take, store_set0, Told.rav, a1, a2, a3]
            have lk : like l[k] l[m] = true := by simp [like, a1, a2, a3]
            refine finR_of (m + 1, c + 1) ⟨by dsimp only; omega, by dsimp only; rw [ec, lk]; rfl, by dsimp only; omega⟩ (by dsimp only; omega) ?_
            refine less_mk (by simp) (by simp) ?_ ?_ <;> simp (disch := first | omega | (simp only [ZL, store_len, shelf_len] <;> omega)) only [Z, Op.callOf, bslE, nilE, mslE, fadE, AV.cells, AV.isBot, AV.one, AV.flat, flatL, ids1, ids2, idsX, AV.lt, ltL, AObj.lt, finE, sevalprocAttr, frzM_store, frzM_shelf, shelf_len, shelf_one, shelf_flat, shelf_lt, shelf_take, shelf_set0, store_len, store_one, store_flat, store_lt, store_left, store_setl, store_get, store_set, store_take, store_set0, i64_add1, Told.rav, a1, a2, a3]
          · simp (disch := first | omega | (simp only [ZL, store_len, shelf_len] <;> omega)) only [Z, Op.callOf, bslE, nilE, mslE, fadE, AV.cells, AV.isBot, AV.one, AV.flat, flatL, ids1, ids2, idsX, AV.lt, ltL, AObj.lt, finE, sevalprocAttr, frzM_store, frzM_shelf, shelf_len, shelf_one, shelf_flat, shelf_lt, shelf_take, shelf_set0, store_len, store_one, store_flat, store_lt, store_left, store_setl, store_get, store_set, store_take, store_set0, Told.rav, a1, a2, a3]
            have lk : like l[k] l[m] = false := by simp [like, a1, a2, a3]
            refine finR_of (m + 1, c) ⟨by dsimp only; omega, by dsimp only; rw [ec, lk]; rfl, by dsimp only; omega⟩ (by dsimp only; omega) ?_
            refine less_mk (by simp) (by simp) ?_ ?_ <;> simp (disch := first | omega | (simp only [ZL, store_len, shelf_len] <;> omega)) only [Z, Op.callOf, bslE, nilE, mslE, fadE, AV.cells, AV.isBot, AV.one, AV.flat, flatL, ids1, ids2, idsX, AV.lt, ltL, AObj.lt, finE, sevalprocAttr, frzM_store, frzM_shelf, shelf_len, shelf_one, shelf_flat, shelf_lt, shelf_take, shelf_set0, store_len, store_one, store_flat, store_lt, store_left, store_setl, store_get, store_set, store_take, store_set0, i64_add1, Told.rav, a1, a2, a3]
        · simp (disch := first | omega | (simp only [ZL, store_len, shelf_len] <;> omega)) only [Z, Op.callOf, bslE, nilE, mslE, fadE, AV.cells, AV.isBot, AV.one, AV.flat, flatL, ids1, ids2, idsX, AV.lt, ltL, AObj.lt, finE, sevalprocAttr, frzM_store, frzM_shelf, shelf_len, shelf_one, shelf_flat, shelf_lt, shelf_take, shelf_set0, store_len, store_one, store_flat, store_lt, store_left, store_setl, store_get, store_set, store_take, store_set0, Told.rav, a1, a2]
          have lk : like l[k] l[m] = false := by simp [like, a1, a2]
          refine finR_of (m + 1, c) ⟨by dsimp only; omega, by dsimp only; rw [ec, lk]; rfl, by dsimp only; omega⟩ (by dsimp only; omega) ?_
          refine less_mk (by simp) (by simp) ?_ ?_ <;> simp (disch := first | omega | (simp only [ZL, store_len, shelf_len] <;> omega)) only [Z, Op.callOf, bslE, nilE, mslE, fadE, AV.cells, AV.isBot, AV.one, AV.flat, flatL, ids1, ids2, idsX, AV.lt, ltL, AObj.lt, finE, sevalprocAttr, frzM_store, frzM_shelf, shelf_len, shelf_one, shelf_flat, shelf_lt, shelf_take, shelf_set0, store_len, store_one, store_flat, store_lt, store_left, store_setl, store_get, store_set, store_take, store_set0, i64_add1, Told.rav, a1, a2]
      · simp (disch := first | omega | (simp only [ZL, store_len, shelf_len] <;> omega)) only [Z, Op.callOf, bslE, nilE, mslE, fadE, AV.cells, AV.isBot, AV.one, AV.flat, flatL, ids1, ids2, idsX, AV.lt, ltL, AObj.lt, finE, sevalprocAttr, frzM_store, frzM_shelf, shelf_len, shelf_one, shelf_flat, shelf_lt, shelf_take, shelf_set0, store_len, store_one, store_flat, store_lt, store_left, store_setl, store_get, store_set, store_take, store_set0, Told.rav, a1]
        have lk : like l[k] l[m] = false := by simp [like, a1]
        refine finR_of (m + 1, c) ⟨by dsimp only; omega, by dsimp only; rw [ec, lk]; rfl, by dsimp only; omega⟩ (by dsimp only; omega) ?_
        refine less_mk (by simp) (by simp) ?_ ?_ <;> simp (disch := first | omega | (simp only [ZL, store_len, shelf_len] <;> omega)) only [Z, Op.callOf, bslE, nilE, mslE, fadE, AV.cells, AV.isBot, AV.one, AV.flat, flatL, ids1, ids2, idsX, AV.lt, ltL, AObj.lt, finE, sevalprocAttr, frzM_store, frzM_shelf, shelf_len, shelf_one, shelf_flat, shelf_lt, shelf_take, shelf_set0, store_len, store_one, store_flat, store_lt, store_left, store_setl, store_get, store_set, store_take, store_set0, i64_add1, Told.rav, a1]
    · have : m = l.length := by omega
      subst this
      rw [List.take_length] at hc
      by_cases e3 : (3 : Int) ≤ (c : Int)
      · have hq : most l l[k] = true := by simp only [most, ← hc]; exact decide_eq_true (by omega)
        rw [hq] at hJ
        simp (disch := first | omega | (simp only [ZL, store_len, shelf_len] <;> omega)) only [Z, Op.callOf, bslE, nilE, mslE, fadE, AV.cells, AV.isBot, AV.one, AV.flat, flatL, ids1, ids2, idsX, AV.lt, ltL, AObj.lt, finE, sevalprocAttr, frzM_store, frzM_shelf, shelf_len, shelf_one, shelf_flat, shelf_lt, shelf_take, shelf_set0, store_len, store_one, store_flat, store_lt, store_left, store_setl, store_get, store_set, store_take, store_set0, e3, Told.rav]
        refine okK_of (by kernel_rfl) ?_
        simp (disch := first | omega | (simp only [ZL, store_len, shelf_len] <;> omega)) only [Z, Op.callOf, bslE, nilE, mslE, fadE, AV.cells, AV.isBot, AV.one, AV.flat, flatL, ids1, ids2, idsX, AV.lt, ltL, AObj.lt, finE, sevalprocAttr, frzM_store, frzM_shelf, shelf_len, shelf_one, shelf_flat, shelf_lt, shelf_take, shelf_set0, store_len, store_one, store_flat, store_lt, store_left, store_setl, store_get, store_set, store_take, store_set0]
        simp only [voteR, ← hJ]
        repeat' first | exact Sub.rfl' _ | exact sub_nils _ | exact SubL.nil | refine sub_tup ?_ | refine sub_agg ?_ | refine SubL.cons ?_ ?_
      · have hq : most l l[k] = false := by simp only [most, ← hc]; exact decide_eq_false (by omega)
        rw [hq] at hJ
        simp (disch := first | omega | (simp only [ZL, store_len, shelf_len] <;> omega)) only [Z, Op.callOf, bslE, nilE, mslE, fadE, AV.cells, AV.isBot, AV.one, AV.flat, flatL, ids1, ids2, idsX, AV.lt, ltL, AObj.lt, finE, sevalprocAttr, frzM_store, frzM_shelf, shelf_len, shelf_one, shelf_flat, shelf_lt, shelf_take, shelf_set0, store_len, store_one, store_flat, store_lt, store_left, store_setl, store_get, store_set, store_take, store_set0, e3]
        refine finR_of (k + 1) ⟨by omega, hJ⟩ (by omega) ?_
        refine less_mk (by simp) (by simp) ?_ ?_ <;> simp (disch := first | omega | (simp only [ZL, store_len, shelf_len] <;> omega)) only [Z, Op.callOf, bslE, nilE, mslE, fadE, AV.cells, AV.isBot, AV.one, AV.flat, flatL, ids1, ids2, idsX, AV.lt, ltL, AObj.lt, finE, sevalprocAttr, frzM_store, frzM_shelf, shelf_len, shelf_one, shelf_flat, shelf_lt, shelf_take, shelf_set0, store_len, store_one, store_flat, store_lt, store_left, store_setl, store_get, store_set, store_take, store_set0, i64_add1]
  · have : k = l.length := by omega
    subst this
    rw [List.drop_length, List.find?_nil] at hJ
    simp (disch := first | omega | (simp only [ZL, store_len, shelf_len] <;> omega)) only [Z, Op.callOf, bslE, nilE, mslE, fadE, AV.cells, AV.isBot, AV.one, AV.flat, flatL, ids1, ids2, idsX, AV.lt, ltL, AObj.lt, finE, sevalprocAttr, frzM_store, frzM_shelf, shelf_len, shelf_one, shelf_flat, shelf_lt, shelf_take, shelf_set0, store_len, store_one, store_flat, store_lt, store_left, store_setl, store_get, store_set, store_take, store_set0]
    refine callD_pure (rlost_c l (by omega)) (by simp [ltL, AV.lt, store_lt, shelf_lt]) ?_
    simp (disch := first | omega | (simp only [ZL, store_len, shelf_len] <;> omega)) only [Z, Op.callOf, bslE, nilE, mslE, fadE, AV.cells, AV.isBot, AV.one, AV.flat, flatL, ids1, ids2, idsX, AV.lt, ltL, AObj.lt, finE, sevalprocAttr, frzM_store, frzM_shelf, shelf_len, shelf_one, shelf_flat, shelf_lt, shelf_take, shelf_set0, store_len, store_one, store_flat, store_lt, store_left, store_setl, store_get, store_set, store_take, store_set0]
    refine okK_of (by kernel_rfl) ?_
    simp (disch := first | omega | (simp only [ZL, store_len, shelf_len] <;> omega)) only [Z, Op.callOf, bslE, nilE, mslE, fadE, AV.cells, AV.isBot, AV.one, AV.flat, flatL, ids1, ids2, idsX, AV.lt, ltL, AObj.lt, finE, sevalprocAttr, frzM_store, frzM_shelf, shelf_len, shelf_one, shelf_flat, shelf_lt, shelf_take, shelf_set0, store_len, store_one, store_flat, store_lt, store_left, store_setl, store_get, store_set, store_take, store_set0]
    simp only [voteR, ← hJ]
    repeat' first | exact Sub.rfl' _ | exact sub_nils _ | exact SubL.nil | refine sub_tup ?_ | refine sub_agg ?_ | refine SubL.cons ?_ ?_
end Go.Ab
namespace Go.Ab
open Go Go.Proofs
def Told.z : Told := ⟨[], 0, false⟩
def pv (l : List Told) (n : Nat) : List AV := (l ++ List.replicate n Told.z).flatMap Told.pav
theorem pav_len (t : Told) : t.pav.length = 3 := Eq.trans rfl rfl
theorem pv_len (l : List Told) (n : Nat) (h : l.length + n = 5) : (pv l n).length = 15 := by
  rw [pv, fm_len _ 3 pav_len, List.length_append, List.length_replicate, h]
theorem fm_set1 (a b c : List AV) (j : Nat) (v : AV) (h : j < b.length) : (a ++ (b ++ c)).set (a.length + j) v = a ++ (b.set j v ++ c) := by
  rw [List.set_append_right _ _ (by omega), Nat.add_sub_cancel_left, List.set_append_left _ _ h]
theorem pv_set1 (l : List Told) (m : Nat) : (pv l (m + 1)).set (l.length * 3 + 2) (.int .i64 17) = pv (l ++ [⟨[], 17, true⟩]) m := by
  have e : pv l (m + 1) = l.flatMap Told.pav ++ (Told.z.pav ++ (List.replicate m Told.z).flatMap Told.pav) := by
    simp [pv, List.replicate_succ]
  have h := fm_set1 (l.flatMap Told.pav) Told.z.pav ((List.replicate m Told.z).flatMap Told.pav) 2 (.int .i64 17) (by decide)
  rw [fm_len _ 3 pav_len] at h
  rw [e, h]
  simp [pv, Told.z, Told.pav]
theorem pv_set3 (l : List Told) (m : Nat) (d : List UInt8) (e : Int) (g : Bool) : setL (pv l (m + 1)) (l.length * 3) (Told.pav ⟨d, e, g⟩) = pv (l ++ [⟨d, e, g⟩]) m := by
  have h := fm_set Told.pav 3 pav_len (l ++ List.replicate (m + 1) Told.z) [] l.length ⟨d, e, g⟩ (by simp)
  simp only [List.append_nil] at h
  rw [pv, h, pv]
  congr 1
  rw [List.set_append_right _ _ (Nat.le_refl _), Nat.sub_self, List.replicate_succ, List.set_cons_zero]
  simp
theorem pv_z : [AV.str [], .nils, .int .i64 0, .str [], .nils, .int .i64 0, .str [], .nils, .int .i64 0, .str [], .nils, .int .i64 0, .str [], .nils, .int .i64 0] = pv [] 5 := rfl
theorem pav_flat : ∀ l : List Told, flatL (l.flatMap Told.pav) = true
  | [] => rfl
  | t :: l => by
    show flatL (.str t.data :: .nils :: .int .i64 t.err :: l.flatMap Told.pav) = true
    simp [flatL, AV.flat, pav_flat l]
theorem pav_one : ∀ l : List Told, (l.flatMap Told.pav).all AV.one = true
  | [] => rfl
  | t :: l => by
    show List.all (.str t.data :: .nils :: .int .i64 t.err :: l.flatMap Told.pav) AV.one = true
    simp [AV.one, pav_one l]
theorem pav_lt (n : Nat) : ∀ l : List Told, ltL n (l.flatMap Told.pav) = True
  | [] => by simp [ltL]
  | t :: l => by
    show ltL n (.str t.data :: .nils :: .int .i64 t.err :: l.flatMap Told.pav) = True
    simp [ltL, AV.lt, pav_lt n l]
theorem pv5_len (l : List Told) (h : l.length = 5) : (l.flatMap Told.pav).length = 15 := by rw [fm_len _ 3 pav_len, h]
theorem pv5_take (l : List Told) (h : l.length = 5) : (l.flatMap Told.pav).take 15 = l.flatMap Told.pav := List.take_of_length_le (by rw [pv5_len l h]; exact Nat.le_refl _)
theorem pv5_set0 (l : List Told) (cs : List AV) (h : l.length = 5) (h2 : cs.length = 15) : setL cs 0 (l.flatMap Told.pav) = l.flatMap Told.pav := setL_0 _ _ (by rw [h2, pv5_len l h])
theorem pv5_get (l : List Told) (k : Nat) (h : k < l.length) : ((l.flatMap Told.pav).drop (k * 3)).take 3 = l[k].pav := by
  have := fm_get _ 3 pav_len l [] k h
  simpa using this
mutual
theorem lt_mono {n m : Nat} (h : n ≤ m) : ∀ x : AV, x.lt n → x.lt m
  | .ptr _ _, hx => by simp only [AV.lt] at *; omega
  | .rptr _ _ _ _, hx => by simp only [AV.lt] at *; omega
  | .row _ _ _ _, hx => by simp only [AV.lt] at *; omega
  | .bsl _ _ _ _, hx => by simp only [AV.lt] at *; omega
  | .mp _, hx => by simp only [AV.lt] at *; omega
  | .fn _ fi ca, hx => by
    simp only [AV.lt] at *
    exact ⟨ltL_mono h fi hx.1, ltL_mono h ca hx.2⟩
  | .iface _ v, hx => by
    simp only [AV.lt] at *
    exact lt_mono h v hx
  | .agg cs, hx => by
    simp only [AV.lt] at *
    exact ltL_mono h cs hx
  | .tup cs, hx => by
    simp only [AV.lt] at *
    exact ltL_mono h cs hx
  | .bot, _ | .bool _, _ | .int _ _, _ | .str _, _ | .nilp, _ | .cp _, _ | .gp _ _, _ | .nils, _ | .sl _ _, _ | .nilf, _ | .nili, _ | .nilm, _ => by simp [AV.lt]
theorem ltL_mono {n m : Nat} (h : n ≤ m) : ∀ xs : List AV, ltL n xs → ltL m xs
  | [], _ => by simp [ltL]
  | x :: xs, hx => by
    simp only [ltL] at *
    exact ⟨lt_mono h x hx.1, ltL_mono h xs hx.2⟩
end
theorem ltL0 (n : Nat) {xs : List AV} (h : ltL 0 xs) : ltL n xs := ltL_mono (Nat.zero_le n) xs h
theorem ltL_app (n : Nat) : ∀ (xs ys : List AV), ltL n (xs ++ ys) = (ltL n xs ∧ ltL n ys)
  | [], ys => by simp [ltL]
  | x :: xs, ys => by simp [ltL, ltL_app n xs ys, and_assoc]
variable [Glob] [LibC]
set_option maxHeartbeats 400000

theorem pav1_one (t : Told) : t.pav.all AV.one = true := rfl
theorem frzM_pav {s : AS} (l : List Told) : (frzM frz1 (l.flatMap Told.pav)).run s = some (l.flatMap Told.pav, []) := frzM_flat (pav_flat l)
theorem frzM_pv {s : AS} (l : List Told) (n : Nat) : (frzM frz1 (pv l n)).run s = some (pv l n, []) := frzM_flat (pav_flat _)
theorem five_c (f : Nat → Shelf → Shelf × List UInt8 × Int) (s : Store) (fid : Nat) (fi ca : List AV) (hlt : ltL 0 fi ∧ ltL 0 ca) (hl : lok s)
    (hf : ∀ k, k < 5 → APure Tryz.prog fid (fi ++ [.int .i64 k, .agg (s.get k).av] ++ ca) (.tup [.agg (f k (s.get k)).1.av, .agg (Told.pav ⟨(f k (s.get k)).2.1, (f k (s.get k)).2.2, false⟩)])) :
    APure Tryz.prog 65 [.agg s.av, .fn (.func fid) fi ca] (.tup [.agg (fiveS f s).1.av, .agg ((fiveS f s).2.flatMap Told.pav), .bool ((fiveS f s).2.any Told.gone)]) := by
  refine apure_fin mixed [] 400 Tryz.func65 Tryz.ntmps65 Tryz.results65 rfl rfl (by simp) rfl ?_
  simp (disch := first | omega | (simp only [ZL, store_len, shelf_len] <;> omega)) only [Z, Op.callOf, bslE, nilE, mslE, fadE, AV.cells, AV.isBot, AV.one, AV.flat, flatL, ids1, ids2, idsX, AV.lt, ltL, AObj.lt, finE, sevalprocAttr, frzM_store, frzM_shelf, shelf_len, shelf_one, shelf_flat, shelf_lt, shelf_take, shelf_set0, store_len, store_one, store_flat, store_lt, store_left, store_setl, store_get, store_set, store_take, store_set0]
  rw [pv_z]
  refine loopF mixed (fun p : Nat × Store × List Told => mk [(1, .fn (.func fid) fi ca), (2, .ptr 0 0), (4, .ptr 1 0), (5, .ptr 2 0), (7, .ptr 4 0), (8, .bool (p.2.2.any Told.gone)), (10, .int .i64 p.1)]
      [(0, .box p.2.1.av), (1, .box [.nils, .nils, .nils, .nils, .nils, .nils, .nils, .nils, .nils, .nils, .int .i64 0]), (2, .box (pv [] 5)), (4, .box (pv p.2.2 (5 - p.1)))] 5)
    (fun p => p.1 ≤ 5 ∧ p.2.2.length = p.1 ∧ fiveR f (5 - p.1) p.1 p.2.1 p.2.2 = fiveS f s ∧ lok p.2.1 ∧ ∀ j, p.1 ≤ j → j < 5 → p.2.1.get j = s.get j)
    (fun p => 5 - p.1) (0, s, []) 400 rfl rfl ⟨by simp, rfl, rfl, hl, fun _ _ _ => rfl⟩ ?_ ?_
  · refine less_mk (by simp) (by simp) ?_ ?_ <;> simp (disch := first | omega | (simp only [ZL, store_len, shelf_len] <;> omega)) only [Z, Op.callOf, bslE, nilE, mslE, fadE, AV.cells, AV.isBot, AV.one, AV.flat, flatL, ids1, ids2, idsX, AV.lt, ltL, AObj.lt, finE, sevalprocAttr, frzM_store, frzM_shelf, shelf_len, shelf_one, shelf_flat, shelf_lt, shelf_take, shelf_set0, store_len, store_one, store_flat, store_lt, store_left, store_setl, store_get, store_set, store_take, store_set0, List.any_nil]
    · exact ⟨ltL0 5 hlt.1, ltL0 5 hlt.2⟩
    · rw [pv, pav_lt]; trivial
  rintro ⟨k, st, l⟩ ⟨hk, hll, hJ, hlo, hg⟩
  dsimp only at hk hll hJ hlo hg
  simp (disch := first | omega | (simp only [ZL, store_len, shelf_len] <;> omega)) only [Z, Op.callOf, bslE, nilE, mslE, fadE, AV.cells, AV.isBot, AV.one, AV.flat, flatL, ids1, ids2, idsX, AV.lt, ltL, AObj.lt, finE, sevalprocAttr, frzM_store, frzM_shelf, shelf_len, shelf_one, shelf_flat, shelf_lt, shelf_take, shelf_set0, store_len, store_one, store_flat, store_lt, store_left, store_setl, store_get, store_set, store_take, store_set0]
  refine condG_p (fun e => ?_) (fun e => ?_)
  · have hk' : k < 5 := by omega
    have hgk := hg k (Nat.le_refl _) hk'
    have hlo' : -9223372036854775808 ≤ st.left ∧ st.left ≤ 9223372036854775807 := hlo
    obtain ⟨m, hm⟩ : ∃ m, 5 - k = m + 1 := ⟨4 - k, by omega⟩
    rw [hm, fiveR] at hJ
    rw [hm]
    have hm' : 5 - (k + 1) = m := by omega
    have hpv := pv_len l (m + 1) (by omega)
    have hset := fun d e => pv_set3 l m d e false
    have hset1 := pv_set1 l m
    rw [hll] at hset hset1
    by_cases e1 : st.left = 0
    · simp (disch := first | omega | (simp only [ZL, store_len, shelf_len] <;> omega)) only [Z, Op.callOf, bslE, nilE, mslE, fadE, AV.cells, AV.isBot, AV.one, AV.flat, flatL, ids1, ids2, idsX, AV.lt, ltL, AObj.lt, finE, sevalprocAttr, frzM_store, frzM_shelf, shelf_len, shelf_one, shelf_flat, shelf_lt, shelf_take, shelf_set0, store_len, store_one, store_flat, store_lt, store_left, store_setl, store_get, store_set, store_take, store_set0, e1, hpv, hset1]
      have hc : callF f k st = (st, ⟨[], 17, true⟩) := by simp [callF, e1]
      rw [hc] at hJ
      refine finR_of (k + 1, st, l ++ [⟨[], 17, true⟩]) ⟨by dsimp only; omega, by simp; omega, by dsimp only; rw [hm']; exact hJ, hlo, fun j h1 h2 => hg j (by dsimp only at h1; omega) h2⟩ (by dsimp only; omega) ?_
      refine less_mk (by simp) (by simp) ?_ ?_ <;> simp (disch := first | omega | (simp only [ZL, store_len, shelf_len] <;> omega)) only [Z, Op.callOf, bslE, nilE, mslE, fadE, AV.cells, AV.isBot, AV.one, AV.flat, flatL, ids1, ids2, idsX, AV.lt, ltL, AObj.lt, finE, sevalprocAttr, frzM_store, frzM_shelf, shelf_len, shelf_one, shelf_flat, shelf_lt, shelf_take, shelf_set0, store_len, store_one, store_flat, store_lt, store_left, store_setl, store_get, store_set, store_take, store_set0, i64_add1, List.any_append, List.any_cons, List.any_nil, Bool.or_true, Bool.true_or, hm']
      · exact ⟨ltL0 5 hlt.1, ltL0 5 hlt.2⟩
      · simp only [pv, pav_lt, and_self]
    · have hp : (powS st).get k = st.get k := powS_get _ _
      by_cases e2 : 0 < st.left
      · have hq : ({ st with left := st.left - 1 } : Store) = powS st := by simp [powS, e2]
        simp (disch := first | omega | (simp only [ZL, store_len, shelf_len] <;> omega)) only [Z, Op.callOf, bslE, nilE, mslE, fadE, AV.cells, AV.isBot, AV.one, AV.flat, flatL, ids1, ids2, idsX, AV.lt, ltL, AObj.lt, finE, sevalprocAttr, frzM_store, frzM_shelf, shelf_len, shelf_one, shelf_flat, shelf_lt, shelf_take, shelf_set0, store_len, store_one, store_flat, store_lt, store_left, store_setl, store_get, store_set, store_take, store_set0, e1, e2, hq, hpv]
        rw [hp, hgk]
        refine callL_pure (hf k hk') (by simp [ltL_app, ltL, AV.lt, shelf_lt, hlt]) rfl ?_
        simp (disch := first | omega | (simp only [ZL, store_len, shelf_len] <;> omega)) only [Z, Op.callOf, bslE, nilE, mslE, fadE, AV.cells, AV.isBot, AV.one, AV.flat, flatL, ids1, ids2, idsX, AV.lt, ltL, AObj.lt, finE, sevalprocAttr, frzM_store, frzM_shelf, shelf_len, shelf_one, shelf_flat, shelf_lt, shelf_take, shelf_set0, store_len, store_one, store_flat, store_lt, store_left, store_setl, store_get, store_set, store_take, store_set0, hpv, pav_len, pav1_one, hset]
        have hc : callF f k st = ((powS st).set k (f k (s.get k)).1, ⟨(f k (s.get k)).2.1, (f k (s.get k)).2.2, false⟩) := by simp [callF, e1, hgk]
        rw [hc] at hJ
        refine finR_of (k + 1, (powS st).set k (f k (s.get k)).1, l ++ [⟨(f k (s.get k)).2.1, (f k (s.get k)).2.2, false⟩])
          ⟨by dsimp only; omega, by simp; omega, by dsimp only; rw [hm']; exact hJ, lok_set _ _ _ (lok_pow _ hlo), fun j h1 h2 => by dsimp only at h1 ⊢; rw [get_set_ne _ _ _ _ hk' h2 (by omega), powS_get]; exact hg j (by omega) h2⟩ (by dsimp only; omega) ?_
        refine less_mk (by simp) (by simp) ?_ ?_ <;> simp (disch := first | omega | (simp only [ZL, store_len, shelf_len] <;> omega)) only [Z, Op.callOf, bslE, nilE, mslE, fadE, AV.cells, AV.isBot, AV.one, AV.flat, flatL, ids1, ids2, idsX, AV.lt, ltL, AObj.lt, finE, sevalprocAttr, frzM_store, frzM_shelf, shelf_len, shelf_one, shelf_flat, shelf_lt, shelf_take, shelf_set0, store_len, store_one, store_flat, store_lt, store_left, store_setl, store_get, store_set, store_take, store_set0, i64_add1, List.any_append, List.any_cons, List.any_nil, Bool.or_false, Bool.false_or, hm']
        · exact ⟨ltL0 5 hlt.1, ltL0 5 hlt.2⟩
        · simp only [pv, pav_lt, and_self]
      · have hq : st = powS st := by simp [powS, e2]
        simp (disch := first | omega | (simp only [ZL, store_len, shelf_len] <;> omega)) only [Z, Op.callOf, bslE, nilE, mslE, fadE, AV.cells, AV.isBot, AV.one, AV.flat, flatL, ids1, ids2, idsX, AV.lt, ltL, AObj.lt, finE, sevalprocAttr, frzM_store, frzM_shelf, shelf_len, shelf_one, shelf_flat, shelf_lt, shelf_take, shelf_set0, store_len, store_one, store_flat, store_lt, store_left, store_setl, store_get, store_set, store_take, store_set0, e1, e2, hpv]
        rw [show st.get k = (powS st).get k from hp.symm, show st.av = (powS st).av by rw [← hq]]
        rw [hp, hgk]
        refine callL_pure (hf k hk') (by simp [ltL_app, ltL, AV.lt, shelf_lt, hlt]) rfl ?_
        simp (disch := first | omega | (simp only [ZL, store_len, shelf_len] <;> omega)) only [Z, Op.callOf, bslE, nilE, mslE, fadE, AV.cells, AV.isBot, AV.one, AV.flat, flatL, ids1, ids2, idsX, AV.lt, ltL, AObj.lt, finE, sevalprocAttr, frzM_store, frzM_shelf, shelf_len, shelf_one, shelf_flat, shelf_lt, shelf_take, shelf_set0, store_len, store_one, store_flat, store_lt, store_left, store_setl, store_get, store_set, store_take, store_set0, hpv, pav_len, pav1_one, hset]
        have hc : callF f k st = ((powS st).set k (f k (s.get k)).1, ⟨(f k (s.get k)).2.1, (f k (s.get k)).2.2, false⟩) := by simp [callF, e1, hgk]
        rw [hc] at hJ
        refine finR_of (k + 1, (powS st).set k (f k (s.get k)).1, l ++ [⟨(f k (s.get k)).2.1, (f k (s.get k)).2.2, false⟩])
          ⟨by dsimp only; omega, by simp; omega, by dsimp only; rw [hm']; exact hJ, lok_set _ _ _ (lok_pow _ hlo), fun j h1 h2 => by dsimp only at h1 ⊢; rw [get_set_ne _ _ _ _ hk' h2 (by omega), powS_get]; exact hg j (by omega) h2⟩ (by dsimp only; omega) ?_
        refine less_mk (by simp) (by simp) ?_ ?_ <;> simp (disch := first | omega | (simp only [ZL, store_len, shelf_len] <;> omega)) only [Z, Op.callOf, bslE, nilE, mslE, fadE, AV.cells, AV.isBot, AV.one, AV.flat, flatL, ids1, ids2, idsX, AV.lt, ltL, AObj.lt, finE, sevalprocAttr, frzM_store, frzM_shelf, shelf_len, shelf_one, shelf_flat, shelf_lt, shelf_take, shelf_set0, store_len, store_one, store_flat, store_lt, store_left, store_setl, store_get, store_set, store_take, store_set0, i64_add1, List.any_append, List.any_cons, List.any_nil, Bool.or_false, Bool.false_or, hm']
        · exact ⟨ltL0 5 hlt.1, ltL0 5 hlt.2⟩
        · simp only [pv, pav_lt, and_self]
  · have : k = 5 := by omega
    subst this
    have e3 : (pv l 0).length = 15 := pv_len l 0 (by omega)
    have e4 : (pv l 0).take 15 = pv l 0 := List.take_of_length_le (by omega)
    have e5 : (pv [] 5).length = 15 := pv_len [] 5 rfl
    have e6 : setL (pv [] 5) 0 (pv l 0) = pv l 0 := setL_0 _ _ (by rw [e3, e5])
    have e7 : (pv l 0).all AV.one = true := pav_one _
    simp (disch := first | omega | (simp only [ZL, store_len, shelf_len] <;> omega)) only [Z, Op.callOf, bslE, nilE, mslE, fadE, AV.cells, AV.isBot, AV.one, AV.flat, flatL, ids1, ids2, idsX, AV.lt, ltL, AObj.lt, finE, sevalprocAttr, frzM_store, frzM_shelf, shelf_len, shelf_one, shelf_flat, shelf_lt, shelf_take, shelf_set0, store_len, store_one, store_flat, store_lt, store_left, store_setl, store_get, store_set, store_take, store_set0, e3, e4, e5, e6, e7]
    refine okK_of (by kernel_rfl) ?_
    simp (disch := first | omega | (simp only [ZL, store_len, shelf_len] <;> omega)) only [Z, Op.callOf, bslE, nilE, mslE, fadE, AV.cells, AV.isBot, AV.one, AV.flat, flatL, ids1, ids2, idsX, AV.lt, ltL, AObj.lt, finE, sevalprocAttr, frzM_store, frzM_shelf, shelf_len, shelf_one, shelf_flat, shelf_lt, shelf_take, shelf_set0, store_len, store_one, store_flat, store_lt, store_left, store_setl, store_get, store_set, store_take, store_set0, e3, e4, e5, e6, e7, frzM_pv]
    rw [← hJ]
    simp only [Nat.sub_self, fiveR, pv, List.replicate_zero, List.append_nil, pav_lt, and_self, and_true]
    repeat' first | exact Sub.rfl' _ | exact sub_nils _ | exact SubL.nil | refine sub_tup ?_ | refine sub_agg ?_ | refine SubL.cons ?_ ?_
end Go.Ab
namespace Go.Ab
open Go Go.Proofs
variable [Glob] [LibC]
set_option maxHeartbeats 400000

theorem get1_c (k : Nat) (x : Shelf) (name : List UInt8) (h1 : x.objs.length < 2^40) (h2 : x.fates.length < 2^40) :
    APure Tryz.prog 99 [.int .i64 k, .agg x.av, .cp [.str name]] (.tup [.agg (getS x name).1.av, .agg (Told.pav ⟨(getS x name).2.1, (getS x name).2.2, false⟩)]) := by
  refine apure_fin mixed [] 400 Tryz.func99 Tryz.ntmps99 Tryz.results99 rfl rfl (by simp) rfl ?_
  simp (disch := first | omega | (simp only [ZL, store_len, shelf_len] <;> omega)) only [Z, Op.callOf, bslE, nilE, mslE, fadE, AV.cells, AV.isBot, AV.one, AV.flat, flatL, ids1, ids2, idsX, AV.lt, ltL, AObj.lt, finE, sevalprocAttr, frzM_store, frzM_shelf, shelf_len, shelf_one, shelf_flat, shelf_lt, shelf_take, shelf_set0, store_len, store_one, store_flat, store_lt, store_left, store_setl, store_get, store_set, store_take, store_set0]
  refine callL_pure (get_c x name h1 h2) (by simp [ltL, AV.lt, store_lt, shelf_lt]) rfl ?_
  simp (disch := first | omega | (simp only [ZL, store_len, shelf_len] <;> omega)) only [Z, Op.callOf, bslE, nilE, mslE, fadE, AV.cells, AV.isBot, AV.one, AV.flat, flatL, ids1, ids2, idsX, AV.lt, ltL, AObj.lt, finE, sevalprocAttr, frzM_store, frzM_shelf, shelf_len, shelf_one, shelf_flat, shelf_lt, shelf_take, shelf_set0, store_len, store_one, store_flat, store_lt, store_left, store_setl, store_get, store_set, store_take, store_set0, Told.pav]
  repeat' first | exact Sub.rfl' _ | exact sub_nils _ | exact SubL.nil | refine sub_tup ?_ | refine sub_agg ?_ | refine SubL.cons ?_ ?_
theorem sget_c (s : Store) (name : List UInt8) (hl : lok s) (hs : Small s) :
    APure Tryz.prog 59 [.agg s.av, .str name] (.tup [.agg (fiveS (getF name) s).1.av, .agg ((fiveS (getF name) s).2.flatMap Told.pav), .bool ((fiveS (getF name) s).2.any Told.gone)]) := by
  refine apure_fin mixed [] 400 Tryz.func59 Tryz.ntmps59 Tryz.results59 rfl rfl (by simp) rfl ?_
  simp (disch := first | omega | (simp only [ZL, store_len, shelf_len] <;> omega)) only [Z, Op.callOf, bslE, nilE, mslE, fadE, AV.cells, AV.isBot, AV.one, AV.flat, flatL, ids1, ids2, idsX, AV.lt, ltL, AObj.lt, finE, sevalprocAttr, frzM_store, frzM_shelf, shelf_len, shelf_one, shelf_flat, shelf_lt, shelf_take, shelf_set0, store_len, store_one, store_flat, store_lt, store_left, store_setl, store_get, store_set, store_take, store_set0]
  have hll := five_len (getF name) 5 0 s []
  change (fiveS (getF name) s).2.length = 5 at hll
  have h5 := five_c (getF name) s 99 [] [.cp [.str name]] (by simp [ltL, AV.lt]) hl fun k hk => get1_c k _ name (hs k hk).1 (hs k hk).2
  generalize fiveS (getF name) s = q at hll h5 ⊢
  obtain ⟨s', l⟩ := q
  dsimp only at hll h5 ⊢
  refine callL_fz h5 (by simp [ltL, AV.lt, store_lt]) rfl ?_
  simp (disch := first | omega | (simp only [ZL, store_len, shelf_len] <;> omega)) only [Z, Op.callOf, bslE, nilE, mslE, fadE, AV.cells, AV.isBot, AV.one, AV.flat, flatL, ids1, ids2, idsX, AV.lt, ltL, AObj.lt, finE, sevalprocAttr, frzM_store, frzM_shelf, shelf_len, shelf_one, shelf_flat, shelf_lt, shelf_take, shelf_set0, store_len, store_one, store_flat, store_lt, store_left, store_setl, store_get, store_set, store_take, store_set0, pv5_len, pv5_take, pv5_set0, pv5_get, pav_one, pav_lt, frzM_pav, pav_len, pav1_one]
  repeat' first | exact Sub.rfl' _ | exact sub_nils _ | exact SubL.nil | refine sub_tup ?_ | refine sub_agg ?_ | refine SubL.cons ?_ ?_

theorem slost_c (l : List Told) (hl : l.length = 5) (g : Bool) (hg : g = l.any Told.gone) : APure Tryz.prog 60 [.agg (l.flatMap Told.pav), .bool g] (.int .i64 (lostS l)) := by
  subst hg
  refine apure_fin mixed [] 400 Tryz.func60 Tryz.ntmps60 Tryz.results60 rfl rfl (by simp) rfl ?_
  cases eg : l.any Told.gone
  · simp (disch := first | omega | (simp only [ZL] <;> omega)) only [Z, Op.callOf, bslE, nilE, mslE, fadE, AV.cells, AV.isBot, AV.one, AV.flat, flatL, ids1, ids2, idsX, AV.lt, ltL, AObj.lt, finE, sevalprocAttr, eg, pv5_len, pv5_take, pv5_set0, pv5_get, pav_one, pav_lt, frzM_pav, pav_len, pav1_one]
    refine loopF mixed (fun p : Nat × Nat => mk [(2, .ptr 0 0), (5, .int .i64 p.2), (9, .agg (l.flatMap Told.pav)), (10, .int .i64 p.1)] [(0, .box (l.flatMap Told.pav))] 1)
      (fun p => p.1 ≤ 5 ∧ p.2 = cntNone (l.take p.1) ∧ p.2 ≤ p.1) (fun p => 5 - p.1) (0, 0) 400 rfl rfl ⟨by simp, rfl, by simp⟩ ?_ ?_
    · refine less_mk (by simp) (by simp) ?_ ?_ <;> simp (disch := first | omega | (simp only [ZL] <;> omega)) only [Z, Op.callOf, bslE, nilE, mslE, fadE, AV.cells, AV.isBot, AV.one, AV.flat, flatL, ids1, ids2, idsX, AV.lt, ltL, AObj.lt, finE, sevalprocAttr, pv5_len, pv5_take, pv5_set0, pv5_get, pav_one, pav_lt, frzM_pav, pav_len, pav1_one]
    rintro ⟨k, c⟩ ⟨hk, hc, hle⟩
    dsimp only at hk hc hle
    simp (disch := first | omega | (simp only [ZL] <;> omega)) only [Z, Op.callOf, bslE, nilE, mslE, fadE, AV.cells, AV.isBot, AV.one, AV.flat, flatL, ids1, ids2, idsX, AV.lt, ltL, AObj.lt, finE, sevalprocAttr, pv5_len, pv5_take, pv5_set0, pv5_get, pav_one, pav_lt, frzM_pav, pav_len, pav1_one]
    refine condG_p (fun e => ?_) (fun e => ?_)
    · have hk' : k < l.length := by omega
      have et : l.take (k + 1) = l.take k ++ [l[k]] := by simp
      by_cases e9 : l[k].err = 9
      · simp (disch := first | omega | (simp only [ZL] <;> omega)) only [Z, Op.callOf, bslE, nilE, mslE, fadE, AV.cells, AV.isBot, AV.one, AV.flat, flatL, ids1, ids2, idsX, AV.lt, ltL, AObj.lt, finE, sevalprocAttr, pv5_len, pv5_take, pv5_set0, pv5_get, pav_one, pav_lt, frzM_pav, pav_len, pav1_one, Told.pav, e9]
        refine finR_of (k + 1, c + 1) ⟨by dsimp only; omega, ?_, by dsimp only; omega⟩ (by dsimp only; omega) ?_
        · dsimp only; rw [et, hc]; unfold cntNone; rw [List.countP_append]; simp [e9]
        · refine less_mk (by simp) (by simp) ?_ ?_ <;> simp (disch := first | omega | (simp only [ZL] <;> omega)) only [Z, Op.callOf, bslE, nilE, mslE, fadE, AV.cells, AV.isBot, AV.one, AV.flat, flatL, ids1, ids2, idsX, AV.lt, ltL, AObj.lt, finE, sevalprocAttr, i64_add1, pv5_len, pv5_take, pv5_set0, pv5_get, pav_one, pav_lt, frzM_pav, pav_len, pav1_one]
      · simp (disch := first | omega | (simp only [ZL] <;> omega)) only [Z, Op.callOf, bslE, nilE, mslE, fadE, AV.cells, AV.isBot, AV.one, AV.flat, flatL, ids1, ids2, idsX, AV.lt, ltL, AObj.lt, finE, sevalprocAttr, pv5_len, pv5_take, pv5_set0, pv5_get, pav_one, pav_lt, frzM_pav, pav_len, pav1_one, Told.pav, e9]
        refine finR_of (k + 1, c) ⟨by dsimp only; omega, ?_, by dsimp only; omega⟩ (by dsimp only; omega) ?_
        · dsimp only; rw [et, hc]; unfold cntNone; rw [List.countP_append]; simp [e9]
        · refine less_mk (by simp) (by simp) ?_ ?_ <;> simp (disch := first | omega | (simp only [ZL] <;> omega)) only [Z, Op.callOf, bslE, nilE, mslE, fadE, AV.cells, AV.isBot, AV.one, AV.flat, flatL, ids1, ids2, idsX, AV.lt, ltL, AObj.lt, finE, sevalprocAttr, i64_add1, pv5_len, pv5_take, pv5_set0, pv5_get, pav_one, pav_lt, frzM_pav, pav_len, pav1_one]
    · have : k = l.length := by omega
      subst this
      rw [List.take_length] at hc
      have e2 := lost_nogone l eg
      by_cases e3 : (3 : Int) ≤ (c : Int)
      · simp (disch := first | omega | (simp only [ZL] <;> omega)) only [Z, Op.callOf, bslE, nilE, mslE, fadE, AV.cells, AV.isBot, AV.one, AV.flat, flatL, ids1, ids2, idsX, AV.lt, ltL, AObj.lt, finE, sevalprocAttr, e3]
        rw [e2, if_pos (by omega)]
        repeat' first | exact Sub.rfl' _ | exact sub_nils _ | exact SubL.nil | refine sub_tup ?_ | refine sub_agg ?_ | refine SubL.cons ?_ ?_
      · simp (disch := first | omega | (simp only [ZL] <;> omega)) only [Z, Op.callOf, bslE, nilE, mslE, fadE, AV.cells, AV.isBot, AV.one, AV.flat, flatL, ids1, ids2, idsX, AV.lt, ltL, AObj.lt, finE, sevalprocAttr, e3]
        rw [e2, if_neg (by omega)]
        repeat' first | exact Sub.rfl' _ | exact sub_nils _ | exact SubL.nil | refine sub_tup ?_ | refine sub_agg ?_ | refine SubL.cons ?_ ?_
  · simp (disch := first | omega | (simp only [ZL] <;> omega)) only [Z, Op.callOf, bslE, nilE, mslE, fadE, AV.cells, AV.isBot, AV.one, AV.flat, flatL, ids1, ids2, idsX, AV.lt, ltL, AObj.lt, finE, sevalprocAttr, eg, pv5_len, pv5_take, pv5_set0, pv5_get, pav_one, pav_lt, frzM_pav, pav_len, pav1_one]
    simp only [lostS, eg, if_true]
    repeat' first | exact Sub.rfl' _ | exact sub_nils _ | exact SubL.nil | refine sub_tup ?_ | refine sub_agg ?_ | refine SubL.cons ?_ ?_

theorem vote_c (s : Store) (name : List UInt8) (hl : lok s) (hs : Small s) : APure Tryz.prog 34 [.agg s.av, .str name] (.tup [.agg (voteS s name).1.av, .str (voteS s name).2.1, .int .i64 (voteS s name).2.2]) := by
  refine apure_fin mixed [] 400 Tryz.func34 Tryz.ntmps34 Tryz.results34 rfl rfl (by simp) rfl ?_
  simp (disch := first | omega | (simp only [ZL, store_len, shelf_len] <;> omega)) only [Z, Op.callOf, bslE, nilE, mslE, fadE, AV.cells, AV.isBot, AV.one, AV.flat, flatL, ids1, ids2, idsX, AV.lt, ltL, AObj.lt, finE, sevalprocAttr, frzM_store, frzM_shelf, shelf_len, shelf_one, shelf_flat, shelf_lt, shelf_take, shelf_set0, store_len, store_one, store_flat, store_lt, store_left, store_setl, store_get, store_set, store_take, store_set0]
  refine callL_pure (look_c name 0) (by simp [ltL, AV.lt, store_lt, shelf_lt]) rfl ?_
  cases c : namedS name
  · simp (disch := first | omega | (simp only [ZL, store_len, shelf_len] <;> omega)) only [Z, Op.callOf, bslE, nilE, mslE, fadE, AV.cells, AV.isBot, AV.one, AV.flat, flatL, ids1, ids2, idsX, AV.lt, ltL, AObj.lt, finE, sevalprocAttr, frzM_store, frzM_shelf, shelf_len, shelf_one, shelf_flat, shelf_lt, shelf_take, shelf_set0, store_len, store_one, store_flat, store_lt, store_left, store_setl, store_get, store_set, store_take, store_set0, c]
    simp only [voteS, c, if_true]
    repeat' first | exact Sub.rfl' _ | exact sub_nils _ | exact SubL.nil | refine sub_tup ?_ | refine sub_agg ?_ | refine SubL.cons ?_ ?_
  simp (disch := first | omega | (simp only [ZL, store_len, shelf_len] <;> omega)) only [Z, Op.callOf, bslE, nilE, mslE, fadE, AV.cells, AV.isBot, AV.one, AV.flat, flatL, ids1, ids2, idsX, AV.lt, ltL, AObj.lt, finE, sevalprocAttr, frzM_store, frzM_shelf, shelf_len, shelf_one, shelf_flat, shelf_lt, shelf_take, shelf_set0, store_len, store_one, store_flat, store_lt, store_left, store_setl, store_get, store_set, store_take, store_set0, c, Bool.true_eq_false]
  refine callL_pure (sget_c s name hl hs) (by simp [ltL, AV.lt, store_lt, shelf_lt]) rfl ?_
  have hll := five_len (getF name) 5 0 s []
  simp only [voteS, c, Bool.true_eq_false, if_false]
  change (fiveS (getF name) s).2.length = 5 at hll
  generalize fiveS (getF name) s = q at hll ⊢
  obtain ⟨s', l⟩ := q
  dsimp only at hll ⊢
  simp (disch := first | omega | (simp only [ZL, store_len, shelf_len] <;> omega)) only [Z, Op.callOf, bslE, nilE, mslE, fadE, AV.cells, AV.isBot, AV.one, AV.flat, flatL, ids1, ids2, idsX, AV.lt, ltL, AObj.lt, finE, sevalprocAttr, frzM_store, frzM_shelf, shelf_len, shelf_one, shelf_flat, shelf_lt, shelf_take, shelf_set0, store_len, store_one, store_flat, store_lt, store_left, store_setl, store_get, store_set, store_take, store_set0, pv5_len, pv5_take, pv5_set0, pv5_get, pav_one, pav_lt, frzM_pav, pav_len, pav1_one]
  refine loopF mixed (fun k : Nat => mk [(2, .ptr 0 0), (4, .ptr 1 0), (8, .ptr 14 0), (9, .bool (l.any Told.gone)), (28, .agg (l.flatMap Told.pav)), (29, .int .i64 k)]
      [(0, .box s'.av), (1, .box [.nils, .nils, .nils, .nils, .nils, .nils, .nils, .nils, .nils, .nils, .int .i64 0]), (14, .box (l.flatMap Told.pav))] 15)
    (fun k => k ≤ l.length ∧ (l.drop k).find? (most l) = l.find? (most l)) (fun k => l.length - k) 0 400 rfl rfl ⟨by omega, by simp⟩ ?_ ?_
  · refine less_mk (by simp) (by simp) ?_ ?_ <;> simp (disch := first | omega | (simp only [ZL, store_len, shelf_len] <;> omega)) only [Z, Op.callOf, bslE, nilE, mslE, fadE, AV.cells, AV.isBot, AV.one, AV.flat, flatL, ids1, ids2, idsX, AV.lt, ltL, AObj.lt, finE, sevalprocAttr, frzM_store, frzM_shelf, shelf_len, shelf_one, shelf_flat, shelf_lt, shelf_take, shelf_set0, store_len, store_one, store_flat, store_lt, store_left, store_setl, store_get, store_set, store_take, store_set0, pv5_len, pv5_take, pv5_set0, pv5_get, pav_one, pav_lt, frzM_pav, pav_len, pav1_one]
  rintro k ⟨hk, hJ⟩
  simp (disch := first | omega | (simp only [ZL, store_len, shelf_len] <;> omega)) only [Z, Op.callOf, bslE, nilE, mslE, fadE, AV.cells, AV.isBot, AV.one, AV.flat, flatL, ids1, ids2, idsX, AV.lt, ltL, AObj.lt, finE, sevalprocAttr, frzM_store, frzM_shelf, shelf_len, shelf_one, shelf_flat, shelf_lt, shelf_take, shelf_set0, store_len, store_one, store_flat, store_lt, store_left, store_setl, store_get, store_set, store_take, store_set0, pv5_len, pv5_take, pv5_set0, pv5_get, pav_one, pav_lt, frzM_pav, pav_len, pav1_one]
  refine condG_p (fun e => ?_) (fun e => ?_)
  · have hk' : k < l.length := by omega
    rw [List.drop_eq_getElem_cons hk', List.find?_cons] at hJ
    simp (disch := first | omega | (simp only [ZL, store_len, shelf_len] <;> omega)) only [Z, Op.callOf, bslE, nilE, mslE, fadE, AV.cells, AV.isBot, AV.one, AV.flat, flatL, ids1, ids2, idsX, AV.lt, ltL, AObj.lt, finE, sevalprocAttr, frzM_store, frzM_shelf, shelf_len, shelf_one, shelf_flat, shelf_lt, shelf_take, shelf_set0, store_len, store_one, store_flat, store_lt, store_left, store_setl, store_get, store_set, store_take, store_set0, pv5_len, pv5_take, pv5_set0, pv5_get, pav_one, pav_lt, frzM_pav, pav_len, pav1_one, Told.pav]
    refine loopF mixed (fun p : Nat × Nat => mk [(2, .ptr 0 0), (4, .ptr 1 0), (8, .ptr 14 0), (9, .bool (l.any Told.gone)), (11, .ptr 17 0), (12, .int .i64 p.2), (28, .agg (l.flatMap Told.pav)), (29, .int .i64 k), (32, .agg (l.flatMap Told.pav)), (33, .int .i64 p.1)]
        [(0, .box s'.av), (1, .box [.nils, .nils, .nils, .nils, .nils, .nils, .nils, .nils, .nils, .nils, .int .i64 0]), (14, .box (l.flatMap Told.pav)), (17, .box l[k].pav)] 18)
      (fun p => p.1 ≤ l.length ∧ p.2 = (l.take p.1).countP (like l[k]) ∧ p.2 ≤ p.1) (fun p => l.length - p.1) (0, 0) 400 rfl rfl ⟨by simp, rfl, by simp⟩ ?_ ?_
    · refine less_mk (by simp) (by simp) ?_ ?_ <;> simp (disch := first | omega | (simp only [ZL, store_len, shelf_len] <;> omega)) only [Z, Op.callOf, bslE, nilE, mslE, fadE, AV.cells, AV.isBot, AV.one, AV.flat, flatL, ids1, ids2, idsX, AV.lt, ltL, AObj.lt, finE, sevalprocAttr, frzM_store, frzM_shelf, shelf_len, shelf_one, shelf_flat, shelf_lt, shelf_take, shelf_set0, store_len, store_one, store_flat, store_lt, store_left, store_setl, store_get, store_set, store_take, store_set0, pv5_len, pv5_take, pv5_set0, pv5_get, pav_one, pav_lt, frzM_pav, pav_len, pav1_one, Told.pav]
    rintro ⟨m, c⟩ ⟨hm, hc, hcm⟩
    dsimp only at hm hc hcm
    simp (disch := first | omega | (simp only [ZL, store_len, shelf_len] <;> omega)) only [Z, Op.callOf, bslE, nilE, mslE, fadE, AV.cells, AV.isBot, AV.one, AV.flat, flatL, ids1, ids2, idsX, AV.lt, ltL, AObj.lt, finE, sevalprocAttr, frzM_store, frzM_shelf, shelf_len, shelf_one, shelf_flat, shelf_lt, shelf_take, shelf_set0, store_len, store_one, store_flat, store_lt, store_left, store_setl, store_get, store_set, store_take, store_set0, pv5_len, pv5_take, pv5_set0, pv5_get, pav_one, pav_lt, frzM_pav, pav_len, pav1_one]
    refine condG_p (fun e => ?_) (fun e => ?_)
    · have hm' : m < l.length := by omega
      have et : l.take (m + 1) = l.take m ++ [l[m]] := by simp
      have ec : (l.take (m + 1)).countP (like l[k]) = c + (if like l[k] l[m] then 1 else 0) := by
        rw [et, List.countP_append, hc]; simp [List.countP_cons]
      by_cases a1 : l[k].err = 0
      · by_cases a2 : l[m].err = 0
        · by_cases a3 : l[k].data = l[m].data
          · simp (disch := first | omega | (simp only [ZL, store_len, shelf_len] <;> omega)) only [Z, Op.callOf, bslE, nilE, mslE, fadE, AV.cells, AV.isBot, AV.one, AV.flat, flatL, ids1, ids2, idsX, AV.lt, ltL, AObj.lt, finE, sevalprocAttr, frzM_store, frzM_shelf, shelf_len, shelf_one, shelf_flat, shelf_lt, shelf_take, shelf_set0, store_len, store_one, store_flat, store_lt, store_left, store_setl, store_get, store_set, store_take, store_set0, pv5_len, pv5_take, pv5_set0, pv5_get, pav_one, pav_lt, frzM_pav, pav_len, pav1_one, Told.pav, a1, a2, a3]
            have lk : like l[k] l[m] = true := by simp [like, a1, a2, a3]
            refine finR_of (m + 1, c + 1) ⟨by dsimp only; omega, by dsimp only; rw [ec, lk]; rfl, by dsimp only; omega⟩ (by dsimp only; omega) ?_
            refine less_mk (by simp) (by simp) ?_ ?_ <;> simp (disch := first | omega | (simp only [ZL, store_len, shelf_len] <;> omega)) only [Z, Op.callOf, bslE, nilE, mslE, fadE, AV.cells, AV.isBot, AV.one, AV.flat, flatL, ids1, ids2, idsX, AV.lt, ltL, AObj.lt, finE, sevalprocAttr, frzM_store, frzM_shelf, shelf_len, shelf_one, shelf_flat, shelf_lt, shelf_take, shelf_set0, store_len, store_one, store_flat, store_lt, store_left, store_setl, store_get, store_set, store_take, store_set0, pv5_len, pv5_take, pv5_set0, pv5_get, pav_one, pav_lt, frzM_pav, pav_len, pav1_one, i64_add1, Told.pav, a1, a2, a3]
          · simp (disch := first | omega | (simp only [ZL, store_len, shelf_len] <;> omega)) only [Z, Op.callOf, bslE, nilE, mslE, fadE, AV.cells, AV.isBot, AV.one, AV.flat, flatL, ids1, ids2, idsX, AV.lt, ltL, AObj.lt, finE, sevalprocAttr, frzM_store, frzM_shelf, shelf_len, shelf_one, shelf_flat, shelf_lt, shelf_take, shelf_set0, store_len, store_one, store_flat, store_lt, store_left, store_setl, store_get, store_set, store_take, store_set0, pv5_len, pv5_take, pv5_set0, pv5_get, pav_one, pav_lt, frzM_pav, pav_len, pav1_one, Told.pav, a1, a2, a3]
            have lk : like l[k] l[m] = false := by simp [like, a1, a2, a3]
            refine finR_of (m + 1, c) ⟨by dsimp only; omega, by dsimp only; rw [ec, lk]; rfl, by dsimp only; omega⟩ (by dsimp only; omega) ?_
            refine less_mk (by simp) (by simp) ?_ ?_ <;> simp (disch := first | omega | (simp only [ZL, store_len, shelf_len] <;> omega)) only [Z, Op.callOf, bslE, nilE, mslE, fadE, AV.cells, AV.isBot, AV.one, AV.flat, flatL, ids1, ids2, idsX, AV.lt, ltL, AObj.lt, finE, sevalprocAttr, frzM_store, frzM_shelf, shelf_len, shelf_one, shelf_flat, shelf_lt, shelf_take, shelf_set0, store_len, store_one, store_flat, store_lt, store_left, store_setl, store_get, store_set, store_take, store_set0, pv5_len, pv5_take, pv5_set0, pv5_get, pav_one, pav_lt, frzM_pav, pav_len, pav1_one, i64_add1, Told.pav, a1, a2, a3]
        · simp (disch := first | omega | (simp only [ZL, store_len, shelf_len] <;> omega)) only [Z, Op.callOf, bslE, nilE, mslE, fadE, AV.cells, AV.isBot, AV.one, AV.flat, flatL, ids1, ids2, idsX, AV.lt, ltL, AObj.lt, finE, sevalprocAttr, frzM_store, frzM_shelf, shelf_len, shelf_one, shelf_flat, shelf_lt, shelf_take, shelf_set0, store_len, store_one, store_flat, store_lt, store_left, store_setl, store_get, store_set, store_take, store_set0, pv5_len, pv5_take, pv5_set0, pv5_get, pav_one, pav_lt, frzM_pav, pav_len, pav1_one, Told.pav, a1, a2]
          have lk : like l[k] l[m] = false := by simp [like, a1, a2]
          refine finR_of (m + 1, c) ⟨by dsimp only; omega, by dsimp only; rw [ec, lk]; rfl, by dsimp only; omega⟩ (by dsimp only; omega) ?_
          refine less_mk (by simp) (by simp) ?_ ?_ <;> simp (disch := first | omega | (simp only [ZL, store_len, shelf_len] <;> omega)) only [Z, Op.callOf, bslE, nilE, mslE, fadE, AV.cells, AV.isBot, AV.one, AV.flat, flatL, ids1, ids2, idsX, AV.lt, ltL, AObj.lt, finE, sevalprocAttr, frzM_store, frzM_shelf, shelf_len, shelf_one, shelf_flat, shelf_lt, shelf_take, shelf_set0, store_len, store_one, store_flat, store_lt, store_left, store_setl, store_get, store_set, store_take, store_set0, pv5_len, pv5_take, pv5_set0, pv5_get, pav_one, pav_lt, frzM_pav, pav_len, pav1_one, i64_add1, Told.pav, a1, a2]
      · simp (disch := first | omega | (simp only [ZL, store_len, shelf_len] <;> omega)) only [Z, Op.callOf, bslE, nilE, mslE, fadE, AV.cells, AV.isBot, AV.one, AV.flat, flatL, ids1, ids2, idsX, AV.lt, ltL, AObj.lt, finE, sevalprocAttr, frzM_store, frzM_shelf, shelf_len, shelf_one, shelf_flat, shelf_lt, shelf_take, shelf_set0, store_len, store_one, store_flat, store_lt, store_left, store_setl, store_get, store_set, store_take, store_set0, pv5_len, pv5_take, pv5_set0, pv5_get, pav_one, pav_lt, frzM_pav, pav_len, pav1_one, Told.pav, a1]
        have lk : like l[k] l[m] = false := by simp [like, a1]
        refine finR_of (m + 1, c) ⟨by dsimp only; omega, by dsimp only; rw [ec, lk]; rfl, by dsimp only; omega⟩ (by dsimp only; omega) ?_
        refine less_mk (by simp) (by simp) ?_ ?_ <;> simp (disch := first | omega | (simp only [ZL, store_len, shelf_len] <;> omega)) only [Z, Op.callOf, bslE, nilE, mslE, fadE, AV.cells, AV.isBot, AV.one, AV.flat, flatL, ids1, ids2, idsX, AV.lt, ltL, AObj.lt, finE, sevalprocAttr, frzM_store, frzM_shelf, shelf_len, shelf_one, shelf_flat, shelf_lt, shelf_take, shelf_set0, store_len, store_one, store_flat, store_lt, store_left, store_setl, store_get, store_set, store_take, store_set0, pv5_len, pv5_take, pv5_set0, pv5_get, pav_one, pav_lt, frzM_pav, pav_len, pav1_one, i64_add1, Told.pav, a1]
    · have : m = l.length := by omega
      subst this
      rw [List.take_length] at hc
      by_cases e3 : (3 : Int) ≤ (c : Int)
      · have hq : most l l[k] = true := by simp only [most, ← hc]; exact decide_eq_true (by omega)
        rw [hq] at hJ
        simp (disch := first | omega | (simp only [ZL, store_len, shelf_len] <;> omega)) only [Z, Op.callOf, bslE, nilE, mslE, fadE, AV.cells, AV.isBot, AV.one, AV.flat, flatL, ids1, ids2, idsX, AV.lt, ltL, AObj.lt, finE, sevalprocAttr, frzM_store, frzM_shelf, shelf_len, shelf_one, shelf_flat, shelf_lt, shelf_take, shelf_set0, store_len, store_one, store_flat, store_lt, store_left, store_setl, store_get, store_set, store_take, store_set0, pv5_len, pv5_take, pv5_set0, pv5_get, pav_one, pav_lt, frzM_pav, pav_len, pav1_one, e3, Told.pav]
        refine okK_of (by kernel_rfl) ?_
        simp (disch := first | omega | (simp only [ZL, store_len, shelf_len] <;> omega)) only [Z, Op.callOf, bslE, nilE, mslE, fadE, AV.cells, AV.isBot, AV.one, AV.flat, flatL, ids1, ids2, idsX, AV.lt, ltL, AObj.lt, finE, sevalprocAttr, frzM_store, frzM_shelf, shelf_len, shelf_one, shelf_flat, shelf_lt, shelf_take, shelf_set0, store_len, store_one, store_flat, store_lt, store_left, store_setl, store_get, store_set, store_take, store_set0, pv5_len, pv5_take, pv5_set0, pv5_get, pav_one, pav_lt, frzM_pav, pav_len, pav1_one]
        simp only [voteR, ← hJ]
        repeat' first | exact Sub.rfl' _ | exact sub_nils _ | exact SubL.nil | refine sub_tup ?_ | refine sub_agg ?_ | refine SubL.cons ?_ ?_
      · have hq : most l l[k] = false := by simp only [most, ← hc]; exact decide_eq_false (by omega)
        rw [hq] at hJ
        simp (disch := first | omega | (simp only [ZL, store_len, shelf_len] <;> omega)) only [Z, Op.callOf, bslE, nilE, mslE, fadE, AV.cells, AV.isBot, AV.one, AV.flat, flatL, ids1, ids2, idsX, AV.lt, ltL, AObj.lt, finE, sevalprocAttr, frzM_store, frzM_shelf, shelf_len, shelf_one, shelf_flat, shelf_lt, shelf_take, shelf_set0, store_len, store_one, store_flat, store_lt, store_left, store_setl, store_get, store_set, store_take, store_set0, pv5_len, pv5_take, pv5_set0, pv5_get, pav_one, pav_lt, frzM_pav, pav_len, pav1_one, e3]
        refine finR_of (k + 1) ⟨by omega, hJ⟩ (by omega) ?_
        refine less_mk (by simp) (by simp) ?_ ?_ <;> simp (disch := first | omega | (simp only [ZL, store_len, shelf_len] <;> omega)) only [Z, Op.callOf, bslE, nilE, mslE, fadE, AV.cells, AV.isBot, AV.one, AV.flat, flatL, ids1, ids2, idsX, AV.lt, ltL, AObj.lt, finE, sevalprocAttr, frzM_store, frzM_shelf, shelf_len, shelf_one, shelf_flat, shelf_lt, shelf_take, shelf_set0, store_len, store_one, store_flat, store_lt, store_left, store_setl, store_get, store_set, store_take, store_set0, pv5_len, pv5_take, pv5_set0, pv5_get, pav_one, pav_lt, frzM_pav, pav_len, pav1_one, i64_add1]
  · have : k = l.length := by omega
    subst this
    rw [List.drop_length, List.find?_nil] at hJ
    simp (disch := first | omega | (simp only [ZL, store_len, shelf_len] <;> omega)) only [Z, Op.callOf, bslE, nilE, mslE, fadE, AV.cells, AV.isBot, AV.one, AV.flat, flatL, ids1, ids2, idsX, AV.lt, ltL, AObj.lt, finE, sevalprocAttr, frzM_store, frzM_shelf, shelf_len, shelf_one, shelf_flat, shelf_lt, shelf_take, shelf_set0, store_len, store_one, store_flat, store_lt, store_left, store_setl, store_get, store_set, store_take, store_set0, pv5_len, pv5_take, pv5_set0, pv5_get, pav_one, pav_lt, frzM_pav, pav_len, pav1_one]
    refine callD_pure (slost_c l hll _ rfl) (by simp [ltL, AV.lt, pav_lt]) ?_
    simp (disch := first | omega | (simp only [ZL, store_len, shelf_len] <;> omega)) only [Z, Op.callOf, bslE, nilE, mslE, fadE, AV.cells, AV.isBot, AV.one, AV.flat, flatL, ids1, ids2, idsX, AV.lt, ltL, AObj.lt, finE, sevalprocAttr, frzM_store, frzM_shelf, shelf_len, shelf_one, shelf_flat, shelf_lt, shelf_take, shelf_set0, store_len, store_one, store_flat, store_lt, store_left, store_setl, store_get, store_set, store_take, store_set0]
    refine okK_of (by kernel_rfl) ?_
    simp (disch := first | omega | (simp only [ZL, store_len, shelf_len] <;> omega)) only [Z, Op.callOf, bslE, nilE, mslE, fadE, AV.cells, AV.isBot, AV.one, AV.flat, flatL, ids1, ids2, idsX, AV.lt, ltL, AObj.lt, finE, sevalprocAttr, frzM_store, frzM_shelf, shelf_len, shelf_one, shelf_flat, shelf_lt, shelf_take, shelf_set0, store_len, store_one, store_flat, store_lt, store_left, store_setl, store_get, store_set, store_take, store_set0]
    simp only [voteR, ← hJ]
    repeat' first | exact Sub.rfl' _ | exact sub_nils _ | exact SubL.nil | refine sub_tup ?_ | refine sub_agg ?_ | refine SubL.cons ?_ ?_
end Go.Ab
