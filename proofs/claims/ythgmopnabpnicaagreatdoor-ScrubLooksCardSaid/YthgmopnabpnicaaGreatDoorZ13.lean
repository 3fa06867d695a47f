import Derived.ChangeShapes
import Derived.ChangeArms
import Derived.OpenShut
import Derived.ReadAgain
import Derived.ChangeOld
import Derived.Test.YthgmopnabpnicaaGreatDoorZ08
import Derived.Test.YthgmopnabpnicaaGreatDoorZ10
import Derived.Test.YthgmopnabpnicaaGreatDoorZ12
set_option linter.all false
namespace Go.Ab
open Go Go.Proofs
def lok (s : Store) : Prop := -9223372036854775808 ≤ s.left ∧ s.left ≤ 9223372036854775807
theorem lok_set (s : Store) (k : Nat) (x : Shelf) (h : lok s) : lok (s.set k x) := by
  unfold lok Store.set at *
  split <;> exact h
theorem lok_pow (s : Store) (h : lok s) : lok (powS s) := by
  unfold lok powS at *
  split
  · dsimp only; omega
  · exact h
theorem lok_call (f : Nat → Shelf → Shelf × List UInt8 × Int) (k : Nat) (s : Store) (h : lok s) : lok (callF f k s).1 := by
  unfold callF; split
  · exact h
  · exact lok_set _ _ _ (lok_pow _ h)
theorem call_get (f : Nat → Shelf → Shelf × List UInt8 × Int) (k : Nat) (s : Store) (j : Nat) (hk : k < 5) (hj : j < 5) (h : k ≠ j) : (callF f k s).1.get j = s.get j := by
  unfold callF; split
  · rfl
  · rw [get_set_ne _ _ _ _ hk hj h, powS_get]
theorem five_len (f : Nat → Shelf → Shelf × List UInt8 × Int) : ∀ n k s l, (fiveR f n k s l).2.length = l.length + n
  | 0, _, _, _ => rfl
  | n + 1, k, s, l => by rw [fiveR, five_len f n]; simp; omega
abbrev getF (name : List UInt8) : Nat → Shelf → Shelf × List UInt8 × Int := fun _ x => getS x name
def Small (s : Store) : Prop := ∀ k, k < 5 → (s.get k).objs.length < 2^40 ∧ (s.get k).fates.length < 2^40
def s5 (d : Nat → List UInt8) : List AV := [.str (d 0), .str (d 1), .str (d 2), .str (d 3), .str (d 4)]
theorem s5_len (d : Nat → List UInt8) : (s5 d).length = 5 := Eq.trans rfl rfl
theorem s5_get (d : Nat → List UInt8) (k : Nat) (h : k < 5) : ((s5 d).drop k).take 1 = [.str (d k)] := by
  match k, h with
  | 0, _ => rfl
  | 1, _ => rfl
  | 2, _ => rfl
  | 3, _ => rfl
  | 4, _ => rfl
theorem s5_one (d : Nat → List UInt8) : (s5 d).all AV.one = true := rfl
theorem s5_lt (d : Nat → List UInt8) (n : Nat) : ltL n (s5 d) = True := by simp [s5, ltL, AV.lt]
variable [Glob] [LibC]
set_option maxHeartbeats 400000

theorem rcall1_c (s : Store) (k : Nat) (hk : k < 5) (name data : List UInt8) (hl : -9223372036854775808 ≤ s.left ∧ s.left ≤ 9223372036854775807) (h1 : (s.get k).objs.length < 2^40) (h2 : (s.get k).fates.length < 2^40) :
    APure Tryz.prog 88 [.agg s.av, .int .i64 k, .int .i64 1, .str name, .str data] (.tup [.agg (callF (fun _ x => getS x name) k s).1.av, .agg (callF (fun _ x => getS x name) k s).2.rav]) := by
  refine apure_fin mixed [] 400 Tryz.func88 Tryz.ntmps88 Tryz.results88 rfl rfl (by simp) rfl ?_
  simp (disch := first | omega | (simp only [ZL, store_len, shelf_len] <;> omega)) only [Z, Op.callOf, bslE, nilE, mslE, fadE, AV.cells, AV.isBot, AV.one, AV.flat, flatL, ids1, ids2, idsX, AV.lt, ltL, AObj.lt, finE, sevalprocAttr, frzM_store, frzM_shelf, shelf_len, shelf_one, shelf_flat, shelf_lt, shelf_take, shelf_set0, store_len, store_one, store_flat, store_lt, store_left, store_setl, store_get, store_set, store_take, store_set0]
  refine callL_pure (power_c s hl) (by simp [ltL, AV.lt, store_lt, shelf_lt]) rfl ?_
  by_cases e : s.left = 0
  · simp (disch := first | omega | (simp only [ZL, store_len, shelf_len] <;> omega)) only [Z, Op.callOf, bslE, nilE, mslE, fadE, AV.cells, AV.isBot, AV.one, AV.flat, flatL, ids1, ids2, idsX, AV.lt, ltL, AObj.lt, finE, sevalprocAttr, frzM_store, frzM_shelf, shelf_len, shelf_one, shelf_flat, shelf_lt, shelf_take, shelf_set0, store_len, store_one, store_flat, store_lt, store_left, store_setl, store_get, store_set, store_take, store_set0, e]
    simp only [callF, e, if_true, Told.rav, ltL, AV.lt, and_self, and_true]
    repeat' first | exact Sub.rfl' _ | exact sub_nils _ | exact SubL.nil | refine sub_tup ?_ | refine sub_agg ?_ | refine SubL.cons ?_ ?_
  · have e2 : ((powS s).get k).objs.length < 2^40 := by rw [powS_get]; exact h1
    have e3 : ((powS s).get k).fates.length < 2^40 := by rw [powS_get]; exact h2
    simp (disch := first | omega | (simp only [ZL, store_len, shelf_len] <;> omega)) only [Z, Op.callOf, bslE, nilE, mslE, fadE, AV.cells, AV.isBot, AV.one, AV.flat, flatL, ids1, ids2, idsX, AV.lt, ltL, AObj.lt, finE, sevalprocAttr, frzM_store, frzM_shelf, shelf_len, shelf_one, shelf_flat, shelf_lt, shelf_take, shelf_set0, store_len, store_one, store_flat, store_lt, store_left, store_setl, store_get, store_set, store_take, store_set0, e]
    refine callL_pure (get36_c _ name e2 e3) (by simp [ltL, AV.lt, store_lt, shelf_lt]) rfl ?_
    simp (disch := first | omega | (simp only [ZL, store_len, shelf_len] <;> omega)) only [Z, Op.callOf, bslE, nilE, mslE, fadE, AV.cells, AV.isBot, AV.one, AV.flat, flatL, ids1, ids2, idsX, AV.lt, ltL, AObj.lt, finE, sevalprocAttr, frzM_store, frzM_shelf, shelf_len, shelf_one, shelf_flat, shelf_lt, shelf_take, shelf_set0, store_len, store_one, store_flat, store_lt, store_left, store_setl, store_get, store_set, store_take, store_set0]
    refine okK_of (by kernel_rfl) ?_
    simp (disch := first | omega | (simp only [ZL, store_len, shelf_len] <;> omega)) only [Z, Op.callOf, bslE, nilE, mslE, fadE, AV.cells, AV.isBot, AV.one, AV.flat, flatL, ids1, ids2, idsX, AV.lt, ltL, AObj.lt, finE, sevalprocAttr, frzM_store, frzM_shelf, shelf_len, shelf_one, shelf_flat, shelf_lt, shelf_take, shelf_set0, store_len, store_one, store_flat, store_lt, store_left, store_setl, store_get, store_set, store_take, store_set0]
    simp only [callF, e, if_false, Told.rav, powS_get, ltL, AV.lt, and_self, and_true]
    repeat' first | exact Sub.rfl' _ | exact sub_nils _ | exact SubL.nil | refine sub_tup ?_ | refine sub_agg ?_ | refine SubL.cons ?_ ?_


theorem rfive_c (f : Nat → Shelf → Shelf × List UInt8 × Int) (kd : Int) (s : Store) (name : List UInt8) (d : Nat → List UInt8) (hl : lok s)
    (hf : ∀ st k, k < 5 → lok st → st.get k = s.get k → APure Tryz.prog 88 [.agg st.av, .int .i64 k, .int .i64 kd, .str name, .str (d k)] (.tup [.agg (callF f k st).1.av, .agg (callF f k st).2.rav])) :
    APure Tryz.prog 52 [.agg s.av, .int .i64 kd, .str name, .agg (s5 d)] (.tup [.agg (fiveS f s).1.av, .sl 4 ((fiveS f s).2.map Told.rav)]) := by
  refine apure_fin mixed [] 400 Tryz.func52 Tryz.ntmps52 Tryz.results52 rfl rfl (by simp) rfl ?_
  simp (disch := first | omega | (simp only [ZL, store_len, shelf_len] <;> omega)) only [Z, Op.callOf, bslE, nilE, mslE, fadE, AV.cells, AV.isBot, AV.one, AV.flat, flatL, ids1, ids2, idsX, AV.lt, ltL, AObj.lt, finE, sevalprocAttr, frzM_store, frzM_shelf, shelf_len, shelf_one, shelf_flat, shelf_lt, shelf_take, shelf_set0, store_len, store_one, store_flat, store_lt, store_left, store_setl, store_get, store_set, store_take, store_set0, s5_len, s5_one, s5_lt]
  refine loopF mixed (fun p : Nat × Store × List Told => mk [(1, .int .i64 kd), (2, .str name), (4, .ptr 0 0), (7, .ptr 1 0), (8, .ptr 2 0), (10, .row 4 p.1 0 p.1), (11, .int .i64 p.1)]
      [(0, .box p.2.1.av), (1, .box (s5 d)), (2, .box [.nils, .nils, .nils, .nils, .nils, .nils, .nils, .nils, .nils, .nils, .int .i64 0]), (4, .row 4 p.1 (p.2.2.map Told.rav))] 5)
    (fun p => p.1 ≤ 5 ∧ p.2.2.length = p.1 ∧ fiveR f (5 - p.1) p.1 p.2.1 p.2.2 = fiveS f s ∧ lok p.2.1 ∧ ∀ j, p.1 ≤ j → j < 5 → p.2.1.get j = s.get j)
    (fun p => 5 - p.1) (0, s, []) 400 rfl rfl ⟨by simp, rfl, rfl, hl, fun _ _ _ => rfl⟩ ?_ ?_
  · refine less_mk (by simp) (by simp) ?_ ?_ <;> simp (disch := first | omega | (simp only [ZL, store_len, shelf_len] <;> omega)) only [Z, Op.callOf, bslE, nilE, mslE, fadE, AV.cells, AV.isBot, AV.one, AV.flat, flatL, ids1, ids2, idsX, AV.lt, ltL, AObj.lt, finE, sevalprocAttr, frzM_store, frzM_shelf, shelf_len, shelf_one, shelf_flat, shelf_lt, shelf_take, shelf_set0, store_len, store_one, store_flat, store_lt, store_left, store_setl, store_get, store_set, store_take, store_set0, s5_len, s5_lt]
  rintro ⟨k, st, l⟩ ⟨hk, hll, hJ, hlo, hg⟩
  dsimp only at hk hll hJ hlo hg
  simp (disch := first | omega | (simp only [ZL, store_len, shelf_len] <;> omega)) only [Z, Op.callOf, bslE, nilE, mslE, fadE, AV.cells, AV.isBot, AV.one, AV.flat, flatL, ids1, ids2, idsX, AV.lt, ltL, AObj.lt, finE, sevalprocAttr, frzM_store, frzM_shelf, shelf_len, shelf_one, shelf_flat, shelf_lt, shelf_take, shelf_set0, store_len, store_one, store_flat, store_lt, store_left, store_setl, store_get, store_set, store_take, store_set0, s5_len]
  refine condG_p (fun e => ?_) (fun e => ?_)
  · have hk' : k < 5 := by omega
    have hgk := hg k (Nat.le_refl _) hk'
    simp (disch := first | omega | (simp only [ZL, store_len, shelf_len] <;> omega)) only [Z, Op.callOf, bslE, nilE, mslE, fadE, AV.cells, AV.isBot, AV.one, AV.flat, flatL, ids1, ids2, idsX, AV.lt, ltL, AObj.lt, finE, sevalprocAttr, frzM_store, frzM_shelf, shelf_len, shelf_one, shelf_flat, shelf_lt, shelf_take, shelf_set0, store_len, store_one, store_flat, store_lt, store_left, store_setl, store_get, store_set, store_take, store_set0, s5_len, Nat.mul_one, s5_get]
    refine callD_pure (hf st k hk' hlo hgk) (by simp [ltL, AV.lt, store_lt, shelf_lt]) ?_
    simp (disch := first | omega | (simp only [ZL, store_len, shelf_len] <;> omega)) only [Z, Op.callOf, bslE, nilE, mslE, fadE, AV.cells, AV.isBot, AV.one, AV.flat, flatL, ids1, ids2, idsX, AV.lt, ltL, AObj.lt, finE, sevalprocAttr, frzM_store, frzM_shelf, shelf_len, shelf_one, shelf_flat, shelf_lt, shelf_take, shelf_set0, store_len, store_one, store_flat, store_lt, store_left, store_setl, store_get, store_set, store_take, store_set0, Told.rav]
    refine okK_of (by kernel_rfl) ?_
    simp (disch := first | omega | (simp only [ZL, store_len, shelf_len] <;> omega)) only [Z, Op.callOf, bslE, nilE, mslE, fadE, AV.cells, AV.isBot, AV.one, AV.flat, flatL, ids1, ids2, idsX, AV.lt, ltL, AObj.lt, finE, sevalprocAttr, frzM_store, frzM_shelf, shelf_len, shelf_one, shelf_flat, shelf_lt, shelf_take, shelf_set0, store_len, store_one, store_flat, store_lt, store_left, store_setl, store_get, store_set, store_take, store_set0, Told.rav]
    obtain ⟨m, hm⟩ : ∃ m, 5 - k = m + 1 := ⟨4 - k, by omega⟩
    rw [hm, fiveR] at hJ
    have hm' : 5 - (k + 1) = m := by omega
    refine finR_of (k + 1, (callF f k st).1, l ++ [(callF f k st).2]) ⟨by dsimp only; omega, by simp; omega, by dsimp only; rw [hm']; exact hJ, lok_call _ _ _ hlo, fun j h1 h2 => ?_⟩ (by dsimp only; omega) ?_
    · dsimp only at h1 ⊢
      rw [call_get _ _ _ _ hk' h2 (by omega)]; exact hg j (by omega) h2
    · refine less_mk (by simp) (by simp) ?_ ?_ <;> simp (disch := first | omega | (simp only [ZL, store_len, shelf_len] <;> omega)) only [Z, Op.callOf, bslE, nilE, mslE, fadE, AV.cells, AV.isBot, AV.one, AV.flat, flatL, ids1, ids2, idsX, AV.lt, ltL, AObj.lt, finE, sevalprocAttr, frzM_store, frzM_shelf, shelf_len, shelf_one, shelf_flat, shelf_lt, shelf_take, shelf_set0, store_len, store_one, store_flat, store_lt, store_left, store_setl, store_get, store_set, store_take, store_set0, s5_lt, i64_add1, List.map_append, List.map_cons, List.map_nil, Told.rav]
  · have : k = 5 := by omega
    subst this
    simp (disch := first | omega | (simp only [ZL, store_len, shelf_len] <;> omega)) only [Z, Op.callOf, bslE, nilE, mslE, fadE, AV.cells, AV.isBot, AV.one, AV.flat, flatL, ids1, ids2, idsX, AV.lt, ltL, AObj.lt, finE, sevalprocAttr, frzM_store, frzM_shelf, shelf_len, shelf_one, shelf_flat, shelf_lt, shelf_take, shelf_set0, store_len, store_one, store_flat, store_lt, store_left, store_setl, store_get, store_set, store_take, store_set0]
    rw [← hJ]
    simp only [Nat.sub_self, fiveR]
    have : List.take 5 (List.map Told.rav l) = List.map Told.rav l := List.take_of_length_le (by simp; omega)
    rw [this]
    repeat' first | exact Sub.rfl' _ | exact sub_nils _ | exact SubL.nil | refine sub_tup ?_ | refine sub_agg ?_ | refine SubL.cons ?_ ?_

theorem rget5_c (s : Store) (name : List UInt8) (hl : lok s) (hs : Small s) :
    APure Tryz.prog 52 [.agg s.av, .int .i64 1, .str name, .agg (s5 fun _ => [])] (.tup [.agg (fiveS (getF name) s).1.av, .sl 4 ((fiveS (getF name) s).2.map Told.rav)]) :=
  rfive_c _ 1 s name (fun _ => []) hl fun st k hk hlo hg => rcall1_c st k hk name [] hlo (by rw [hg]; exact (hs k hk).1) (by rw [hg]; exact (hs k hk).2)

def cntNone (l : List Told) : Nat := l.countP fun t => decide (t.err = 9)
def lostS (l : List Told) : Int := if l.any Told.gone then 17 else if 3 ≤ cntNone l then 9 else 18
theorem lost_nogone : ∀ (l : List Told), l.any Told.gone = false → lostS l = (if 3 ≤ cntNone l then 9 else 18) := fun l h => by simp [lostS, h]
theorem rlost_c (l : List Told) (h1 : l.length < 2^40) : APure Tryz.prog 55 [.sl 4 (l.map Told.rav)] (.int .i64 (lostS l)) := by
  refine apure_fin mixed [] 400 Tryz.func55 Tryz.ntmps55 Tryz.results55 rfl rfl (by simp) rfl ?_
  simp (disch := first | omega | (simp only [ZL] <;> omega)) only [Z, Op.callOf, bslE, nilE, mslE, fadE, AV.cells, AV.isBot, AV.one, AV.flat, flatL, ids1, ids2, idsX, AV.lt, ltL, AObj.lt, finE, sevalprocAttr]
  refine loopF mixed (fun p : Nat × Nat => mk [(3, .int .i64 p.2), (6, .sl 4 (l.map Told.rav)), (7, .int .i64 l.length), (8, .int .i64 p.1)] [] 0)
    (fun p => p.1 ≤ l.length ∧ p.2 = cntNone (l.take p.1) ∧ p.2 ≤ p.1 ∧ (l.take p.1).any Told.gone = false) (fun p => l.length - p.1) (0, 0) 400 rfl rfl ⟨by simp, rfl, by simp, rfl⟩ ?_ ?_
  · refine less_mk (by simp) (by simp) ?_ ?_ <;> simp (disch := first | omega | (simp only [ZL] <;> omega)) only [Z, Op.callOf, bslE, nilE, mslE, fadE, AV.cells, AV.isBot, AV.one, AV.flat, flatL, ids1, ids2, idsX, AV.lt, ltL, AObj.lt, finE, sevalprocAttr]
  rintro ⟨k, c⟩ ⟨hk, hc, hle, hg⟩
  dsimp only at hk hc hle hg
  simp (disch := first | omega | (simp only [ZL] <;> omega)) only [Z, Op.callOf, bslE, nilE, mslE, fadE, AV.cells, AV.isBot, AV.one, AV.flat, flatL, ids1, ids2, idsX, AV.lt, ltL, AObj.lt, finE, sevalprocAttr]
  refine condG_p (fun e => ?_) (fun e => ?_)
  · have hk' : k < l.length := by omega
    have et : l.take (k + 1) = l.take k ++ [l[k]] := by simp
    simp (disch := first | omega | (simp only [ZL] <;> omega)) only [Z, Op.callOf, bslE, nilE, mslE, fadE, AV.cells, AV.isBot, AV.one, AV.flat, flatL, ids1, ids2, idsX, AV.lt, ltL, AObj.lt, finE, sevalprocAttr, Told.rav]
    cases eg : l[k].gone
    · by_cases e9 : l[k].err = 9
      · simp (disch := first | omega | (simp only [ZL] <;> omega)) only [Z, Op.callOf, bslE, nilE, mslE, fadE, AV.cells, AV.isBot, AV.one, AV.flat, flatL, ids1, ids2, idsX, AV.lt, ltL, AObj.lt, finE, sevalprocAttr, eg, e9]
        refine finR_of (k + 1, c + 1) ⟨by dsimp only; omega, ?_, by dsimp only; omega, ?_⟩ (by dsimp only; omega) ?_
        · dsimp only; rw [et, hc]; unfold cntNone; rw [List.countP_append]; simp [e9]
        · dsimp only; rw [et, List.any_append, hg]; simp [eg]
        · refine less_mk (by simp) (by simp) ?_ ?_ <;> simp (disch := first | omega | (simp only [ZL] <;> omega)) only [Z, Op.callOf, bslE, nilE, mslE, fadE, AV.cells, AV.isBot, AV.one, AV.flat, flatL, ids1, ids2, idsX, AV.lt, ltL, AObj.lt, finE, sevalprocAttr, i64_add1]
      · simp (disch := first | omega | (simp only [ZL] <;> omega)) only [Z, Op.callOf, bslE, nilE, mslE, fadE, AV.cells, AV.isBot, AV.one, AV.flat, flatL, ids1, ids2, idsX, AV.lt, ltL, AObj.lt, finE, sevalprocAttr, eg, e9]
        refine finR_of (k + 1, c) ⟨by dsimp only; omega, ?_, by dsimp only; omega, ?_⟩ (by dsimp only; omega) ?_
        · dsimp only; rw [et, hc]; unfold cntNone; rw [List.countP_append]; simp [e9]
        · dsimp only; rw [et, List.any_append, hg]; simp [eg]
        · refine less_mk (by simp) (by simp) ?_ ?_ <;> simp (disch := first | omega | (simp only [ZL] <;> omega)) only [Z, Op.callOf, bslE, nilE, mslE, fadE, AV.cells, AV.isBot, AV.one, AV.flat, flatL, ids1, ids2, idsX, AV.lt, ltL, AObj.lt, finE, sevalprocAttr, i64_add1]
    · simp (disch := first | omega | (simp only [ZL] <;> omega)) only [Z, Op.callOf, bslE, nilE, mslE, fadE, AV.cells, AV.isBot, AV.one, AV.flat, flatL, ids1, ids2, idsX, AV.lt, ltL, AObj.lt, finE, sevalprocAttr, eg]
      have : l.any Told.gone = true := List.any_eq_true.2 ⟨l[k], List.getElem_mem _, eg⟩
      simp only [lostS, this, if_true]
      repeat' first | exact Sub.rfl' _ | exact sub_nils _ | exact SubL.nil | refine sub_tup ?_ | refine sub_agg ?_ | refine SubL.cons ?_ ?_
  · have : k = l.length := by omega
    subst this
    rw [List.take_length] at hc hg
    have e2 := lost_nogone l hg
    by_cases e3 : (3 : Int) ≤ (c : Int)
    · simp (disch := first | omega | (simp only [ZL] <;> omega)) only [Z, Op.callOf, bslE, nilE, mslE, fadE, AV.cells, AV.isBot, AV.one, AV.flat, flatL, ids1, ids2, idsX, AV.lt, ltL, AObj.lt, finE, sevalprocAttr, e3]
      rw [e2, if_pos (by omega)]
      repeat' first | exact Sub.rfl' _ | exact sub_nils _ | exact SubL.nil | refine sub_tup ?_ | refine sub_agg ?_ | refine SubL.cons ?_ ?_
    · simp (disch := first | omega | (simp only [ZL] <;> omega)) only [Z, Op.callOf, bslE, nilE, mslE, fadE, AV.cells, AV.isBot, AV.one, AV.flat, flatL, ids1, ids2, idsX, AV.lt, ltL, AObj.lt, finE, sevalprocAttr, e3]
      rw [e2, if_neg (by omega)]
      repeat' first | exact Sub.rfl' _ | exact sub_nils _ | exact SubL.nil | refine sub_tup ?_ | refine sub_agg ?_ | refine SubL.cons ?_ ?_
end Go.Ab
namespace Go.Ab
open Go Go.Proofs Go.RowKit Go.ChangeShapes
variable {H : Type} {enc : TypeId × Value → H} {P : Program}
theorem add_lit2 (b off i j : Nat) : ((⟨b, off, none⟩ : Addr).add i).add j = ⟨b, off + i + j, none⟩ := by
  unfold Addr.add; split <;> split <;> simp_all
/-- a slice among the arguments, opened -/
theorem sl_open {W : World} {t e : TypeId} {sz : Nat} (ht : P.underlying t = some (.slice e)) (hsz : P.cellsOf e = sz) (τ : Type) (f : τ → List AV) (x0 : τ) (hf : ∀ x, (f x).length = sz)
    (hE : ∀ fuel es y, DataW.trod enc P W 0 (fun _ => true) true fuel e es = some y → es.length = sz → ∃ x : τ, ∀ j (h : j < (f x).length) (h' : j < es.length), RelA (f x)[j] es[j] ∧ es[j].oneCell' = true)
    {r : Reach} {base : Nat} {c : Value} (hok : Cell.okWide P W r base t c) {fuel : Nat} {x : DataW H × List MemPlace} (h : DataW.trod enc P W 0 (fun _ => true) true fuel t [c] = some x) :
    ∃ xs : List τ, Rel W (fun b => b < W.heap.size) pm0 (.sl sz (xs.map f)) c := by
  rcases DataW.trod_slice ht h with ⟨h1, _⟩ | ⟨a, len, cap, elems, rest, n, _, h1, _, hb, hl, hm, hlen, hel, _, _⟩
  · have : c = .slice none 0 0 := by simpa using h1
    subst this
    exact ⟨[], .slnil⟩
  have : c = .slice (some a) len cap := by simpa using h1
  subst this
  simp only [Cell.okWide, Cell.ok, ht] at hok
  obtain ⟨_, _, _, hsp, row, cells, hsh, _⟩ := hok
  obtain ⟨b, off, sp⟩ := a
  dsimp only at hsp
  subst hsp
  have hlt : b < W.heap.size := by
    unfold World.shape? at hsh
    rcases Nat.lt_or_ge b W.heap.size with h' | h'
    · exact h'
    · rw [Array.getElem?_eq_none h'] at hsh; cases hsh
  have key : ∀ i, ∃ x : τ, i < len → ∃ es : List Value, es.length = sz ∧ (∀ j, j < sz → W.cell? ⟨b, off + i * sz + j, none⟩ = es[j]?) ∧ ∀ j (h : j < (f x).length) (h' : j < es.length), RelA (f x)[j] es[j] ∧ es[j].oneCell' = true := by
    intro i
    by_cases hi : i < len
    · have h2 := hel i hi
      have h3 : i < elems.length := by omega
      rw [List.getElem?_eq_getElem h3, Option.bind_eq_some_iff] at h2
      obtain ⟨es, h4, h5⟩ := h2
      obtain ⟨_, h6, h7⟩ := World.cells?_some h4
      rw [hsz] at h6 h7
      obtain ⟨x, hx⟩ := hE _ _ _ h5 h6
      refine ⟨x, fun _ => ⟨es, h6, fun j hj => ?_, hx⟩⟩
      have := h7 j hj
      rwa [add_lit2] at this
    · exact ⟨x0, fun h => absurd h hi⟩
  obtain ⟨g, hg⟩ := Classical.axiomOfChoice key
  have hgl : ((List.range len).map g).length = len := by simp
  refine ⟨(List.range len).map g, ?_⟩
  have hxl : (((List.range len).map g).map f).length = len := by simp
  have hx : ∀ i (h : i < (((List.range len).map g).map f).length), (((List.range len).map g).map f)[i] = f (g i) := fun i h => by simp
  have := Rel.sl (w := W) (S := fun b => b < W.heap.size) (φ := pm0) (xs := ((List.range len).map g).map f) (b := b) (off := off) (sz := sz) (cap := cap)
    (fun i j => (W.cell? ⟨b, off + i * sz + j, none⟩).getD undef) hlt (by omega) (fun l hl => by
      rw [List.map_map, List.mem_map] at hl
      obtain ⟨i, _, rfl⟩ := hl
      exact hf _) (fun i j hi hj => by
      obtain ⟨es, e1, e2, _⟩ := hg i (by omega)
      rw [e2 j hj, List.getElem?_eq_getElem (by omega)]; rfl) (fun i j hi hj => by
      obtain ⟨es, e1, e2, e3⟩ := hg i (by omega)
      rw [e2 j hj, List.getElem?_eq_getElem (by omega)]
      exact (e3 j (by rw [hf]; exact hj) (by omega)).2) (fun i j hi hj => by
      obtain ⟨es, e1, e2, e3⟩ := hg i (by omega)
      have hj' : j < (f (g i)).length := by rw [hx] at hj; exact hj
      have hjs : j < sz := by rw [hf] at hj'; exact hj'
      rw [e2 j hjs, List.getElem?_eq_getElem (by omega)]
      have e4 : ((((List.range len).map g).map f)[i]'hi)[j]'hj = (f (g i))[j]'hj' := by congr 1; exact hx i hi
      rw [e4]
      exact (e3 j hj' (by omega)).1 W _ pm0)
  rw [hxl] at this
  exact this
/-- the arguments read behind the call as they did -/
theorem args_later (hl : laidOutB P = true) (hm : mapsRowed P = true) (hz : ∀ t e, t < P.types.size → P.underlying t = some (.slice e) → 0 < P.cellsOf e) {W W' : World} {ts : List TypeId} {vs : List Value} {ds : List (DataW H)} {ps : List MemPlace}
    (hts : ∀ t ∈ ts, t < P.types.size) (h : DataW.TrodAll enc P W 0 (fun _ => true) true ts vs ds ps) (hk : ∀ b, b < W.heap.size → W'.heap[b]? = W.heap[b]?) :
    DataW.TrodAll enc P W' 0 (fun b => decide (b < W.heap.size)) true ts vs ds ps := by
  have hlt := DataW.TrodAll.lt h
  have h1 := DataW.TrodAll.respare (spare' := fun b => decide (b < W.heap.size)) (kids_rows hl hm) hz hts h fun p hp => by simpa using hlt p hp
  clear h
  induction ts generalizing vs ds ps with
  | nil =>
    cases vs <;> cases ds <;> first | exact h1 | exact h1.elim
  | cons t ts ih =>
    cases vs with
    | nil => exact h1.elim
    | cons v vs =>
      cases ds with
      | nil => exact h1.elim
      | cons d ds =>
        obtain ⟨p, q, ⟨n, h2⟩, h3, e⟩ := h1
        refine ⟨p, q, ⟨n, DataW.trod_carry _ _ _ _ h2 fun x hx => ?_⟩, ih (fun t ht => hts t (by simp [ht])) (fun x hx => hlt x (by rw [e]; simp [hx])) h3, e⟩
        have := hk x.block (hlt x (by rw [e]; simp [hx]))
        cases x with
        | cell b o => exact World.cell?_of_block this
        | map b => exact this
end Go.Ab
namespace Go.Ab
open Go Go.Proofs
variable [Glob]
set_option maxHeartbeats 400000

/-! ### the field -/
def mulG : Nat → UInt8 → UInt8 → UInt8 → UInt8
  | 0, _, _, o => o
  | n + 1, a, b, o => mulG n ((a <<< UInt8.ofNat 1) ^^^ ((a >>> UInt8.ofNat 7) * UInt8.ofNat 29)) (b >>> UInt8.ofNat 1) (if ((b &&& UInt8.ofNat 1).toNat : Int) = 1 then o ^^^ a else o)
def gmul (a b : UInt8) : UInt8 := mulG 8 a b 0
theorem mul_c (a b : UInt8) : APure Tryz.prog 152 [.int .u8 a.toNat, .int .u8 b.toNat] (.int .u8 (gmul a b).toNat) := by
  refine apure_go mixed [] 400 Tryz.func152 Tryz.ntmps152 Tryz.results152 rfl rfl (by simp) rfl ?_
  simp only [STy, SAll, SB, Op.callOf, bslE, nilE, mslE, fadE, upd_ne, AV.cells, AV.isBot, AV.one, AV.flat, flatL, ids1, ids2, idsX, reduceCtorEq, reduceIte, Nat.reduceEqDiff, Nat.reduceAdd, Nat.reduceLeDiff, Nat.reduceMul, Nat.reduceLT, Nat.reduceBEq, Nat.reduceSub]
  refine loopF mixed (fun p : Nat × UInt8 × UInt8 × UInt8 => mk [(0, .int .u8 p.2.1.toNat), (1, .int .u8 p.2.2.1.toNat), (5, .int .u8 p.2.2.2.toNat), (7, .int .i64 p.1)] [] 0)
    (fun p => p.1 ≤ 8 ∧ mulG (8 - p.1) p.2.1 p.2.2.1 p.2.2.2 = gmul a b) (fun p => 8 - p.1) (0, a, b, 0) 400 rfl rfl ⟨by simp, rfl⟩ ?_ ?_
  · refine less_mk (by simp) (by simp) ?_ ?_ <;> simp only [STy, SAll, SB, Op.callOf, bslE, nilE, mslE, fadE, upd_ne, AV.cells, AV.isBot, AV.one, AV.flat, flatL, ids1, ids2, idsX, reduceCtorEq, reduceIte, Nat.reduceEqDiff, Nat.reduceAdd, Nat.reduceLeDiff, Nat.reduceMul, Nat.reduceLT, Nat.reduceBEq, Nat.reduceSub, SL, AV.lt] <;> exact ⟨rfl, rfl⟩
  rintro ⟨k, a, b, o⟩ ⟨hk, hJ⟩
  dsimp only at hk hJ
  simp only [STy, SAll, SB, Op.callOf, bslE, nilE, mslE, fadE, upd_ne, AV.cells, AV.isBot, AV.one, AV.flat, flatL, ids1, ids2, idsX, reduceCtorEq, reduceIte, Nat.reduceEqDiff, Nat.reduceAdd, Nat.reduceLeDiff, Nat.reduceMul, Nat.reduceLT, Nat.reduceBEq, Nat.reduceSub]
  refine condG_p (fun e => ?_) (fun e => ?_)
  · obtain ⟨m, hm⟩ : ∃ m, 8 - k = m + 1 := ⟨7 - k, by omega⟩
    rw [hm, mulG] at hJ
    simp only [STy, SAll, SB, Op.callOf, bslE, nilE, mslE, fadE, upd_ne, AV.cells, AV.isBot, AV.one, AV.flat, flatL, ids1, ids2, idsX, reduceCtorEq, reduceIte, Nat.reduceEqDiff, Nat.reduceAdd, Nat.reduceLeDiff, Nat.reduceMul, Nat.reduceLT, Nat.reduceBEq, Nat.reduceSub]
    refine condG_p (fun e2 => ?_) (fun e2 => ?_)
    all_goals simp only [e2, if_true, if_false] at hJ
    all_goals simp only [STy, SAll, SB, Op.callOf, bslE, nilE, mslE, fadE, upd_ne, AV.cells, AV.isBot, AV.one, AV.flat, flatL, ids1, ids2, idsX, reduceCtorEq, reduceIte, Nat.reduceEqDiff, Nat.reduceAdd, Nat.reduceLeDiff, Nat.reduceMul, Nat.reduceLT, Nat.reduceBEq, Nat.reduceSub]
    all_goals refine finR_of (k + 1, _, _, _) ⟨by dsimp only; omega, by dsimp only; rw [← hJ]; congr 1; omega⟩ (by dsimp only; omega) ?_
    all_goals refine less_mk (by simp) (by simp) ?_ ?_ <;> simp only [STy, SAll, SB, Op.callOf, bslE, nilE, mslE, fadE, upd_ne, AV.cells, AV.isBot, AV.one, AV.flat, flatL, ids1, ids2, idsX, reduceCtorEq, reduceIte, Nat.reduceEqDiff, Nat.reduceAdd, Nat.reduceLeDiff, Nat.reduceMul, Nat.reduceLT, Nat.reduceBEq, Nat.reduceSub, SL, AV.lt]
    all_goals exact i64e (by omega)
  · have : k = 8 := by omega
    subst this
    simp only [STy, SAll, SB, Op.callOf, bslE, nilE, mslE, fadE, upd_ne, AV.cells, AV.isBot, AV.one, AV.flat, flatL, ids1, ids2, idsX, reduceCtorEq, reduceIte, Nat.reduceEqDiff, Nat.reduceAdd, Nat.reduceLeDiff, Nat.reduceMul, Nat.reduceLT, Nat.reduceBEq, Nat.reduceSub]
    rw [← hJ]
    exact ⟨rfl, trivial⟩

def invG : Nat → UInt8 → UInt8 → UInt8
  | 0, _, o => o
  | n + 1, a, o => invG n (gmul a a) (gmul o (gmul a a))
def ginv (a : UInt8) : UInt8 := invG 7 a 1
theorem inv_c (a : UInt8) : APure Tryz.prog 153 [.int .u8 a.toNat] (.int .u8 (ginv a).toNat) := by
  refine apure_go mixed [] 400 Tryz.func153 Tryz.ntmps153 Tryz.results153 rfl rfl (by simp) rfl ?_
  simp only [STy, SAll, SB, Op.callOf, bslE, nilE, mslE, fadE, upd_ne, AV.cells, AV.isBot, AV.one, AV.flat, flatL, ids1, ids2, idsX, reduceCtorEq, reduceIte, Nat.reduceEqDiff, Nat.reduceAdd, Nat.reduceLeDiff, Nat.reduceMul, Nat.reduceLT, Nat.reduceBEq, Nat.reduceSub]
  refine loopF mixed (fun p : Nat × UInt8 × UInt8 => mk [(0, .int .u8 p.2.1.toNat), (3, .int .u8 p.2.2.toNat), (4, .int .i64 p.1)] [] 0)
    (fun p => p.1 ≤ 7 ∧ invG (7 - p.1) p.2.1 p.2.2 = ginv a) (fun p => 7 - p.1) (0, a, 1) 400 rfl rfl ⟨by simp, rfl⟩ ?_ ?_
  · refine less_mk (by simp) (by simp) ?_ ?_ <;> simp only [STy, SAll, SB, Op.callOf, bslE, nilE, mslE, fadE, upd_ne, AV.cells, AV.isBot, AV.one, AV.flat, flatL, ids1, ids2, idsX, reduceCtorEq, reduceIte, Nat.reduceEqDiff, Nat.reduceAdd, Nat.reduceLeDiff, Nat.reduceMul, Nat.reduceLT, Nat.reduceBEq, Nat.reduceSub, SL, AV.lt] <;> exact ⟨rfl, rfl⟩
  rintro ⟨k, a, o⟩ ⟨hk, hJ⟩
  dsimp only at hk hJ
  simp only [STy, SAll, SB, Op.callOf, bslE, nilE, mslE, fadE, upd_ne, AV.cells, AV.isBot, AV.one, AV.flat, flatL, ids1, ids2, idsX, reduceCtorEq, reduceIte, Nat.reduceEqDiff, Nat.reduceAdd, Nat.reduceLeDiff, Nat.reduceMul, Nat.reduceLT, Nat.reduceBEq, Nat.reduceSub]
  refine condG_p (fun e => ?_) (fun e => ?_)
  · obtain ⟨m, hm⟩ : ∃ m, 7 - k = m + 1 := ⟨6 - k, by omega⟩
    rw [hm, invG] at hJ
    simp only [STy, SAll, SB, Op.callOf, bslE, nilE, mslE, fadE, upd_ne, AV.cells, AV.isBot, AV.one, AV.flat, flatL, ids1, ids2, idsX, reduceCtorEq, reduceIte, Nat.reduceEqDiff, Nat.reduceAdd, Nat.reduceLeDiff, Nat.reduceMul, Nat.reduceLT, Nat.reduceBEq, Nat.reduceSub]
    refine callL_pure (mul_c _ _) (by simp [ltL, AV.lt]) rfl ?_
    simp only [STy, SAll, SB, Op.callOf, bslE, nilE, mslE, fadE, upd_ne, AV.cells, AV.isBot, AV.one, AV.flat, flatL, ids1, ids2, idsX, reduceCtorEq, reduceIte, Nat.reduceEqDiff, Nat.reduceAdd, Nat.reduceLeDiff, Nat.reduceMul, Nat.reduceLT, Nat.reduceBEq, Nat.reduceSub]
    refine callL_pure (mul_c _ _) (by simp [ltL, AV.lt]) rfl ?_
    simp only [STy, SAll, SB, Op.callOf, bslE, nilE, mslE, fadE, upd_ne, AV.cells, AV.isBot, AV.one, AV.flat, flatL, ids1, ids2, idsX, reduceCtorEq, reduceIte, Nat.reduceEqDiff, Nat.reduceAdd, Nat.reduceLeDiff, Nat.reduceMul, Nat.reduceLT, Nat.reduceBEq, Nat.reduceSub]
    refine finR_of (k + 1, _, _) ⟨by dsimp only; omega, by dsimp only; rw [← hJ]; congr 1; omega⟩ (by dsimp only; omega) ?_
    refine less_mk (by simp) (by simp) ?_ ?_ <;> simp only [STy, SAll, SB, Op.callOf, bslE, nilE, mslE, fadE, upd_ne, AV.cells, AV.isBot, AV.one, AV.flat, flatL, ids1, ids2, idsX, reduceCtorEq, reduceIte, Nat.reduceEqDiff, Nat.reduceAdd, Nat.reduceLeDiff, Nat.reduceMul, Nat.reduceLT, Nat.reduceBEq, Nat.reduceSub, SL, AV.lt]
    exact i64e (by omega)
  · have : k = 7 := by omega
    subst this
    simp only [STy, SAll, SB, Op.callOf, bslE, nilE, mslE, fadE, upd_ne, AV.cells, AV.isBot, AV.one, AV.flat, flatL, ids1, ids2, idsX, reduceCtorEq, reduceIte, Nat.reduceEqDiff, Nat.reduceAdd, Nat.reduceLeDiff, Nat.reduceMul, Nat.reduceLT, Nat.reduceBEq, Nat.reduceSub]
    rw [← hJ]
    exact ⟨rfl, trivial⟩

end Go.Ab
namespace Go.Ab
open Go Go.Proofs
theorem u8_allF {p : UInt8 → Prop} (h : ∀ n : Fin 256, p (UInt8.ofNat n.val)) (x : UInt8) : p x := by
  have := h ⟨x.toNat, x.toNat_lt⟩
  simpa using this
theorem bv_axd {n : Nat} (x y z : BitVec n) : (x ^^^ y) &&& z = (x &&& z) ^^^ (y &&& z) := by
  apply BitVec.eq_of_getLsbD_eq
  intro i _
  simp only [BitVec.getLsbD_and, BitVec.getLsbD_xor]
  cases x.getLsbD i <;> cases y.getLsbD i <;> cases z.getLsbD i <;> rfl
theorem axd8 (x y z : UInt8) : (x ^^^ y) &&& z = (x &&& z) ^^^ (y &&& z) := UInt8.toBitVec_inj.1 (bv_axd _ _ _)
theorem axd16 (x y z : UInt16) : (x ^^^ y) &&& z = (x &&& z) ^^^ (y &&& z) := UInt16.toBitVec_inj.1 (bv_axd _ _ _)
theorem bit8 (b : UInt8) : b &&& 1 = 0 ∨ b &&& 1 = 1 := u8_allF (p := fun b => b &&& 1 = 0 ∨ b &&& 1 = 1) (by decide +kernel) b
def xA (a b : UInt8) : Nat → UInt16
  | 0 => 0
  | i + 1 => if (b >>> UInt8.ofNat i) &&& 1 = 1 then xA a b i ^^^ (a.toUInt16 <<< UInt16.ofNat i) else xA a b i
def yB (x : UInt16) : Nat → UInt16
  | 0 => x
  | j + 1 => if (yB x j >>> UInt16.ofNat (14 - j)) &&& 1 = 1 then yB x j ^^^ (285 <<< UInt16.ofNat (6 - j)) else yB x j
def rmul (a b : UInt8) : UInt8 := (yB (xA a b 8) 7).toUInt8
theorem bit16 (b : UInt16) : b &&& 1 = 0 ∨ b &&& 1 = 1 := by
  have h : (b &&& 1).toNat = b.toNat % 2 := by simp [Nat.and_one_is_mod]
  rcases Nat.mod_two_eq_zero_or_one b.toNat with e | e
  · left; apply UInt16.toNat_inj.1; rw [h, e]; rfl
  · right; apply UInt16.toNat_inj.1; rw [h, e]; rfl
theorem xA_lin (a b c : UInt8) : ∀ i, xA a (b ^^^ c) i = xA a b i ^^^ xA a c i
  | 0 => by simp [xA]
  | i + 1 => by
    have e : ((b ^^^ c) >>> UInt8.ofNat i) &&& 1 = ((b >>> UInt8.ofNat i) &&& 1) ^^^ ((c >>> UInt8.ofNat i) &&& 1) := by
      rw [UInt8.shiftRight_xor, axd8]
    rw [xA, xA, xA, e, xA_lin a b c i]
    generalize xA a b i = X
    generalize xA a c i = Y
    generalize a.toUInt16 <<< UInt16.ofNat i = Z
    rcases bit8 (b >>> UInt8.ofNat i) with h1 | h1 <;> rcases bit8 (c >>> UInt8.ofNat i) with h2 | h2 <;> rw [h1, h2]
    · simp
    · simp [UInt16.xor_assoc]
    · simp only [show (1 : UInt8) ^^^ 0 = 1 by decide, if_true, show ¬ (0 : UInt8) = 1 by decide, if_false]
      rw [UInt16.xor_assoc, UInt16.xor_comm Y Z, ← UInt16.xor_assoc]
    · simp only [show (1 : UInt8) ^^^ 1 = 0 by decide, show ¬ (0 : UInt8) = 1 by decide, if_false, if_true]
      rw [UInt16.xor_assoc, ← UInt16.xor_assoc Z, UInt16.xor_comm Z Y, UInt16.xor_assoc Y, UInt16.xor_self, UInt16.xor_zero]
theorem yB_lin (x y : UInt16) : ∀ j, yB (x ^^^ y) j = yB x j ^^^ yB y j
  | 0 => rfl
  | j + 1 => by
    rw [yB, yB, yB, yB_lin x y j]
    generalize yB x j = X
    generalize yB y j = Y
    have e : ((X ^^^ Y) >>> UInt16.ofNat (14 - j)) &&& 1 = ((X >>> UInt16.ofNat (14 - j)) &&& 1) ^^^ ((Y >>> UInt16.ofNat (14 - j)) &&& 1) := by
      rw [UInt16.shiftRight_xor, axd16]
    rw [e]
    generalize (285 : UInt16) <<< UInt16.ofNat (6 - j) = Z
    rcases bit16 (X >>> UInt16.ofNat (14 - j)) with h1 | h1 <;> rcases bit16 (Y >>> UInt16.ofNat (14 - j)) with h2 | h2 <;> rw [h1, h2]
    · simp
    · simp [UInt16.xor_assoc]
    · simp only [show (1 : UInt16) ^^^ 0 = 1 by decide, if_true, show ¬ (0 : UInt16) = 1 by decide, if_false]
      rw [UInt16.xor_assoc, UInt16.xor_comm Y Z, ← UInt16.xor_assoc]
    · simp only [show (1 : UInt16) ^^^ 1 = 0 by decide, show ¬ (0 : UInt16) = 1 by decide, if_false, if_true]
      rw [UInt16.xor_assoc, ← UInt16.xor_assoc Z, UInt16.xor_comm Z Y, UInt16.xor_assoc Y, UInt16.xor_self, UInt16.xor_zero]
theorem rmul_lin (a b c : UInt8) : rmul a (b ^^^ c) = rmul a b ^^^ rmul a c := by
  unfold rmul; rw [xA_lin, yB_lin]; simp
theorem bit8t (b : UInt8) : ((b &&& UInt8.ofNat 1).toNat : Int) = 1 ↔ b &&& 1 = 1 := u8_allF (p := fun b => ((b &&& UInt8.ofNat 1).toNat : Int) = 1 ↔ b &&& 1 = 1) (by decide +kernel) b
theorem mulG_lin : ∀ (n : Nat) (a b c o p : UInt8), mulG n a (b ^^^ c) (o ^^^ p) = mulG n a b o ^^^ mulG n a c p
  | 0, _, _, _, _, _ => rfl
  | n + 1, a, b, c, o, p => by
    have e : (b ^^^ c) &&& 1 = (b &&& 1) ^^^ (c &&& 1) := axd8 _ _ _
    have e2 : (b ^^^ c) >>> UInt8.ofNat 1 = b >>> UInt8.ofNat 1 ^^^ c >>> UInt8.ofNat 1 := UInt8.shiftRight_xor
    rw [mulG, mulG, mulG, e2]
    simp only [bit8t, e]
    rcases bit8 b with h1 | h1 <;> rcases bit8 c with h2 | h2 <;> rw [h1, h2]
    · simp only [show (0 : UInt8) ^^^ 0 = 0 by decide, show ¬ (0 : UInt8) = 1 by decide, if_false]; exact mulG_lin n _ _ _ _ _
    · simp only [show (0 : UInt8) ^^^ 1 = 1 by decide, show ¬ (0 : UInt8) = 1 by decide, if_false, if_true]; rw [UInt8.xor_assoc]; exact mulG_lin n _ _ _ _ _
    · simp only [show (1 : UInt8) ^^^ 0 = 1 by decide, show ¬ (0 : UInt8) = 1 by decide, if_false, if_true]; rw [UInt8.xor_assoc, UInt8.xor_comm p a, ← UInt8.xor_assoc]; exact mulG_lin n _ _ _ _ _
    · simp only [show (1 : UInt8) ^^^ 1 = 0 by decide, show ¬ (0 : UInt8) = 1 by decide, if_false, if_true]
      have : o ^^^ p = (o ^^^ a) ^^^ (p ^^^ a) := by
        rw [UInt8.xor_assoc, ← UInt8.xor_assoc a, UInt8.xor_comm a p, UInt8.xor_assoc p, UInt8.xor_self, UInt8.xor_zero]
      rw [this]; exact mulG_lin n _ _ _ _ _
theorem gmul_lin (a b c : UInt8) : gmul a (b ^^^ c) = gmul a b ^^^ gmul a c := mulG_lin 8 a b c 0 0
/-- two sums-keeping functions that agree on eight bytes -/
theorem lin_ext {f g : UInt8 → UInt8} (hf : ∀ b c, f (b ^^^ c) = f b ^^^ f c) (hg : ∀ b c, g (b ^^^ c) = g b ^^^ g c) (h : ∀ i : Fin 8, f (1 <<< UInt8.ofNat i.val) = g (1 <<< UInt8.ofNat i.val)) (b : UInt8) : f b = g b := by
  have f0 : f 0 = 0 := by have := hf 0 0; rw [UInt8.xor_self, UInt8.xor_self] at this; exact this
  have g0 : g 0 = 0 := by have := hg 0 0; rw [UInt8.xor_self, UInt8.xor_self] at this; exact this
  have key : ∀ i : Fin 8, ∀ q : Bool, f (if q then 1 <<< UInt8.ofNat i.val else 0) = g (if q then 1 <<< UInt8.ofNat i.val else 0) := fun i q => by
    cases q
    · simp [f0, g0]
    · simp only [if_true]; exact h i
  have hb : ∃ q : Fin 8 → Bool, b = (if q 0 then 1 <<< UInt8.ofNat 0 else 0) ^^^ ((if q 1 then 1 <<< UInt8.ofNat 1 else 0) ^^^ ((if q 2 then 1 <<< UInt8.ofNat 2 else 0) ^^^ ((if q 3 then 1 <<< UInt8.ofNat 3 else 0) ^^^
      ((if q 4 then 1 <<< UInt8.ofNat 4 else 0) ^^^ ((if q 5 then 1 <<< UInt8.ofNat 5 else 0) ^^^ ((if q 6 then 1 <<< UInt8.ofNat 6 else 0) ^^^ (if q 7 then 1 <<< UInt8.ofNat 7 else 0))))))) :=
    ⟨fun i => decide ((b >>> UInt8.ofNat i.val) &&& 1 = 1), u8_allF (p := fun b => b = (if decide ((b >>> UInt8.ofNat 0) &&& 1 = 1) then 1 <<< UInt8.ofNat 0 else 0) ^^^ ((if decide ((b >>> UInt8.ofNat 1) &&& 1 = 1) then 1 <<< UInt8.ofNat 1 else 0) ^^^
      ((if decide ((b >>> UInt8.ofNat 2) &&& 1 = 1) then 1 <<< UInt8.ofNat 2 else 0) ^^^ ((if decide ((b >>> UInt8.ofNat 3) &&& 1 = 1) then 1 <<< UInt8.ofNat 3 else 0) ^^^ ((if decide ((b >>> UInt8.ofNat 4) &&& 1 = 1) then 1 <<< UInt8.ofNat 4 else 0) ^^^
      ((if decide ((b >>> UInt8.ofNat 5) &&& 1 = 1) then 1 <<< UInt8.ofNat 5 else 0) ^^^ ((if decide ((b >>> UInt8.ofNat 6) &&& 1 = 1) then 1 <<< UInt8.ofNat 6 else 0) ^^^ (if decide ((b >>> UInt8.ofNat 7) &&& 1 = 1) then 1 <<< UInt8.ofNat 7 else 0)))))))) (by decide +kernel) b⟩
  obtain ⟨q, hq⟩ := hb
  rw [hq]
  simp only [hf, hg]
  have k0 := key 0 (q 0); have k1 := key 1 (q 1); have k2 := key 2 (q 2); have k3 := key 3 (q 3)
  have k4 := key 4 (q 4); have k5 := key 5 (q 5); have k6 := key 6 (q 6); have k7 := key 7 (q 7)
  simp only [Fin.val_zero, Fin.val_one, Fin.val_two] at k0 k1 k2
  rw [k0, k1, k2]
  exact congrArg _ (congrArg _ (congrArg _ (by
    show f (if q 3 then 1 <<< UInt8.ofNat 3 else 0) ^^^ _ = _
    rw [show f (if q 3 then 1 <<< UInt8.ofNat 3 else 0) = _ from k3, show f (if q 4 then 1 <<< UInt8.ofNat 4 else 0) = _ from k4, show f (if q 5 then 1 <<< UInt8.ofNat 5 else 0) = _ from k5, show f (if q 6 then 1 <<< UInt8.ofNat 6 else 0) = _ from k6, show f (if q 7 then 1 <<< UInt8.ofNat 7 else 0) = _ from k7]
    rfl)))
theorem rmul_eq (a b : UInt8) : rmul a b = gmul a b :=
  lin_ext (f := rmul a) (g := gmul a) (rmul_lin a) (gmul_lin a) (fun i => u8_allF (p := fun a => ∀ i : Fin 8, rmul a (1 <<< UInt8.ofNat i.val) = gmul a (1 <<< UInt8.ofNat i.val)) (by decide +kernel) a i) b
def invL : List UInt8 := [0, 1, 142, 244, 71, 167, 122, 186, 173, 157, 221, 152, 61, 170, 93, 150, 216, 114, 192, 88, 224, 62, 76, 102, 144, 222, 85, 128, 160, 131, 75, 42, 108, 237, 57, 81, 96, 86, 44, 138, 112, 208, 31, 74, 38, 139, 51, 110, 72, 137, 111, 46, 164, 195, 64, 94, 80, 34, 207, 169, 171, 12, 21, 225, 54, 95, 248, 213, 146, 78, 166, 4, 48, 136, 43, 30, 22, 103, 69, 147, 56, 35, 104, 140, 129, 26, 37, 97, 19, 193, 203, 99, 151, 14, 55, 65, 36, 87, 202, 91, 185, 196, 23, 77, 82, 141, 239, 179, 32, 236, 47, 50, 40, 209, 17, 217, 233, 251, 218, 121, 219, 119, 6, 187, 132, 205, 254, 252, 27, 84, 161, 29, 124, 204, 228, 176, 73, 49, 39, 45, 83, 105, 2, 245, 24, 223, 68, 79, 155, 188, 15, 92, 11, 220, 189, 148, 172, 9, 199, 162, 28, 130, 159, 198, 52, 194, 70, 5, 206, 59, 13, 60, 156, 8, 190, 183, 135, 229, 238, 107, 235, 242, 191, 175, 197, 100, 7, 123, 149, 154, 174, 182, 18, 89, 165, 53, 101, 184, 163, 158, 210, 247, 98, 90, 133, 125, 168, 58, 41, 113, 200, 246, 249, 67, 215, 214, 16, 115, 118, 120, 153, 10, 25, 145, 20, 63, 230, 240, 134, 177, 226, 241, 250, 116, 243, 180, 109, 33, 178, 106, 227, 231, 181, 234, 3, 143, 211, 201, 66, 212, 232, 117, 127, 255, 126, 253]
theorem inv_tab (a : UInt8) : ginv a = invL.getD a.toNat 0 := u8_allF (p := fun a => ginv a = invL.getD a.toNat 0) (by decide +kernel) a
theorem inv_ok (a : UInt8) : a = 0 ∨ gmul a (invL.getD a.toNat 0) = 1 := u8_allF (p := fun a => a = 0 ∨ gmul a (invL.getD a.toNat 0) = 1) (by decide +kernel) a
theorem inv_left (a b : UInt8) (ha : a ≠ 0) : gmul (ginv a) (gmul a b) = b := by
  rw [inv_tab]
  refine lin_ext (f := fun b => gmul (invL.getD a.toNat 0) (gmul a b)) (g := fun b => b) (fun b c => by rw [gmul_lin, gmul_lin]) (fun _ _ => rfl) (fun i => ?_) b
  have := u8_allF (p := fun a => a = 0 ∨ ∀ i : Fin 8, gmul (invL.getD a.toNat 0) (gmul a (1 <<< UInt8.ofNat i.val)) = 1 <<< UInt8.ofNat i.val) (by decide +kernel) a
  rcases this with h | h
  · exact absurd h ha
  · exact h i
theorem gmul_0 (b : UInt8) : gmul 0 b = 0 := u8_allF (p := fun b => gmul 0 b = 0) (by decide +kernel) b
theorem gmul_one_r (a : UInt8) : gmul a 1 = a := u8_allF (p := fun a => gmul a 1 = a) (by decide +kernel) a
theorem inv_uniq (a b : UInt8) (h : gmul a b = 1) : b = ginv a := by
  by_cases ha : a = 0
  · subst ha; rw [gmul_0] at h; cases h
  · have := inv_left a b ha
    rw [h, gmul_one_r] at this
    exact this.symm
theorem inv_has (a : UInt8) (ha : a ≠ 0) : gmul a (ginv a) = 1 := by
  rw [inv_tab]; exact (inv_ok a).resolve_left ha
theorem inv_zero : ginv 0 = 0 := by decide +kernel
end Go.Ab
