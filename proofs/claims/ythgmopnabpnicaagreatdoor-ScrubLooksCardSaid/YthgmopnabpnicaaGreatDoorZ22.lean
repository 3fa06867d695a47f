import Derived.Test.YthgmopnabpnicaaGreatDoorZ15
import Derived.Test.YthgmopnabpnicaaGreatDoorZ16
import Derived.Test.YthgmopnabpnicaaGreatDoorZ19
import Derived.Test.YthgmopnabpnicaaGreatDoorZ21
set_option linter.all false
namespace Go.Ab
open Go Go.Proofs
theorem getDlt {α : Type} (l : List α) (k : Nat) (d : α) (h : k < l.length) : l.getD k d = l[k] := by simp [List.getD, h]
def numV (l : List UInt8) : Nat := l.foldl (fun a b => a * 10 + (b.toNat - 48)) 0
theorem fold_ge (l : List UInt8) : ∀ a : Nat, a ≤ l.foldl (fun a b => a * 10 + (b.toNat - 48)) a := by
  induction l with
  | nil => intro a; exact Nat.le_refl _
  | cons x l ih => intro a; exact Nat.le_trans (by omega) (ih (a * 10 + (x.toNat - 48)))
theorem numV_take (l : List UInt8) (k : Nat) : numV (l.take k) ≤ numV l := by
  have e : numV l = (l.drop k).foldl (fun a b => a * 10 + (b.toNat - 48)) (numV (l.take k)) := by
    unfold numV
    rw [← List.foldl_append, List.take_append_drop]
  rw [e]; exact fold_ge _ _
theorem numV_step (l : List UInt8) (k : Nat) (h : k < l.length) : numV (l.take (k + 1)) = numV (l.take k) * 10 + ((l.getD k 0).toNat - 48) := by
  have e : l.take (k + 1) = l.take k ++ [l.getD k 0] := by rw [getDlt l k 0 h]; simp
  rw [e]; unfold numV; rw [List.foldl_append]; rfl
theorem digB_dig (n : Nat) : ∀ b ∈ digB n, 48 ≤ b.toNat ∧ b.toNat ≤ 57 := by
  induction n using Nat.strongRecOn with
  | ind n ih =>
    intro b hb
    rw [digB] at hb
    split at hb
    · simp only [List.mem_singleton] at hb; subst hb; simp; omega
    · rcases List.mem_append.1 hb with hb | hb
      · exact ih (n / 10) (by omega) b hb
      · simp only [List.mem_singleton] at hb; subst hb; simp; omega
theorem digB_val (n : Nat) : numV (digB n) = n := by
  induction n using Nat.strongRecOn with
  | ind n ih =>
    rw [digB]
    split
    · simp [numV]; omega
    · have := ih (n / 10) (by omega)
      unfold numV at this ⊢
      rw [List.foldl_append, this]
      simp; omega
theorem digB_ne (n : Nat) : digB n ≠ [] := by
  rw [digB]; split <;> simp
theorem decB_inj {n m : Int} (h : decB n = decB m) : n = m := by
  unfold decB at h
  have key : ∀ a b : Nat, 45 :: digB a ≠ digB b := fun a b e => by
    have : (45 : UInt8) ∈ digB b := by rw [← e]; simp
    have := (digB_dig b 45 this).1
    simp at this
  have inj : ∀ a b : Nat, digB a = digB b → a = b := fun a b e => by rw [← digB_val a, ← digB_val b, e]
  split at h <;> split at h
  · have := inj _ _ (List.cons.inj h).2; omega
  · exact absurd h (key _ _)
  · exact absurd h.symm (key _ _)
  · have := inj _ _ h; omega
open Classical in
noncomputable def intS (s : List UInt8) : Option Int := if h : ∃ n, i64ok n ∧ decB n = s then some (Classical.choose h) else none
theorem intS_dec {n : Int} (h : i64ok n) : intS (decB n) = some n := by
  have hx : ∃ m, i64ok m ∧ decB m = decB n := ⟨n, h, rfl⟩
  unfold intS
  rw [dif_pos hx]
  exact congrArg some (decB_inj (Classical.choose_spec hx).2)
theorem intS_none {s : List UInt8} (h : ¬ ∃ n, i64ok n ∧ decB n = s) : intS s = none := by
  unfold intS; rw [dif_neg h]
theorem intS_some {s : List UInt8} {n : Int} (h : intS s = some n) : i64ok n ∧ decB n = s := by
  unfold intS at h
  split at h
  · rename_i hx
    cases h
    exact Classical.choose_spec hx
  · cases h
def pref (m : Int) (i : Nat) : Int := if m < 0 then -(numV ((digB m.natAbs).take (i - 1)) : Int) else numV ((digB m.natAbs).take i)
theorem wrapw_sub (a d : Int) : IntKind.i64.wrap (IntKind.i64.wrap a - d) = IntKind.i64.wrap (a - d) := by simp only [IntKind.wrap_i64]; omega
theorem wrapw_add (a d : Int) : IntKind.i64.wrap (IntKind.i64.wrap a + d) = IntKind.i64.wrap (a + d) := by simp only [IntKind.wrap_i64]; omega
theorem wrap_ok (a : Int) : i64ok (IntKind.i64.wrap a) := by unfold i64ok; rw [IntKind.wrap_i64]; omega
theorem pref_ok (m : Int) (hm : i64ok m) (i : Nat) : i64ok (pref m i) := by
  have h1 := numV_take (digB m.natAbs) (i - 1)
  have h2 := numV_take (digB m.natAbs) i
  rw [digB_val] at h1 h2
  unfold i64ok pref at *
  split <;> omega
theorem pref_len (m : Int) : pref m (decB m).length = m := by
  unfold pref decB
  split
  · rename_i h
    rw [List.length_cons, Nat.add_sub_cancel, List.take_length, digB_val]; omega
  · rw [List.take_length, digB_val]; omega
/-- what stands at a place of a number's text -/
theorem decB_at (m : Int) (i : Nat) (h : i < (decB m).length) :
    (i = 0 ∧ m < 0 ∧ (decB m).getD 0 0 = 45 ∧ pref m 1 = pref m 0) ∨
    (48 ≤ ((decB m).getD i 0).toNat ∧ ((decB m).getD i 0).toNat ≤ 57 ∧ ((m < 0) = ((decB m).getD 0 0 = 45)) ∧
      pref m (i + 1) = (if m < 0 then pref m i * 10 - ((((decB m).getD i 0).toNat - 48 : Nat) : Int) else pref m i * 10 + ((((decB m).getD i 0).toNat - 48 : Nat) : Int))) := by
  by_cases hm : m < 0
  · have hd : decB m = 45 :: digB m.natAbs := by unfold decB; rw [if_pos hm]
    cases i with
    | zero => left; refine ⟨rfl, hm, by rw [hd]; rfl, by simp [pref, hm]⟩
    | succ i =>
      right
      rw [hd] at h ⊢
      have hi : i < (digB m.natAbs).length := by simpa using h
      have hg : (45 :: digB m.natAbs).getD (i + 1) 0 = (digB m.natAbs).getD i 0 := by simp [List.getD]
      rw [hg]
      have hdig := digB_dig m.natAbs ((digB m.natAbs).getD i 0) (by rw [getDlt _ _ _ hi]; exact List.getElem_mem _)
      refine ⟨hdig.1, hdig.2, propext ⟨fun _ => rfl, fun _ => hm⟩, ?_⟩
      rw [if_pos hm]
      simp only [pref, hm, if_true, Nat.add_sub_cancel]
      rw [numV_step _ _ hi]; omega
  · have hd : decB m = digB m.natAbs := by unfold decB; rw [if_neg hm]
    right
    rw [hd] at h ⊢
    have hdig := digB_dig m.natAbs ((digB m.natAbs).getD i 0) (by rw [getDlt _ _ _ h]; exact List.getElem_mem _)
    have h0 : 0 < (digB m.natAbs).length := List.length_pos_iff.2 (digB_ne _)
    have hdig0 := digB_dig m.natAbs ((digB m.natAbs).getD 0 0) (by rw [getDlt _ _ _ h0]; exact List.getElem_mem _)
    refine ⟨hdig.1, hdig.2, propext ⟨fun h => absurd h hm, fun h => ?_⟩, ?_⟩
    · rw [h] at hdig0; simp at hdig0
    · rw [if_neg hm]
      simp only [pref, hm, if_false]
      rw [numV_step _ _ h]; omega
variable [Glob] [LibC]
set_option maxHeartbeats 1000000

theorem dec_c (n : Int) (h : i64ok n) : APure Tryz.prog 41 [.int .i64 n] (.str (decB n)) := by
  refine apure_fin mixed [] 400 Tryz.func41 Tryz.ntmps41 Tryz.results41 rfl rfl (by simp) rfl ?_
  simp (disch := first | omega | (simp only [ZL] <;> omega)) only [Z, Op.callOf, bslE, nilE, mslE, fadE, AV.cells, AV.isBot, AV.one, AV.flat, flatL, ids1, ids2, idsX, AV.lt, ltL, AObj.lt, finE, reduceCtorEq, reduceIte, Nat.reduceEqDiff, Nat.reduceAdd, Nat.reduceLeDiff, Nat.reduceMul, Nat.reduceLT, Nat.reduceBEq, Nat.reduceSub, Int.reduceToNat, Int.reduceLT, Int.reduceLE, Int.reduceAdd, Int.reduceSub, Int.reduceMul, Int.reduceGT, Int.reduceGE, Int.reduceEq, Int.reduceNe, Int.reduceNeg]
  refine callL_pure (LibC.dec n h) (by simp [ltL, AV.lt]) rfl ?_
  simp (disch := first | omega | (simp only [ZL] <;> omega)) only [Z, Op.callOf, bslE, nilE, mslE, fadE, AV.cells, AV.isBot, AV.one, AV.flat, flatL, ids1, ids2, idsX, AV.lt, ltL, AObj.lt, finE, reduceCtorEq, reduceIte, Nat.reduceEqDiff, Nat.reduceAdd, Nat.reduceLeDiff, Nat.reduceMul, Nat.reduceLT, Nat.reduceBEq, Nat.reduceSub, Int.reduceToNat, Int.reduceLT, Int.reduceLE, Int.reduceAdd, Int.reduceSub, Int.reduceMul, Int.reduceGT, Int.reduceGE, Int.reduceEq, Int.reduceNe, Int.reduceNeg]
  repeat' first | exact Sub.rfl' _ | exact sub_nils _ | exact SubL.nil | refine sub_tup ?_ | refine sub_agg ?_ | refine SubL.cons ?_ ?_
theorem int_c (s : List UInt8) (hs : s.length < 2^40) : APure Tryz.prog 101 [.str s] (.tup [.int .i64 ((intS s).getD 0), .bool (intS s).isSome]) := by
  by_cases hx : ∃ n, i64ok n ∧ decB n = s
  · obtain ⟨n, hn, rfl⟩ := hx
    rw [intS_dec hn]
    refine apure_fin mixed [] 400 Tryz.func101 Tryz.ntmps101 Tryz.results101 rfl rfl (by simp) rfl ?_
    simp (disch := first | omega | (simp only [ZL] <;> omega)) only [Z, Op.callOf, bslE, nilE, mslE, fadE, AV.cells, AV.isBot, AV.one, AV.flat, flatL, ids1, ids2, idsX, AV.lt, ltL, AObj.lt, finE, reduceCtorEq, reduceIte, Nat.reduceEqDiff, Nat.reduceAdd, Nat.reduceLeDiff, Nat.reduceMul, Nat.reduceLT, Nat.reduceBEq, Nat.reduceSub, Int.reduceToNat, Int.reduceLT, Int.reduceLE, Int.reduceAdd, Int.reduceSub, Int.reduceMul, Int.reduceGT, Int.reduceGE, Int.reduceEq, Int.reduceNe, Int.reduceNeg]
    refine callL_pure (LibC.pint n hn) (by simp [ltL, AV.lt]) rfl ?_
    simp (disch := first | omega | (simp only [ZL] <;> omega)) only [Z, Op.callOf, bslE, nilE, mslE, fadE, AV.cells, AV.isBot, AV.one, AV.flat, flatL, ids1, ids2, idsX, AV.lt, ltL, AObj.lt, finE, reduceCtorEq, reduceIte, Nat.reduceEqDiff, Nat.reduceAdd, Nat.reduceLeDiff, Nat.reduceMul, Nat.reduceLT, Nat.reduceBEq, Nat.reduceSub, Int.reduceToNat, Int.reduceLT, Int.reduceLE, Int.reduceAdd, Int.reduceSub, Int.reduceMul, Int.reduceGT, Int.reduceGE, Int.reduceEq, Int.reduceNe, Int.reduceNeg]
    refine callL_pure (dec_c n hn) (by simp [ltL, AV.lt]) rfl ?_
    simp (disch := first | omega | (simp only [ZL] <;> omega)) only [Z, Op.callOf, bslE, nilE, mslE, fadE, AV.cells, AV.isBot, AV.one, AV.flat, flatL, ids1, ids2, idsX, AV.lt, ltL, AObj.lt, finE, reduceCtorEq, reduceIte, Nat.reduceEqDiff, Nat.reduceAdd, Nat.reduceLeDiff, Nat.reduceMul, Nat.reduceLT, Nat.reduceBEq, Nat.reduceSub, Int.reduceToNat, Int.reduceLT, Int.reduceLE, Int.reduceAdd, Int.reduceSub, Int.reduceMul, Int.reduceGT, Int.reduceGE, Int.reduceEq, Int.reduceNe, Int.reduceNeg]
    repeat' first | exact Sub.rfl' _ | exact sub_nils _ | exact SubL.nil | refine sub_tup ?_ | refine sub_agg ?_ | refine SubL.cons ?_ ?_
  · rw [intS_none hx]
    obtain ⟨v, e, hv, he, hp⟩ := LibC.pany s hs
    have hne : ¬ decB v = s := fun h => hx ⟨v, hv, h⟩
    rcases he with rfl | ⟨t, rfl⟩
    · refine apure_fin mixed [] 400 Tryz.func101 Tryz.ntmps101 Tryz.results101 rfl rfl (by simp) rfl ?_
      simp (disch := first | omega | (simp only [ZL] <;> omega)) only [Z, Op.callOf, bslE, nilE, mslE, fadE, AV.cells, AV.isBot, AV.one, AV.flat, flatL, ids1, ids2, idsX, AV.lt, ltL, AObj.lt, finE, reduceCtorEq, reduceIte, Nat.reduceEqDiff, Nat.reduceAdd, Nat.reduceLeDiff, Nat.reduceMul, Nat.reduceLT, Nat.reduceBEq, Nat.reduceSub, Int.reduceToNat, Int.reduceLT, Int.reduceLE, Int.reduceAdd, Int.reduceSub, Int.reduceMul, Int.reduceGT, Int.reduceGE, Int.reduceEq, Int.reduceNe, Int.reduceNeg]
      refine callL_pure hp (by simp [ltL, AV.lt]) rfl ?_
      simp (disch := first | omega | (simp only [ZL] <;> omega)) only [Z, Op.callOf, bslE, nilE, mslE, fadE, AV.cells, AV.isBot, AV.one, AV.flat, flatL, ids1, ids2, idsX, AV.lt, ltL, AObj.lt, finE, reduceCtorEq, reduceIte, Nat.reduceEqDiff, Nat.reduceAdd, Nat.reduceLeDiff, Nat.reduceMul, Nat.reduceLT, Nat.reduceBEq, Nat.reduceSub, Int.reduceToNat, Int.reduceLT, Int.reduceLE, Int.reduceAdd, Int.reduceSub, Int.reduceMul, Int.reduceGT, Int.reduceGE, Int.reduceEq, Int.reduceNe, Int.reduceNeg]
      refine callL_pure (dec_c v hv) (by simp [ltL, AV.lt]) rfl ?_
      simp (disch := first | omega | (simp only [ZL] <;> omega)) only [Z, Op.callOf, bslE, nilE, mslE, fadE, AV.cells, AV.isBot, AV.one, AV.flat, flatL, ids1, ids2, idsX, AV.lt, ltL, AObj.lt, finE, reduceCtorEq, reduceIte, Nat.reduceEqDiff, Nat.reduceAdd, Nat.reduceLeDiff, Nat.reduceMul, Nat.reduceLT, Nat.reduceBEq, Nat.reduceSub, Int.reduceToNat, Int.reduceLT, Int.reduceLE, Int.reduceAdd, Int.reduceSub, Int.reduceMul, Int.reduceGT, Int.reduceGE, Int.reduceEq, Int.reduceNe, Int.reduceNeg, hne]
      repeat' first | exact Sub.rfl' _ | exact sub_nils _ | exact SubL.nil | refine sub_tup ?_ | refine sub_agg ?_ | refine SubL.cons ?_ ?_
    · refine apure_fin mixed [] 400 Tryz.func101 Tryz.ntmps101 Tryz.results101 rfl rfl (by simp) rfl ?_
      simp (disch := first | omega | (simp only [ZL] <;> omega)) only [Z, Op.callOf, bslE, nilE, mslE, fadE, AV.cells, AV.isBot, AV.one, AV.flat, flatL, ids1, ids2, idsX, AV.lt, ltL, AObj.lt, finE, reduceCtorEq, reduceIte, Nat.reduceEqDiff, Nat.reduceAdd, Nat.reduceLeDiff, Nat.reduceMul, Nat.reduceLT, Nat.reduceBEq, Nat.reduceSub, Int.reduceToNat, Int.reduceLT, Int.reduceLE, Int.reduceAdd, Int.reduceSub, Int.reduceMul, Int.reduceGT, Int.reduceGE, Int.reduceEq, Int.reduceNe, Int.reduceNeg]
      refine callL_pure hp (by simp [ltL, AV.lt]) rfl ?_
      simp (disch := first | omega | (simp only [ZL] <;> omega)) only [Z, Op.callOf, bslE, nilE, mslE, fadE, AV.cells, AV.isBot, AV.one, AV.flat, flatL, ids1, ids2, idsX, AV.lt, ltL, AObj.lt, finE, reduceCtorEq, reduceIte, Nat.reduceEqDiff, Nat.reduceAdd, Nat.reduceLeDiff, Nat.reduceMul, Nat.reduceLT, Nat.reduceBEq, Nat.reduceSub, Int.reduceToNat, Int.reduceLT, Int.reduceLE, Int.reduceAdd, Int.reduceSub, Int.reduceMul, Int.reduceGT, Int.reduceGE, Int.reduceEq, Int.reduceNe, Int.reduceNeg]
      repeat' first | exact Sub.rfl' _ | exact sub_nils _ | exact SubL.nil | refine sub_tup ?_ | refine sub_agg ?_ | refine SubL.cons ?_ ?_
theorem rint_c (s : List UInt8) (hs : s.length < 2^40) : APure Tryz.prog 93 [.str s] (.tup [.int .i64 ((intS s).getD 0), .bool (intS s).isSome]) := by
  refine apure_fin mixed [] 400 Tryz.func93 Tryz.ntmps93 Tryz.results93 rfl rfl (by simp) rfl ?_
  have hno : ∀ m, i64ok m → decB m = s → s.length ≤ 20 ∧ s.length ≠ 0 := fun m hm he => by
    subst he
    refine ⟨decB_len m hm, ?_⟩
    unfold decB
    split
    · simp
    · have := List.length_pos_iff.2 (digB_ne m.natAbs); omega
  by_cases c1 : (s.length : Int) = 0
  · simp (disch := first | omega | (simp only [ZL] <;> omega)) only [Z, Op.callOf, bslE, nilE, mslE, fadE, AV.cells, AV.isBot, AV.one, AV.flat, flatL, ids1, ids2, idsX, AV.lt, ltL, AObj.lt, finE, reduceCtorEq, reduceIte, Nat.reduceEqDiff, Nat.reduceAdd, Nat.reduceLeDiff, Nat.reduceMul, Nat.reduceLT, Nat.reduceBEq, Nat.reduceSub, Int.reduceToNat, Int.reduceLT, Int.reduceLE, Int.reduceAdd, Int.reduceSub, Int.reduceMul, Int.reduceGT, Int.reduceGE, Int.reduceEq, Int.reduceNe, Int.reduceNeg, c1]
    rw [intS_none fun ⟨m, hm, he⟩ => (hno m hm he).2 (by omega)]
    repeat' first | exact Sub.rfl' _ | exact sub_nils _ | exact SubL.nil | refine sub_tup ?_ | refine sub_agg ?_ | refine SubL.cons ?_ ?_
  by_cases c2 : (20 : Int) < s.length
  · simp (disch := first | omega | (simp only [ZL] <;> omega)) only [Z, Op.callOf, bslE, nilE, mslE, fadE, AV.cells, AV.isBot, AV.one, AV.flat, flatL, ids1, ids2, idsX, AV.lt, ltL, AObj.lt, finE, reduceCtorEq, reduceIte, Nat.reduceEqDiff, Nat.reduceAdd, Nat.reduceLeDiff, Nat.reduceMul, Nat.reduceLT, Nat.reduceBEq, Nat.reduceSub, Int.reduceToNat, Int.reduceLT, Int.reduceLE, Int.reduceAdd, Int.reduceSub, Int.reduceMul, Int.reduceGT, Int.reduceGE, Int.reduceEq, Int.reduceNe, Int.reduceNeg, c1, c2]
    rw [intS_none fun ⟨m, hm, he⟩ => by have := (hno m hm he).1; omega]
    repeat' first | exact Sub.rfl' _ | exact sub_nils _ | exact SubL.nil | refine sub_tup ?_ | refine sub_agg ?_ | refine SubL.cons ?_ ?_
  simp (disch := first | omega | (simp only [ZL] <;> omega)) only [Z, Op.callOf, bslE, nilE, mslE, fadE, AV.cells, AV.isBot, AV.one, AV.flat, flatL, ids1, ids2, idsX, AV.lt, ltL, AObj.lt, finE, reduceCtorEq, reduceIte, Nat.reduceEqDiff, Nat.reduceAdd, Nat.reduceLeDiff, Nat.reduceMul, Nat.reduceLT, Nat.reduceBEq, Nat.reduceSub, Int.reduceToNat, Int.reduceLT, Int.reduceLE, Int.reduceAdd, Int.reduceSub, Int.reduceMul, Int.reduceGT, Int.reduceGE, Int.reduceEq, Int.reduceNe, Int.reduceNeg, c1, c2]
  refine loopF mixed (fun p : Nat × Int => mk [(0, .str s), (4, .int .i64 p.2), (5, .int .i64 p.1)] [] 0)
    (fun p => p.1 ≤ s.length ∧ i64ok p.2 ∧ ∀ m, i64ok m → decB m = s → p.2 = pref m p.1) (fun p => s.length - p.1) (0, 0) 400 rfl rfl ⟨by simp, by unfold i64ok; simp, fun m _ _ => by simp [pref, numV]⟩ ?_ ?_
  · refine less_mk (by simp) (by simp) ?_ ?_ <;> simp (disch := first | omega | (simp only [ZL] <;> omega)) only [Z, Op.callOf, bslE, nilE, mslE, fadE, AV.cells, AV.isBot, AV.one, AV.flat, flatL, ids1, ids2, idsX, AV.lt, ltL, AObj.lt, finE, reduceCtorEq, reduceIte, Nat.reduceEqDiff, Nat.reduceAdd, Nat.reduceLeDiff, Nat.reduceMul, Nat.reduceLT, Nat.reduceBEq, Nat.reduceSub, Int.reduceToNat, Int.reduceLT, Int.reduceLE, Int.reduceAdd, Int.reduceSub, Int.reduceMul, Int.reduceGT, Int.reduceGE, Int.reduceEq, Int.reduceNe, Int.reduceNeg]
  rintro ⟨i, n⟩ ⟨hi, hn, hJ⟩
  dsimp only at hi hn hJ
  simp (disch := first | omega | (simp only [ZL] <;> omega)) only [Z, Op.callOf, bslE, nilE, mslE, fadE, AV.cells, AV.isBot, AV.one, AV.flat, flatL, ids1, ids2, idsX, AV.lt, ltL, AObj.lt, finE, reduceCtorEq, reduceIte, Nat.reduceEqDiff, Nat.reduceAdd, Nat.reduceLeDiff, Nat.reduceMul, Nat.reduceLT, Nat.reduceBEq, Nat.reduceSub, Int.reduceToNat, Int.reduceLT, Int.reduceLE, Int.reduceAdd, Int.reduceSub, Int.reduceMul, Int.reduceGT, Int.reduceGE, Int.reduceEq, Int.reduceNe, Int.reduceNeg]
  refine condG_p (fun e => ?_) (fun e => ?_)
  · have hi' : i < s.length := by omega
    have h0' : 0 < s.length := by omega
    obtain ⟨x, hx⟩ : ∃ x, s.getD i 0 = x := ⟨_, rfl⟩
    obtain ⟨y, hy⟩ : ∃ y, s.getD 0 0 = y := ⟨_, rfl⟩
    have xl := x.toNat_lt
    have dl := (x - UInt8.ofNat 48).toNat_lt
    have xi : ((x.toNat : Int) = 45) = (x = 45) := propext ⟨fun h => UInt8.toNat_inj.1 (by simpa using (by omega : x.toNat = 45)), fun h => by subst h; rfl⟩
    have yi : ((y.toNat : Int) = 45) = (y = 45) := propext ⟨fun h => UInt8.toNat_inj.1 (by simpa using (by omega : y.toNat = 45)), fun h => by subst h; rfl⟩
    have x48 : ((x.toNat : Int) < 48) = (x.toNat < 48) := propext (by omega)
    have x57 : ((57 : Int) < (x.toNat : Int)) = (57 < x.toNat) := propext (by omega)
    have ii : ((i : Int) = 0) = (i = 0) := propext (by omega)
    have hat : ∀ m, i64ok m → decB m = s → _ := fun m hm he => decB_at m i (by rw [he]; exact hi')
    by_cases a : x = 45 ∧ i = 0
    · obtain ⟨a1, a2⟩ := a
      subst a2
      have a1t : (x = 45) = True := eq_true a1
      simp (disch := first | omega | (simp only [ZL] <;> omega)) only [Z, Op.callOf, bslE, nilE, mslE, fadE, AV.cells, AV.isBot, AV.one, AV.flat, flatL, ids1, ids2, idsX, AV.lt, ltL, AObj.lt, finE, reduceCtorEq, reduceIte, Nat.reduceEqDiff, Nat.reduceAdd, Nat.reduceLeDiff, Nat.reduceMul, Nat.reduceLT, Nat.reduceBEq, Nat.reduceSub, Int.reduceToNat, Int.reduceLT, Int.reduceLE, Int.reduceAdd, Int.reduceSub, Int.reduceMul, Int.reduceGT, Int.reduceGE, Int.reduceEq, Int.reduceNe, Int.reduceNeg, hx, xi, a1t]
      refine finR_of (1, n) ⟨by dsimp only; omega, hn, fun m hm he => ?_⟩ (by dsimp only; omega) ?_
      · have h1 := hJ m hm he
        rcases hat m hm he with ⟨_, _, _, h2⟩ | ⟨h2, _, _, _⟩
        · dsimp only; rw [h1, h2]
        · rw [he, hx, a1] at h2; simp at h2
      · refine less_mk (by simp) (by simp) ?_ ?_ <;> simp (disch := first | omega | (simp only [ZL] <;> omega)) only [Z, Op.callOf, bslE, nilE, mslE, fadE, AV.cells, AV.isBot, AV.one, AV.flat, flatL, ids1, ids2, idsX, AV.lt, ltL, AObj.lt, finE, reduceCtorEq, reduceIte, Nat.reduceEqDiff, Nat.reduceAdd, Nat.reduceLeDiff, Nat.reduceMul, Nat.reduceLT, Nat.reduceBEq, Nat.reduceSub, Int.reduceToNat, Int.reduceLT, Int.reduceLE, Int.reduceAdd, Int.reduceSub, Int.reduceMul, Int.reduceGT, Int.reduceGE, Int.reduceEq, Int.reduceNe, Int.reduceNeg]
    by_cases b : x.toNat < 48 ∨ 57 < x.toNat
    · have hnone : intS s = none := intS_none fun ⟨m, hm, he⟩ => by
        rcases hat m hm he with ⟨h0, _, h1, _⟩ | ⟨h2, h3, _, _⟩
        · rw [he] at h1; subst h0; exact a ⟨by rw [← hx]; exact h1, rfl⟩
        · rw [he, hx] at h2 h3; omega
      rw [hnone]
      have fin1 : ∀ (q : Prop) [Decidable q], True := fun _ _ => trivial
      by_cases b1 : x.toNat < 48
      · by_cases a1 : x = 45
        · have a2 : ¬ i = 0 := fun h => a ⟨a1, h⟩
          have a1t : (x = 45) = True := eq_true a1
          simp (disch := first | omega | (simp only [ZL] <;> omega)) only [Z, Op.callOf, bslE, nilE, mslE, fadE, AV.cells, AV.isBot, AV.one, AV.flat, flatL, ids1, ids2, idsX, AV.lt, ltL, AObj.lt, finE, reduceCtorEq, reduceIte, Nat.reduceEqDiff, Nat.reduceAdd, Nat.reduceLeDiff, Nat.reduceMul, Nat.reduceLT, Nat.reduceBEq, Nat.reduceSub, Int.reduceToNat, Int.reduceLT, Int.reduceLE, Int.reduceAdd, Int.reduceSub, Int.reduceMul, Int.reduceGT, Int.reduceGE, Int.reduceEq, Int.reduceNe, Int.reduceNeg, hx, xi, a1t, ii, a2, x48, b1]
          repeat' first | exact Sub.rfl' _ | exact sub_nils _ | exact SubL.nil | refine sub_tup ?_ | refine sub_agg ?_ | refine SubL.cons ?_ ?_
        · simp (disch := first | omega | (simp only [ZL] <;> omega)) only [Z, Op.callOf, bslE, nilE, mslE, fadE, AV.cells, AV.isBot, AV.one, AV.flat, flatL, ids1, ids2, idsX, AV.lt, ltL, AObj.lt, finE, reduceCtorEq, reduceIte, Nat.reduceEqDiff, Nat.reduceAdd, Nat.reduceLeDiff, Nat.reduceMul, Nat.reduceLT, Nat.reduceBEq, Nat.reduceSub, Int.reduceToNat, Int.reduceLT, Int.reduceLE, Int.reduceAdd, Int.reduceSub, Int.reduceMul, Int.reduceGT, Int.reduceGE, Int.reduceEq, Int.reduceNe, Int.reduceNeg, hx, xi, a1, x48, b1]
          repeat' first | exact Sub.rfl' _ | exact sub_nils _ | exact SubL.nil | refine sub_tup ?_ | refine sub_agg ?_ | refine SubL.cons ?_ ?_
      · have b2 : 57 < x.toNat := by omega
        have a1 : ¬ x = 45 := fun h => by subst h; simp at b2
        simp (disch := first | omega | (simp only [ZL] <;> omega)) only [Z, Op.callOf, bslE, nilE, mslE, fadE, AV.cells, AV.isBot, AV.one, AV.flat, flatL, ids1, ids2, idsX, AV.lt, ltL, AObj.lt, finE, reduceCtorEq, reduceIte, Nat.reduceEqDiff, Nat.reduceAdd, Nat.reduceLeDiff, Nat.reduceMul, Nat.reduceLT, Nat.reduceBEq, Nat.reduceSub, Int.reduceToNat, Int.reduceLT, Int.reduceLE, Int.reduceAdd, Int.reduceSub, Int.reduceMul, Int.reduceGT, Int.reduceGE, Int.reduceEq, Int.reduceNe, Int.reduceNeg, hx, xi, a1, x48, b1, x57, b2]
        repeat' first | exact Sub.rfl' _ | exact sub_nils _ | exact SubL.nil | refine sub_tup ?_ | refine sub_agg ?_ | refine SubL.cons ?_ ?_
    · have b1 : ¬ x.toNat < 48 := by omega
      have b2 : ¬ 57 < x.toNat := by omega
      have a1 : ¬ x = 45 := fun h => by subst h; simp at b1
      have hd : ((x - UInt8.ofNat 48).toNat : Int) = ((x.toNat - 48 : Nat) : Int) := by
        rw [UInt8.toNat_sub]; simp; omega
      by_cases c : y = 45
      · have ct : (y = 45) = True := eq_true c
        simp (disch := first | omega | (simp only [ZL] <;> omega)) only [Z, Op.callOf, bslE, nilE, mslE, fadE, AV.cells, AV.isBot, AV.one, AV.flat, flatL, ids1, ids2, idsX, AV.lt, ltL, AObj.lt, finE, reduceCtorEq, reduceIte, Nat.reduceEqDiff, Nat.reduceAdd, Nat.reduceLeDiff, Nat.reduceMul, Nat.reduceLT, Nat.reduceBEq, Nat.reduceSub, Int.reduceToNat, Int.reduceLT, Int.reduceLE, Int.reduceAdd, Int.reduceSub, Int.reduceMul, Int.reduceGT, Int.reduceGE, Int.reduceEq, Int.reduceNe, Int.reduceNeg, hx, hy, xi, yi, a1, x48, b1, x57, b2, ct, v8_subc, hd, wrapw_sub]
        refine finR_of (i + 1, IntKind.i64.wrap (n * 10 - ((x.toNat - 48 : Nat) : Int))) ⟨by dsimp only; omega, wrap_ok _, fun m hm he => ?_⟩ (by dsimp only; omega) ?_
        · dsimp only
          have h1 := hJ m hm he
          rcases hat m hm he with ⟨h0, _, h2, _⟩ | ⟨_, _, h3, h4⟩
          · rw [he] at h2; subst h0; exact absurd ⟨by rw [← hx]; exact h2, rfl⟩ a
          · rw [he, hy] at h3
            have hm0 : m < 0 := by rw [h3]; exact c
            rw [if_pos hm0, he, hx, ← h1] at h4
            have h5 := pref_ok m hm (i + 1)
            rw [h4] at h5 ⊢
            exact i64_wrap _ h5
        · refine less_mk (by simp) (by simp) ?_ ?_ <;> simp (disch := first | omega | (simp only [ZL] <;> omega)) only [Z, Op.callOf, bslE, nilE, mslE, fadE, AV.cells, AV.isBot, AV.one, AV.flat, flatL, ids1, ids2, idsX, AV.lt, ltL, AObj.lt, finE, reduceCtorEq, reduceIte, Nat.reduceEqDiff, Nat.reduceAdd, Nat.reduceLeDiff, Nat.reduceMul, Nat.reduceLT, Nat.reduceBEq, Nat.reduceSub, Int.reduceToNat, Int.reduceLT, Int.reduceLE, Int.reduceAdd, Int.reduceSub, Int.reduceMul, Int.reduceGT, Int.reduceGE, Int.reduceEq, Int.reduceNe, Int.reduceNeg, i64_add1]
      · simp (disch := first | omega | (simp only [ZL] <;> omega)) only [Z, Op.callOf, bslE, nilE, mslE, fadE, AV.cells, AV.isBot, AV.one, AV.flat, flatL, ids1, ids2, idsX, AV.lt, ltL, AObj.lt, finE, reduceCtorEq, reduceIte, Nat.reduceEqDiff, Nat.reduceAdd, Nat.reduceLeDiff, Nat.reduceMul, Nat.reduceLT, Nat.reduceBEq, Nat.reduceSub, Int.reduceToNat, Int.reduceLT, Int.reduceLE, Int.reduceAdd, Int.reduceSub, Int.reduceMul, Int.reduceGT, Int.reduceGE, Int.reduceEq, Int.reduceNe, Int.reduceNeg, hx, hy, xi, yi, a1, x48, b1, x57, b2, c, v8_subc, hd, wrapw_add]
        refine finR_of (i + 1, IntKind.i64.wrap (n * 10 + ((x.toNat - 48 : Nat) : Int))) ⟨by dsimp only; omega, wrap_ok _, fun m hm he => ?_⟩ (by dsimp only; omega) ?_
        · dsimp only
          have h1 := hJ m hm he
          rcases hat m hm he with ⟨h0, _, h2, _⟩ | ⟨_, _, h3, h4⟩
          · rw [he] at h2; subst h0; exact absurd ⟨by rw [← hx]; exact h2, rfl⟩ a
          · rw [he, hy] at h3
            have hm0 : ¬ m < 0 := by rw [h3]; exact c
            rw [if_neg hm0, he, hx, ← h1] at h4
            have h5 := pref_ok m hm (i + 1)
            rw [h4] at h5 ⊢
            exact i64_wrap _ h5
        · refine less_mk (by simp) (by simp) ?_ ?_ <;> simp (disch := first | omega | (simp only [ZL] <;> omega)) only [Z, Op.callOf, bslE, nilE, mslE, fadE, AV.cells, AV.isBot, AV.one, AV.flat, flatL, ids1, ids2, idsX, AV.lt, ltL, AObj.lt, finE, reduceCtorEq, reduceIte, Nat.reduceEqDiff, Nat.reduceAdd, Nat.reduceLeDiff, Nat.reduceMul, Nat.reduceLT, Nat.reduceBEq, Nat.reduceSub, Int.reduceToNat, Int.reduceLT, Int.reduceLE, Int.reduceAdd, Int.reduceSub, Int.reduceMul, Int.reduceGT, Int.reduceGE, Int.reduceEq, Int.reduceNe, Int.reduceNeg, i64_add1]
  · have : i = s.length := by omega
    subst this
    simp (disch := first | omega | (simp only [ZL] <;> omega)) only [Z, Op.callOf, bslE, nilE, mslE, fadE, AV.cells, AV.isBot, AV.one, AV.flat, flatL, ids1, ids2, idsX, AV.lt, ltL, AObj.lt, finE, reduceCtorEq, reduceIte, Nat.reduceEqDiff, Nat.reduceAdd, Nat.reduceLeDiff, Nat.reduceMul, Nat.reduceLT, Nat.reduceBEq, Nat.reduceSub, Int.reduceToNat, Int.reduceLT, Int.reduceLE, Int.reduceAdd, Int.reduceSub, Int.reduceMul, Int.reduceGT, Int.reduceGE, Int.reduceEq, Int.reduceNe, Int.reduceNeg]
    refine callL_pure (rdec_c (2 * n.natAbs + (if n < 0 then 1 else 0)) n (Nat.le_refl _) hn) (by simp [ltL, AV.lt]) rfl ?_
    by_cases h : decB n = s
    · simp (disch := first | omega | (simp only [ZL] <;> omega)) only [Z, Op.callOf, bslE, nilE, mslE, fadE, AV.cells, AV.isBot, AV.one, AV.flat, flatL, ids1, ids2, idsX, AV.lt, ltL, AObj.lt, finE, reduceCtorEq, reduceIte, Nat.reduceEqDiff, Nat.reduceAdd, Nat.reduceLeDiff, Nat.reduceMul, Nat.reduceLT, Nat.reduceBEq, Nat.reduceSub, Int.reduceToNat, Int.reduceLT, Int.reduceLE, Int.reduceAdd, Int.reduceSub, Int.reduceMul, Int.reduceGT, Int.reduceGE, Int.reduceEq, Int.reduceNe, Int.reduceNeg, h]
      rw [← h, intS_dec hn]
      repeat' first | exact Sub.rfl' _ | exact sub_nils _ | exact SubL.nil | refine sub_tup ?_ | refine sub_agg ?_ | refine SubL.cons ?_ ?_
    · simp (disch := first | omega | (simp only [ZL] <;> omega)) only [Z, Op.callOf, bslE, nilE, mslE, fadE, AV.cells, AV.isBot, AV.one, AV.flat, flatL, ids1, ids2, idsX, AV.lt, ltL, AObj.lt, finE, reduceCtorEq, reduceIte, Nat.reduceEqDiff, Nat.reduceAdd, Nat.reduceLeDiff, Nat.reduceMul, Nat.reduceLT, Nat.reduceBEq, Nat.reduceSub, Int.reduceToNat, Int.reduceLT, Int.reduceLE, Int.reduceAdd, Int.reduceSub, Int.reduceMul, Int.reduceGT, Int.reduceGE, Int.reduceEq, Int.reduceNe, Int.reduceNeg, h]
      rw [intS_none fun ⟨m, hm, he⟩ => h (by rw [hJ m hm he, ← he, pref_len])]
      repeat' first | exact Sub.rfl' _ | exact sub_nils _ | exact SubL.nil | refine sub_tup ?_ | refine sub_agg ?_ | refine SubL.cons ?_ ?_
end Go.Ab
namespace Go.Ab
open Go Go.Proofs
def lenB (n : Nat) : List UInt8 := if n < 128 then [UInt8.ofNat n] else UInt8.ofNat (n % 128 + 128) :: lenB (n / 128)
termination_by n
decreasing_by omega
def rowS (l : List (List UInt8)) : List UInt8 := l.flatMap fun s => lenB s.length ++ s
theorem lenB_len (n : Nat) : ∀ m, n < 128 ^ (m + 1) → (lenB n).length ≤ m + 1 := by
  intro m
  induction m generalizing n with
  | zero => intro h; rw [lenB, if_pos (by simpa using h)]; simp
  | succ m ih =>
    intro h
    rw [lenB]
    split
    · simp
    · have := ih (n / 128) (by rw [Nat.pow_succ] at h; omega)
      simp; omega
theorem lenB_le (n : Nat) (h : n < 2^40) : (lenB n).length ≤ 6 := lenB_len n 5 (by omega)
theorem rem128 (n : Nat) : Int.tmod (n : Int) 128 = ((n % 128 : Nat) : Int) := by rw [Int.tmod_eq_emod_of_nonneg (by omega)]; omega
theorem quo128 (n : Nat) : Int.tdiv (n : Int) 128 = ((n / 128 : Nat) : Int) := by rw [Int.tdiv_eq_ediv_of_nonneg (by omega)]; omega
theorem dg_128 (c : Nat) : (c : Int) + 128 = ((c + 128 : Nat) : Int) := by omega
theorem rowS_cons (s : List UInt8) (l : List (List UInt8)) : rowS (s :: l) = lenB s.length ++ s ++ rowS l := by simp [rowS]
theorem rowS_app (a b : List (List UInt8)) : rowS (a ++ b) = rowS a ++ rowS b := by simp [rowS]
theorem rowS_len (l : List (List UInt8)) (N : Nat) (h : ∀ s ∈ l, s.length ≤ N) (hN : N < 2^40) : (rowS l).length ≤ l.length * (N + 6) := by
  induction l with
  | nil => simp [rowS]
  | cons s l ih =>
    have h1 := h s (by simp)
    have h2 := lenB_le s.length (by omega)
    have h3 := ih fun x hx => h x (by simp [hx])
    rw [rowS_cons]
    simp only [List.length_append, List.length_cons, Nat.add_mul, Nat.one_mul]
    omega
variable [Glob] [LibC]
set_option maxHeartbeats 1000000

theorem rlen_c (n : Nat) (h : n < 2^40) : APure Tryz.prog 123 [.int .i64 n] (.str (lenB n)) := by
  induction n using Nat.strongRecOn with
  | ind n ih =>
    refine apure_fin mixed [] 400 Tryz.func123 Tryz.ntmps123 Tryz.results123 rfl rfl (by simp) rfl ?_
    by_cases e : (n : Int) < 128
    · simp (disch := first | omega | (simp only [ZL] <;> omega)) only [Z, Op.callOf, bslE, nilE, mslE, fadE, AV.cells, AV.isBot, AV.one, AV.flat, flatL, ids1, ids2, idsX, AV.lt, ltL, AObj.lt, finE, reduceCtorEq, reduceIte, Nat.reduceEqDiff, Nat.reduceAdd, Nat.reduceLeDiff, Nat.reduceMul, Nat.reduceLT, Nat.reduceBEq, Nat.reduceSub, Int.reduceToNat, Int.reduceLT, Int.reduceLE, Int.reduceAdd, Int.reduceSub, Int.reduceMul, Int.reduceGT, Int.reduceGE, Int.reduceEq, Int.reduceNe, Int.reduceNeg, e, w8]
      rw [lenB, if_pos (by omega)]
      repeat' first | exact Sub.rfl' _ | exact sub_nils _ | exact SubL.nil | refine sub_tup ?_ | refine sub_agg ?_ | refine SubL.cons ?_ ?_
    · have hl := lenB_le (n / 128) (by omega)
      simp (disch := first | omega | (simp only [ZL] <;> omega)) only [Z, Op.callOf, bslE, nilE, mslE, fadE, AV.cells, AV.isBot, AV.one, AV.flat, flatL, ids1, ids2, idsX, AV.lt, ltL, AObj.lt, finE, reduceCtorEq, reduceIte, Nat.reduceEqDiff, Nat.reduceAdd, Nat.reduceLeDiff, Nat.reduceMul, Nat.reduceLT, Nat.reduceBEq, Nat.reduceSub, Int.reduceToNat, Int.reduceLT, Int.reduceLE, Int.reduceAdd, Int.reduceSub, Int.reduceMul, Int.reduceGT, Int.reduceGE, Int.reduceEq, Int.reduceNe, Int.reduceNeg, e, w8, rem128, quo128, dg_128]
      refine callD_pure (ih (n / 128) (by omega) (by omega)) (by simp [ltL, AV.lt]) ?_
      simp (disch := first | omega | (simp only [ZL] <;> omega)) only [Z, Op.callOf, bslE, nilE, mslE, fadE, AV.cells, AV.isBot, AV.one, AV.flat, flatL, ids1, ids2, idsX, AV.lt, ltL, AObj.lt, finE, reduceCtorEq, reduceIte, Nat.reduceEqDiff, Nat.reduceAdd, Nat.reduceLeDiff, Nat.reduceMul, Nat.reduceLT, Nat.reduceBEq, Nat.reduceSub, Int.reduceToNat, Int.reduceLT, Int.reduceLE, Int.reduceAdd, Int.reduceSub, Int.reduceMul, Int.reduceGT, Int.reduceGE, Int.reduceEq, Int.reduceNe, Int.reduceNeg]
      refine okK_of (by kernel_rfl) ?_
      simp (disch := first | omega | (simp only [ZL] <;> omega)) only [Z, Op.callOf, bslE, nilE, mslE, fadE, AV.cells, AV.isBot, AV.one, AV.flat, flatL, ids1, ids2, idsX, AV.lt, ltL, AObj.lt, finE, reduceCtorEq, reduceIte, Nat.reduceEqDiff, Nat.reduceAdd, Nat.reduceLeDiff, Nat.reduceMul, Nat.reduceLT, Nat.reduceBEq, Nat.reduceSub, Int.reduceToNat, Int.reduceLT, Int.reduceLE, Int.reduceAdd, Int.reduceSub, Int.reduceMul, Int.reduceGT, Int.reduceGE, Int.reduceEq, Int.reduceNe, Int.reduceNeg]
      rw [lenB.eq_def n, if_neg (by omega)]
      repeat' first | exact Sub.rfl' _ | exact sub_nils _ | exact SubL.nil | refine sub_tup ?_ | refine sub_agg ?_ | refine SubL.cons ?_ ?_
omit [LibC] in
theorem plen_c (n0 : Nat) (h : n0 < 2^40) : APure Tryz.prog 70 [.int .i64 n0] (.sl 1 (encB (lenB n0))) := by
  refine apure_fin mixed [] 400 Tryz.func70 Tryz.ntmps70 Tryz.results70 rfl rfl (by simp) rfl ?_
  simp (disch := first | omega | (simp only [ZL] <;> omega)) only [Z, Op.callOf, bslE, nilE, mslE, fadE, AV.cells, AV.isBot, AV.one, AV.flat, flatL, ids1, ids2, idsX, AV.lt, ltL, AObj.lt, finE, reduceCtorEq, reduceIte, Nat.reduceEqDiff, Nat.reduceAdd, Nat.reduceLeDiff, Nat.reduceMul, Nat.reduceLT, Nat.reduceBEq, Nat.reduceSub, Int.reduceToNat, Int.reduceLT, Int.reduceLE, Int.reduceAdd, Int.reduceSub, Int.reduceMul, Int.reduceGT, Int.reduceGE, Int.reduceEq, Int.reduceNe, Int.reduceNeg]
  refine loopG_row0 1 3 rfl ?_
  refine loopF mixed (fun p : Nat × List UInt8 => mk [(0, .int .i64 p.1), (3, .row 2 p.2.length 0 p.2.length)] [(2, .row 1 p.2.length (encB p.2))] 3)
    (fun p => p.1 < 2^40 ∧ p.2.length + p.1 ≤ n0 ∧ p.2 ++ lenB p.1 = lenB n0) (fun p => p.1) (n0, []) 400 rfl rfl ⟨h, by simp, rfl⟩ ?_ ?_
  · refine less_mk (by simp) (by simp) ?_ ?_ <;> simp (disch := first | omega | (simp only [ZL] <;> omega)) only [Z, Op.callOf, bslE, nilE, mslE, fadE, AV.cells, AV.isBot, AV.one, AV.flat, flatL, ids1, ids2, idsX, AV.lt, ltL, AObj.lt, finE, reduceCtorEq, reduceIte, Nat.reduceEqDiff, Nat.reduceAdd, Nat.reduceLeDiff, Nat.reduceMul, Nat.reduceLT, Nat.reduceBEq, Nat.reduceSub, Int.reduceToNat, Int.reduceLT, Int.reduceLE, Int.reduceAdd, Int.reduceSub, Int.reduceMul, Int.reduceGT, Int.reduceGE, Int.reduceEq, Int.reduceNe, Int.reduceNeg, encB_nil]
  rintro ⟨n, l⟩ ⟨hn, hl, hJ⟩
  dsimp only at hn hl hJ
  simp (disch := first | omega | (simp only [ZL] <;> omega)) only [Z, Op.callOf, bslE, nilE, mslE, fadE, AV.cells, AV.isBot, AV.one, AV.flat, flatL, ids1, ids2, idsX, AV.lt, ltL, AObj.lt, finE, reduceCtorEq, reduceIte, Nat.reduceEqDiff, Nat.reduceAdd, Nat.reduceLeDiff, Nat.reduceMul, Nat.reduceLT, Nat.reduceBEq, Nat.reduceSub, Int.reduceToNat, Int.reduceLT, Int.reduceLE, Int.reduceAdd, Int.reduceSub, Int.reduceMul, Int.reduceGT, Int.reduceGE, Int.reduceEq, Int.reduceNe, Int.reduceNeg]
  refine condG_p (fun e => ?_) (fun e => ?_)
  · rw [lenB, if_neg (by omega)] at hJ
    have h8 : UInt8.ofNat (n % 128) + UInt8.ofNat 128 = UInt8.ofNat (n % 128 + 128) := by
      apply UInt8.toNat_inj.1; simp
    simp (disch := first | omega | (simp only [ZL] <;> omega)) only [Z, Op.callOf, bslE, nilE, mslE, fadE, AV.cells, AV.isBot, AV.one, AV.flat, flatL, ids1, ids2, idsX, AV.lt, ltL, AObj.lt, finE, reduceCtorEq, reduceIte, Nat.reduceEqDiff, Nat.reduceAdd, Nat.reduceLeDiff, Nat.reduceMul, Nat.reduceLT, Nat.reduceBEq, Nat.reduceSub, Int.reduceToNat, Int.reduceLT, Int.reduceLE, Int.reduceAdd, Int.reduceSub, Int.reduceMul, Int.reduceGT, Int.reduceGE, Int.reduceEq, Int.reduceNe, Int.reduceNeg, rem128, quo128, w8, h8, encB_len]
    have h9 : l.length + 1 = (l ++ [UInt8.ofNat (n % 128 + 128)]).length := by simp
    refine finR_of (n / 128, l ++ [UInt8.ofNat (n % 128 + 128)]) ⟨by dsimp only; omega, by simp; omega, by simpa using hJ⟩ (by dsimp only; omega) ?_
    refine less_mk (by simp) (by simp) ?_ ?_ <;> simp (disch := first | omega | (simp only [ZL] <;> omega)) only [Z, Op.callOf, bslE, nilE, mslE, fadE, AV.cells, AV.isBot, AV.one, AV.flat, flatL, ids1, ids2, idsX, AV.lt, ltL, AObj.lt, finE, reduceCtorEq, reduceIte, Nat.reduceEqDiff, Nat.reduceAdd, Nat.reduceLeDiff, Nat.reduceMul, Nat.reduceLT, Nat.reduceBEq, Nat.reduceSub, Int.reduceToNat, Int.reduceLT, Int.reduceLE, Int.reduceAdd, Int.reduceSub, Int.reduceMul, Int.reduceGT, Int.reduceGE, Int.reduceEq, Int.reduceNe, Int.reduceNeg, encB_app, encB_cons, encB_nil]
  · rw [lenB, if_pos (by omega)] at hJ
    simp (disch := first | omega | (simp only [ZL] <;> omega)) only [Z, Op.callOf, bslE, nilE, mslE, fadE, AV.cells, AV.isBot, AV.one, AV.flat, flatL, ids1, ids2, idsX, AV.lt, ltL, AObj.lt, finE, reduceCtorEq, reduceIte, Nat.reduceEqDiff, Nat.reduceAdd, Nat.reduceLeDiff, Nat.reduceMul, Nat.reduceLT, Nat.reduceBEq, Nat.reduceSub, Int.reduceToNat, Int.reduceLT, Int.reduceLE, Int.reduceAdd, Int.reduceSub, Int.reduceMul, Int.reduceGT, Int.reduceGE, Int.reduceEq, Int.reduceNe, Int.reduceNeg, w8, encB_len]
    refine sub_eq (congrArg _ ?_)
    rw [← hJ, encB_app, encB_cons, encB_nil]
    exact List.take_of_length_le (by simp [encB_len])
theorem rrow_c (l : List (List UInt8)) (h1 : l.length < 1000) (h2 : ∀ s ∈ l, s.length < 1000000) : APure Tryz.prog 90 [.sl 1 (encT l)] (.str (rowS l)) := by
  refine apure_fin mixed [] 400 Tryz.func90 Tryz.ntmps90 Tryz.results90 rfl rfl (by simp) rfl ?_
  simp (disch := first | omega | (simp only [ZL] <;> omega)) only [Z, Op.callOf, bslE, nilE, mslE, fadE, AV.cells, AV.isBot, AV.one, AV.flat, flatL, ids1, ids2, idsX, AV.lt, ltL, AObj.lt, finE, reduceCtorEq, reduceIte, Nat.reduceEqDiff, Nat.reduceAdd, Nat.reduceLeDiff, Nat.reduceMul, Nat.reduceLT, Nat.reduceBEq, Nat.reduceSub, Int.reduceToNat, Int.reduceLT, Int.reduceLE, Int.reduceAdd, Int.reduceSub, Int.reduceMul, Int.reduceGT, Int.reduceGE, Int.reduceEq, Int.reduceNe, Int.reduceNeg, encT_len]
  refine loopF mixed (fun p : Nat => mk [(3, .str (rowS (l.take p))), (6, .sl 1 (encT l)), (7, .int .i64 l.length), (8, .int .i64 p)] [] 0) (fun p => p ≤ l.length) (fun p => l.length - p) 0 400 rfl rfl (by omega) ?_ ?_
  · refine less_mk (by simp) (by simp) ?_ ?_ <;> simp (disch := first | omega | (simp only [ZL] <;> omega)) only [Z, Op.callOf, bslE, nilE, mslE, fadE, AV.cells, AV.isBot, AV.one, AV.flat, flatL, ids1, ids2, idsX, AV.lt, ltL, AObj.lt, finE, reduceCtorEq, reduceIte, Nat.reduceEqDiff, Nat.reduceAdd, Nat.reduceLeDiff, Nat.reduceMul, Nat.reduceLT, Nat.reduceBEq, Nat.reduceSub, Int.reduceToNat, Int.reduceLT, Int.reduceLE, Int.reduceAdd, Int.reduceSub, Int.reduceMul, Int.reduceGT, Int.reduceGE, Int.reduceEq, Int.reduceNe, Int.reduceNeg]
    exact rfl
  intro p hp
  simp (disch := first | omega | (simp only [ZL] <;> omega)) only [Z, Op.callOf, bslE, nilE, mslE, fadE, AV.cells, AV.isBot, AV.one, AV.flat, flatL, ids1, ids2, idsX, AV.lt, ltL, AObj.lt, finE, reduceCtorEq, reduceIte, Nat.reduceEqDiff, Nat.reduceAdd, Nat.reduceLeDiff, Nat.reduceMul, Nat.reduceLT, Nat.reduceBEq, Nat.reduceSub, Int.reduceToNat, Int.reduceLT, Int.reduceLE, Int.reduceAdd, Int.reduceSub, Int.reduceMul, Int.reduceGT, Int.reduceGE, Int.reduceEq, Int.reduceNe, Int.reduceNeg]
  refine condG_p (fun e => ?_) (fun e => ?_)
  · have hp' : p < l.length := by omega
    have hlt := h2 l[p] (List.getElem_mem _)
    have hlen := lenB_le l[p].length (by omega)
    have htot := rowS_len (l.take p) 1000000 (fun s hs => Nat.le_of_lt (h2 s (List.mem_of_mem_take hs))) (by decide)
    have htk : (l.take p).length ≤ 1000 := by simp; omega
    have htot2 : (rowS (l.take p)).length ≤ 1000006000 := Nat.le_trans htot (by omega)
    have hg : (encT l).getD p [] = [.str l[p]] := by simp [encT, List.getD, hp']
    simp (disch := first | omega | (simp only [ZL] <;> omega)) only [Z, Op.callOf, bslE, nilE, mslE, fadE, AV.cells, AV.isBot, AV.one, AV.flat, flatL, ids1, ids2, idsX, AV.lt, ltL, AObj.lt, finE, reduceCtorEq, reduceIte, Nat.reduceEqDiff, Nat.reduceAdd, Nat.reduceLeDiff, Nat.reduceMul, Nat.reduceLT, Nat.reduceBEq, Nat.reduceSub, Int.reduceToNat, Int.reduceLT, Int.reduceLE, Int.reduceAdd, Int.reduceSub, Int.reduceMul, Int.reduceGT, Int.reduceGE, Int.reduceEq, Int.reduceNe, Int.reduceNeg, encT_len, hg]
    refine callL_pure (rlen_c l[p].length (by omega)) (by simp [ltL, AV.lt]) rfl ?_
    simp (disch := first | omega | (simp only [ZL] <;> omega)) only [Z, Op.callOf, bslE, nilE, mslE, fadE, AV.cells, AV.isBot, AV.one, AV.flat, flatL, ids1, ids2, idsX, AV.lt, ltL, AObj.lt, finE, reduceCtorEq, reduceIte, Nat.reduceEqDiff, Nat.reduceAdd, Nat.reduceLeDiff, Nat.reduceMul, Nat.reduceLT, Nat.reduceBEq, Nat.reduceSub, Int.reduceToNat, Int.reduceLT, Int.reduceLE, Int.reduceAdd, Int.reduceSub, Int.reduceMul, Int.reduceGT, Int.reduceGE, Int.reduceEq, Int.reduceNe, Int.reduceNeg]
    refine finR_of (p + 1) (by omega) (by omega) ?_
    have ht : rowS (l.take p) ++ (lenB l[p].length ++ l[p]) = rowS (l.take (p + 1)) := by
      have : l.take (p + 1) = l.take p ++ [l[p]] := by simp
      rw [this, rowS_app]; simp [rowS]
    refine less_mk (by simp) (by simp) ?_ ?_ <;> simp (disch := first | omega | (simp only [ZL] <;> omega)) only [Z, Op.callOf, bslE, nilE, mslE, fadE, AV.cells, AV.isBot, AV.one, AV.flat, flatL, ids1, ids2, idsX, AV.lt, ltL, AObj.lt, finE, reduceCtorEq, reduceIte, Nat.reduceEqDiff, Nat.reduceAdd, Nat.reduceLeDiff, Nat.reduceMul, Nat.reduceLT, Nat.reduceBEq, Nat.reduceSub, Int.reduceToNat, Int.reduceLT, Int.reduceLE, Int.reduceAdd, Int.reduceSub, Int.reduceMul, Int.reduceGT, Int.reduceGE, Int.reduceEq, Int.reduceNe, Int.reduceNeg, i64_add1, ht]
  · have : p = l.length := by omega
    subst this
    simp (disch := first | omega | (simp only [ZL] <;> omega)) only [Z, Op.callOf, bslE, nilE, mslE, fadE, AV.cells, AV.isBot, AV.one, AV.flat, flatL, ids1, ids2, idsX, AV.lt, ltL, AObj.lt, finE, reduceCtorEq, reduceIte, Nat.reduceEqDiff, Nat.reduceAdd, Nat.reduceLeDiff, Nat.reduceMul, Nat.reduceLT, Nat.reduceBEq, Nat.reduceSub, Int.reduceToNat, Int.reduceLT, Int.reduceLE, Int.reduceAdd, Int.reduceSub, Int.reduceMul, Int.reduceGT, Int.reduceGE, Int.reduceEq, Int.reduceNe, Int.reduceNeg]
    repeat' first | exact Sub.rfl' _ | exact sub_nils _ | exact SubL.nil | refine sub_tup ?_ | refine sub_agg ?_ | refine SubL.cons ?_ ?_
end Go.Ab
namespace Go.Ab
open Go Go.Proofs
def hibsB : List UInt8 := [104, 105, 98, 115]
noncomputable def fitS (s name : List UInt8) (i : Nat) : Option (Nat × List UInt8 × List UInt8) :=
  if (textsS s).2 = 0 ∧ (textsS s).1.length = 7 ∧ (textsS s).1.getD 0 [] = hibsB ∧ (textsS s).1.getD 1 [] = name ∧ (textsS s).1.getD 3 [] = decB (i + 1 : Nat) ∧ ((textsS s).1.getD 4 []).length = 32 then
    match intS ((textsS s).1.getD 2 []) with
    | some n => if 0 ≤ n ∧ n ≤ 65536 ∧ ((textsS s).1.getD 6 []).length = rowsN n.toNat ∧ (textsS s).1.getD 5 [] = sumS ((textsS s).1.getD 6 []) then some (n.toNat, (textsS s).1.getD 4 [], (textsS s).1.getD 6 []) else none
    | none => none
  else none
/-- what it is in the reference -/
def fitR (i : Nat) : Option (Nat × List UInt8 × List UInt8) → List AV
  | none => [.bool false, .int .i64 0, .str [], .int .i64 0, .str []]
  | some p => [.bool true, .int .i64 (p.1 : Int), .str p.2.1, .int .i64 ((i + 1 : Nat) : Int), .str p.2.2]
/-- and in the program -/
def fitP (i : Nat) : Option (Nat × List UInt8 × List UInt8) → List AV
  | none => [.int .i64 0, .str [], .int .i64 0, .str []]
  | some p => [.int .i64 (p.1 : Int), .str p.2.1, .int .i64 ((i + 1 : Nat) : Int), .str p.2.2]
theorem hibs_eq : (hibsB = [104, 105, 98, 115]) = True := eq_true rfl
theorem textsR_len : ∀ (f : Nat) (b : List UInt8) (acc : List (List UInt8)) (n : Nat), b.length ≤ n → (∀ t ∈ acc, t.length ≤ n) → ∀ t ∈ (textsR f b acc).1, t.length ≤ n
  | 0, b, acc, n, _, h => h
  | f + 1, b, acc, n, hb, h => by
    rw [textsR]
    split
    · exact h
    split
    · simp
    split
    · simp
    refine textsR_len f _ _ n (by simp; omega) fun t ht => ?_
    rcases List.mem_append.1 ht with h1 | h1
    · exact h t h1
    · rw [List.mem_singleton] at h1
      subst h1
      simp; omega
theorem texts_len (s : List UInt8) : ∀ t ∈ (textsS s).1, t.length ≤ s.length := textsR_len _ _ _ _ (Nat.le_refl _) (by simp)
theorem texts_mem {l : List (List UInt8)} {n : Nat} (h : ∀ t ∈ l, t.length ≤ n) : ∀ t, t ∈ l → t.length ≤ n := h
theorem fitR_lt (i : Nat) (o : Option (Nat × List UInt8 × List UInt8)) : ltL 0 (fitR i o) := by cases o <;> simp [fitR, ltL, AV.lt]
theorem fitP_lt (i : Nat) (o : Option (Nat × List UInt8 × List UInt8)) : ltL 0 (fitP i o) := by cases o <;> simp [fitP, ltL, AV.lt]
theorem len7 {α : Type} : ∀ {l : List α}, l.length = 7 → ∃ a b c d e f g, l = [a, b, c, d, e, f, g]
  | [a, b, c, d, e, f, g], _ => ⟨a, b, c, d, e, f, g, rfl⟩
variable [Glob]
set_option maxHeartbeats 1000000

theorem rfits_c [LibC] (s name : List UInt8) (i : Nat) (hi : i < 5) (hs : s.length < 2^40) : APure Tryz.prog 56 [.str s, .str name, .int .i64 i] (.agg (fitR i (fitS s name i))) := by
  refine apure_fin mixed [] 400 Tryz.func56 Tryz.ntmps56 Tryz.results56 rfl rfl (by simp) rfl ?_
  have hf : fitS s name i = fitS s name i := rfl
  conv at hf => rhs; unfold fitS
  rw [hf]; clear hf
  simp (disch := first | omega | (simp only [ZL] <;> omega)) only [Z, Op.callOf, bslE, nilE, mslE, fadE, AV.cells, AV.isBot, AV.one, AV.flat, flatL, ids1, ids2, idsX, AV.lt, ltL, AObj.lt, finE, sevalprocAttr]
  refine callL_pure (rtexts_c s hs) (by simp [ltL, AV.lt]) rfl ?_
  have hT := texts_len s
  generalize textsS s = T at hT ⊢
  obtain ⟨l, e⟩ := T
  dsimp only at hT
  dsimp only
  by_cases he : e = 0
  · subst he
    by_cases h7 : l.length = 7
    · obtain ⟨a0, a1, a2, a3, a4, a5, a6, rfl⟩ := len7 h7
      simp only [List.getD_cons_zero, List.getD_cons_succ, encT, List.map_cons, List.map_nil]
      have ci : 1 + (i : Int) = ((i + 1 : Nat) : Int) := by omega
      by_cases c0 : a0 = hibsB
      · subst c0
        by_cases c1 : a1 = name
        · subst c1
          by_cases c4 : a4.length = 32
          · by_cases c3 : a3 = decB (i + 1 : Nat)
            · subst c3
              rw [if_pos (by refine ⟨?_, ?_, ?_, ?_, ?_, c4⟩ <;> first | rfl | trivial)]
              have c4' : (a4.length : Int) = 32 := by omega
              simp (disch := first | omega | (simp only [ZL] <;> omega)) only [Z, Op.callOf, bslE, nilE, mslE, fadE, AV.cells, AV.isBot, AV.one, AV.flat, flatL, ids1, ids2, idsX, AV.lt, ltL, AObj.lt, finE, sevalprocAttr, encT_len, hibs_eq, i64_add1, c4']
              refine callD_pure (rdec_c _ _ (Nat.le_refl _) (by constructor <;> omega)) (by simp [ltL, AV.lt]) ?_
              simp (disch := first | omega | (simp only [ZL] <;> omega)) only [Z, Op.callOf, bslE, nilE, mslE, fadE, AV.cells, AV.isBot, AV.one, AV.flat, flatL, ids1, ids2, idsX, AV.lt, ltL, AObj.lt, finE, sevalprocAttr, c4']
              refine okK_of (by kernel_rfl) ?_
              simp (disch := first | omega | (simp only [ZL] <;> omega)) only [Z, Op.callOf, bslE, nilE, mslE, fadE, AV.cells, AV.isBot, AV.one, AV.flat, flatL, ids1, ids2, idsX, AV.lt, ltL, AObj.lt, finE, sevalprocAttr]
              have hm := texts_mem hT
              have hl2 := hm a2 (by simp)
              have hl5 := hm a5 (by simp)
              have hl6 := hm a6 (by simp)
              refine callL_pure (rint_c a2 (by omega)) (by simp [ltL, AV.lt]) rfl ?_
              cases hz : intS a2 with
              | none =>
                simp (disch := first | omega | (simp only [ZL] <;> omega)) only [Z, Op.callOf, bslE, nilE, mslE, fadE, AV.cells, AV.isBot, AV.one, AV.flat, flatL, ids1, ids2, idsX, AV.lt, ltL, AObj.lt, finE, sevalprocAttr, Option.getD_none, Option.isSome_none]
                refine okK_of (by kernel_rfl) ?_
                simp (disch := first | omega | (simp only [ZL] <;> omega)) only [Z, Op.callOf, bslE, nilE, mslE, fadE, AV.cells, AV.isBot, AV.one, AV.flat, flatL, ids1, ids2, idsX, AV.lt, ltL, AObj.lt, finE, sevalprocAttr]
                exact ⟨Sub.rfl' _, fitR_lt _ _⟩
              | some n =>
                have hn64 := (intS_some hz).1
                unfold i64ok at hn64
                by_cases d0 : n < 0
                · dsimp only
                  rw [if_neg fun h => absurd h.1 (by omega)]
                  simp (disch := first | omega | (simp only [ZL] <;> omega)) only [Z, Op.callOf, bslE, nilE, mslE, fadE, AV.cells, AV.isBot, AV.one, AV.flat, flatL, ids1, ids2, idsX, AV.lt, ltL, AObj.lt, finE, sevalprocAttr, Option.getD_some, Option.isSome_some, d0]
                  refine okK_of (by kernel_rfl) ?_
                  simp (disch := first | omega | (simp only [ZL] <;> omega)) only [Z, Op.callOf, bslE, nilE, mslE, fadE, AV.cells, AV.isBot, AV.one, AV.flat, flatL, ids1, ids2, idsX, AV.lt, ltL, AObj.lt, finE, sevalprocAttr]
                  exact ⟨Sub.rfl' _, fitR_lt _ _⟩
                by_cases d1 : 65536 < n
                · dsimp only
                  rw [if_neg fun h => absurd h.2.1 (by omega)]
                  simp (disch := first | omega | (simp only [ZL] <;> omega)) only [Z, Op.callOf, bslE, nilE, mslE, fadE, AV.cells, AV.isBot, AV.one, AV.flat, flatL, ids1, ids2, idsX, AV.lt, ltL, AObj.lt, finE, sevalprocAttr, Option.getD_some, Option.isSome_some, d0, d1]
                  refine okK_of (by kernel_rfl) ?_
                  simp (disch := first | omega | (simp only [ZL] <;> omega)) only [Z, Op.callOf, bslE, nilE, mslE, fadE, AV.cells, AV.isBot, AV.one, AV.flat, flatL, ids1, ids2, idsX, AV.lt, ltL, AObj.lt, finE, sevalprocAttr]
                  exact ⟨Sub.rfl' _, fitR_lt _ _⟩
                obtain ⟨m, rfl⟩ : ∃ m : Nat, n = m := ⟨n.toNat, by omega⟩
                dsimp only
                rw [Int.toNat_natCast]
                have e2 : (m : Int) + 2 = ((m + 2 : Nat) : Int) := by omega
                by_cases d2 : a6.length = rowsN m
                · have d2' : ((a6.length : Int) = (((m + 2) / 3 : Nat) : Int)) = True := eq_true (by rw [d2]; rfl)
                  by_cases d3 : a5 = sumS a6
                  · rw [if_pos ⟨by omega, by omega, d2, d3⟩]
                    subst d3
                    simp (disch := first | omega | (simp only [ZL] <;> omega)) only [Z, Op.callOf, bslE, nilE, mslE, fadE, AV.cells, AV.isBot, AV.one, AV.flat, flatL, ids1, ids2, idsX, AV.lt, ltL, AObj.lt, finE, sevalprocAttr, Option.getD_some, Option.isSome_some, d0, d1, e2, quo3, d2']
                    refine callD_pure (rsum37_c a6 (by omega)) (by simp [ltL, AV.lt]) ?_
                    simp (disch := first | omega | (simp only [ZL] <;> omega)) only [Z, Op.callOf, bslE, nilE, mslE, fadE, AV.cells, AV.isBot, AV.one, AV.flat, flatL, ids1, ids2, idsX, AV.lt, ltL, AObj.lt, finE, sevalprocAttr]
                    refine okK_of (by kernel_rfl) ?_
                    simp (disch := first | omega | (simp only [ZL] <;> omega)) only [Z, Op.callOf, bslE, nilE, mslE, fadE, AV.cells, AV.isBot, AV.one, AV.flat, flatL, ids1, ids2, idsX, AV.lt, ltL, AObj.lt, finE, sevalprocAttr, i64_add1]
                    refine okK_of (by kernel_rfl) ?_
                    simp (disch := first | omega | (simp only [ZL] <;> omega)) only [Z, Op.callOf, bslE, nilE, mslE, fadE, AV.cells, AV.isBot, AV.one, AV.flat, flatL, ids1, ids2, idsX, AV.lt, ltL, AObj.lt, finE, sevalprocAttr]
                    exact ⟨Sub.rfl' _, fitR_lt _ _⟩
                  · rw [if_neg fun h => d3 h.2.2.2]
                    simp (disch := first | omega | (simp only [ZL] <;> omega)) only [Z, Op.callOf, bslE, nilE, mslE, fadE, AV.cells, AV.isBot, AV.one, AV.flat, flatL, ids1, ids2, idsX, AV.lt, ltL, AObj.lt, finE, sevalprocAttr, Option.getD_some, Option.isSome_some, d0, d1, e2, quo3, d2']
                    refine callD_pure (rsum37_c a6 (by omega)) (by simp [ltL, AV.lt]) ?_
                    simp (disch := first | omega | (simp only [ZL] <;> omega)) only [Z, Op.callOf, bslE, nilE, mslE, fadE, AV.cells, AV.isBot, AV.one, AV.flat, flatL, ids1, ids2, idsX, AV.lt, ltL, AObj.lt, finE, sevalprocAttr, d3]
                    refine okK_of (by kernel_rfl) ?_
                    simp (disch := first | omega | (simp only [ZL] <;> omega)) only [Z, Op.callOf, bslE, nilE, mslE, fadE, AV.cells, AV.isBot, AV.one, AV.flat, flatL, ids1, ids2, idsX, AV.lt, ltL, AObj.lt, finE, sevalprocAttr]
                    exact ⟨Sub.rfl' _, fitR_lt _ _⟩
                · have d2' : ((a6.length : Int) = (((m + 2) / 3 : Nat) : Int)) = False := eq_false (fun h => d2 (by unfold rowsN; omega))
                  rw [if_neg fun h => d2 h.2.2.1]
                  simp (disch := first | omega | (simp only [ZL] <;> omega)) only [Z, Op.callOf, bslE, nilE, mslE, fadE, AV.cells, AV.isBot, AV.one, AV.flat, flatL, ids1, ids2, idsX, AV.lt, ltL, AObj.lt, finE, sevalprocAttr, Option.getD_some, Option.isSome_some, d0, d1, e2, quo3, d2']
                  refine okK_of (by kernel_rfl) ?_
                  simp (disch := first | omega | (simp only [ZL] <;> omega)) only [Z, Op.callOf, bslE, nilE, mslE, fadE, AV.cells, AV.isBot, AV.one, AV.flat, flatL, ids1, ids2, idsX, AV.lt, ltL, AObj.lt, finE, sevalprocAttr]
                  exact ⟨Sub.rfl' _, fitR_lt _ _⟩
            · rw [if_neg fun h => c3 h.2.2.2.2.1]
              simp (disch := first | omega | (simp only [ZL] <;> omega)) only [Z, Op.callOf, bslE, nilE, mslE, fadE, AV.cells, AV.isBot, AV.one, AV.flat, flatL, ids1, ids2, idsX, AV.lt, ltL, AObj.lt, finE, sevalprocAttr, encT_len, hibs_eq, i64_add1]
              refine callD_pure (rdec_c _ _ (Nat.le_refl _) (by constructor <;> omega)) (by simp [ltL, AV.lt]) ?_
              simp (disch := first | omega | (simp only [ZL] <;> omega)) only [Z, Op.callOf, bslE, nilE, mslE, fadE, AV.cells, AV.isBot, AV.one, AV.flat, flatL, ids1, ids2, idsX, AV.lt, ltL, AObj.lt, finE, sevalprocAttr, c3]
              refine okK_of (by kernel_rfl) ?_
              simp (disch := first | omega | (simp only [ZL] <;> omega)) only [Z, Op.callOf, bslE, nilE, mslE, fadE, AV.cells, AV.isBot, AV.one, AV.flat, flatL, ids1, ids2, idsX, AV.lt, ltL, AObj.lt, finE, sevalprocAttr]
              exact ⟨Sub.rfl' _, fitR_lt _ _⟩
          · rw [if_neg fun h => c4 h.2.2.2.2.2]
            have c4' : ¬ (a4.length : Int) = 32 := by omega
            simp (disch := first | omega | (simp only [ZL] <;> omega)) only [Z, Op.callOf, bslE, nilE, mslE, fadE, AV.cells, AV.isBot, AV.one, AV.flat, flatL, ids1, ids2, idsX, AV.lt, ltL, AObj.lt, finE, sevalprocAttr, encT_len, hibs_eq, i64_add1]
            refine callD_pure (rdec_c _ _ (Nat.le_refl _) (by constructor <;> omega)) (by simp [ltL, AV.lt]) ?_
            by_cases c3 : a3 = decB (i + 1 : Nat)
            · subst c3
              simp (disch := first | omega | (simp only [ZL] <;> omega)) only [Z, Op.callOf, bslE, nilE, mslE, fadE, AV.cells, AV.isBot, AV.one, AV.flat, flatL, ids1, ids2, idsX, AV.lt, ltL, AObj.lt, finE, sevalprocAttr, c4']
              refine okK_of (by kernel_rfl) ?_
              simp (disch := first | omega | (simp only [ZL] <;> omega)) only [Z, Op.callOf, bslE, nilE, mslE, fadE, AV.cells, AV.isBot, AV.one, AV.flat, flatL, ids1, ids2, idsX, AV.lt, ltL, AObj.lt, finE, sevalprocAttr]
              exact ⟨Sub.rfl' _, fitR_lt _ _⟩
            · simp (disch := first | omega | (simp only [ZL] <;> omega)) only [Z, Op.callOf, bslE, nilE, mslE, fadE, AV.cells, AV.isBot, AV.one, AV.flat, flatL, ids1, ids2, idsX, AV.lt, ltL, AObj.lt, finE, sevalprocAttr, c3]
              refine okK_of (by kernel_rfl) ?_
              simp (disch := first | omega | (simp only [ZL] <;> omega)) only [Z, Op.callOf, bslE, nilE, mslE, fadE, AV.cells, AV.isBot, AV.one, AV.flat, flatL, ids1, ids2, idsX, AV.lt, ltL, AObj.lt, finE, sevalprocAttr]
              exact ⟨Sub.rfl' _, fitR_lt _ _⟩
        · rw [if_neg fun h => c1 h.2.2.2.1]
          simp (disch := first | omega | (simp only [ZL] <;> omega)) only [Z, Op.callOf, bslE, nilE, mslE, fadE, AV.cells, AV.isBot, AV.one, AV.flat, flatL, ids1, ids2, idsX, AV.lt, ltL, AObj.lt, finE, sevalprocAttr, encT_len, hibs_eq, c1]
          refine okK_of (by kernel_rfl) ?_
          simp (disch := first | omega | (simp only [ZL] <;> omega)) only [Z, Op.callOf, bslE, nilE, mslE, fadE, AV.cells, AV.isBot, AV.one, AV.flat, flatL, ids1, ids2, idsX, AV.lt, ltL, AObj.lt, finE, sevalprocAttr]
          exact ⟨Sub.rfl' _, fitR_lt _ _⟩
      · rw [if_neg fun h => c0 h.2.2.1]
        have c0' : ¬ a0 = [104, 105, 98, 115] := c0
        simp (disch := first | omega | (simp only [ZL] <;> omega)) only [Z, Op.callOf, bslE, nilE, mslE, fadE, AV.cells, AV.isBot, AV.one, AV.flat, flatL, ids1, ids2, idsX, AV.lt, ltL, AObj.lt, finE, sevalprocAttr, encT_len, c0']
        refine okK_of (by kernel_rfl) ?_
        simp (disch := first | omega | (simp only [ZL] <;> omega)) only [Z, Op.callOf, bslE, nilE, mslE, fadE, AV.cells, AV.isBot, AV.one, AV.flat, flatL, ids1, ids2, idsX, AV.lt, ltL, AObj.lt, finE, sevalprocAttr]
        exact ⟨Sub.rfl' _, fitR_lt _ _⟩
    · rw [if_neg (by simp [h7])]
      have h7' : ¬ (l.length : Int) = 7 := by omega
      simp (disch := first | omega | (simp only [ZL] <;> omega)) only [Z, Op.callOf, bslE, nilE, mslE, fadE, AV.cells, AV.isBot, AV.one, AV.flat, flatL, ids1, ids2, idsX, AV.lt, ltL, AObj.lt, finE, sevalprocAttr, encT_len, h7']
      refine okK_of (by kernel_rfl) ?_
      simp (disch := first | omega | (simp only [ZL] <;> omega)) only [Z, Op.callOf, bslE, nilE, mslE, fadE, AV.cells, AV.isBot, AV.one, AV.flat, flatL, ids1, ids2, idsX, AV.lt, ltL, AObj.lt, finE, sevalprocAttr]
      exact ⟨Sub.rfl' _, fitR_lt _ _⟩
  · rw [if_neg (by simp [he])]
    simp (disch := first | omega | (simp only [ZL] <;> omega)) only [Z, Op.callOf, bslE, nilE, mslE, fadE, AV.cells, AV.isBot, AV.one, AV.flat, flatL, ids1, ids2, idsX, AV.lt, ltL, AObj.lt, finE, sevalprocAttr, encT_len, he]
    refine okK_of (by kernel_rfl) ?_
    simp (disch := first | omega | (simp only [ZL] <;> omega)) only [Z, Op.callOf, bslE, nilE, mslE, fadE, AV.cells, AV.isBot, AV.one, AV.flat, flatL, ids1, ids2, idsX, AV.lt, ltL, AObj.lt, finE, sevalprocAttr]
    exact ⟨Sub.rfl' _, fitR_lt _ _⟩
end Go.Ab
