import Derived.Test.YthgmopnabpnicaaGreatDoorZ22
set_option linter.all false
namespace Go.Ab
open Go Go.Proofs
variable [Glob]
set_option maxHeartbeats 1000000
theorem fits_c [LibC] (s name : List UInt8) (i : Nat) (hi : i < 5) (hs : s.length < 2^40) : APure Tryz.prog 61 [.str name, .int .i64 i, .str s] (.tup [.agg (fitP i (fitS s name i)), .bool (fitS s name i).isSome]) := by
  refine apure_fin mixed [88] 400 Tryz.func61 Tryz.ntmps61 Tryz.results61 rfl rfl (by simp) rfl ?_
  have hf : fitS s name i = fitS s name i := rfl
  conv at hf => rhs; unfold fitS
  rw [hf]; clear hf
  simp (disch := first | omega | (simp only [ZL] <;> omega)) only [Z, Op.callOf, bslE, nilE, mslE, fadE, AV.cells, AV.isBot, AV.one, AV.flat, flatL, ids1, ids2, idsX, AV.lt, ltL, AObj.lt, finE, sevalprocAttr]
  refine callL_pure (texts_c s hs) (by simp [ltL, AV.lt]) rfl ?_
  have hT := texts_len s
  generalize textsS s = T at hT ⊢
  obtain ⟨l, e⟩ := T
  dsimp only at hT
  dsimp only
  by_cases he : e = 0
  · subst he
    by_cases h7 : l.length = 7
    · obtain ⟨a0, a1, a2, a3, a4, a5, a6, rfl⟩ := len7 h7
      simp only [List.getD_cons_zero, List.getD_cons_succ, encT, List.map_cons, List.map_nil]
      have ci : 1 + (i : Int) = ((i + 1 : Nat) : Int) := by omega
      by_cases c0 : a0 = hibsB
      · subst c0
        by_cases c1 : a1 = name
        · subst c1
          by_cases c3 : a3 = decB (i + 1 : Nat)
          · subst c3
            by_cases c4 : a4.length = 32
            · have c4' : (a4.length : Int) = 32 := by omega
              rw [if_pos (by refine ⟨?_, ?_, ?_, ?_, ?_, c4⟩ <;> first | rfl | trivial)]
              simp (disch := first | omega | (simp only [ZL] <;> omega)) only [Z, Op.callOf, bslE, nilE, mslE, fadE, AV.cells, AV.isBot, AV.one, AV.flat, flatL, ids1, ids2, idsX, AV.lt, ltL, AObj.lt, finE, sevalprocAttr, encT_len, hibs_eq, i64_add1]
              refine callD_pure (dec_c _ (by constructor <;> omega)) (by simp [ltL, AV.lt]) ?_
              simp (disch := first | omega | (simp only [ZL] <;> omega)) only [Z, Op.callOf, bslE, nilE, mslE, fadE, AV.cells, AV.isBot, AV.one, AV.flat, flatL, ids1, ids2, idsX, AV.lt, ltL, AObj.lt, finE, sevalprocAttr]
              refine okK_of (by kernel_rfl) ?_
              simp (disch := first | omega | (simp only [ZL] <;> omega)) only [Z, Op.callOf, bslE, nilE, mslE, fadE, AV.cells, AV.isBot, AV.one, AV.flat, flatL, ids1, ids2, idsX, AV.lt, ltL, AObj.lt, finE, sevalprocAttr]
              have hm := texts_mem hT
              have hl2 := hm a2 (by simp)
              have hl5 := hm a5 (by simp)
              have hl6 := hm a6 (by simp)
              refine callL_pure (int_c a2 (by omega)) (by simp [ltL, AV.lt]) rfl ?_
              cases hz : intS a2 with
              | none =>
                simp (disch := first | omega | (simp only [ZL] <;> omega)) only [Z, Op.callOf, bslE, nilE, mslE, fadE, AV.cells, AV.isBot, AV.one, AV.flat, flatL, ids1, ids2, idsX, AV.lt, ltL, AObj.lt, finE, sevalprocAttr, Option.getD_none, Option.isSome_none]
                refine okK_of (by kernel_rfl) ?_
                simp (disch := first | omega | (simp only [ZL] <;> omega)) only [Z, Op.callOf, bslE, nilE, mslE, fadE, AV.cells, AV.isBot, AV.one, AV.flat, flatL, ids1, ids2, idsX, AV.lt, ltL, AObj.lt, finE, sevalprocAttr]
                exact ⟨Sub.rfl' _, by simp [ltL, AV.lt, fitP]⟩
              | some n =>
                have hn64 := (intS_some hz).1
                unfold i64ok at hn64
                by_cases d0 : n < 0
                · dsimp only
                  rw [if_neg fun h => absurd h.1 (by omega)]
                  simp (disch := first | omega | (simp only [ZL] <;> omega)) only [Z, Op.callOf, bslE, nilE, mslE, fadE, AV.cells, AV.isBot, AV.one, AV.flat, flatL, ids1, ids2, idsX, AV.lt, ltL, AObj.lt, finE, sevalprocAttr, Option.getD_some, Option.isSome_some, d0]
                  refine okK_of (by kernel_rfl) ?_
                  simp (disch := first | omega | (simp only [ZL] <;> omega)) only [Z, Op.callOf, bslE, nilE, mslE, fadE, AV.cells, AV.isBot, AV.one, AV.flat, flatL, ids1, ids2, idsX, AV.lt, ltL, AObj.lt, finE, sevalprocAttr]
                  exact ⟨Sub.rfl' _, by simp [ltL, AV.lt, fitP]⟩
                by_cases d1 : 65536 < n
                · dsimp only
                  rw [if_neg fun h => absurd h.2.1 (by omega)]
                  simp (disch := first | omega | (simp only [ZL] <;> omega)) only [Z, Op.callOf, bslE, nilE, mslE, fadE, AV.cells, AV.isBot, AV.one, AV.flat, flatL, ids1, ids2, idsX, AV.lt, ltL, AObj.lt, finE, sevalprocAttr, Option.getD_some, Option.isSome_some, d0, d1]
                  refine okK_of (by kernel_rfl) ?_
                  simp (disch := first | omega | (simp only [ZL] <;> omega)) only [Z, Op.callOf, bslE, nilE, mslE, fadE, AV.cells, AV.isBot, AV.one, AV.flat, flatL, ids1, ids2, idsX, AV.lt, ltL, AObj.lt, finE, sevalprocAttr]
                  exact ⟨Sub.rfl' _, by simp [ltL, AV.lt, fitP]⟩
                obtain ⟨m, rfl⟩ : ∃ m : Nat, n = m := ⟨n.toNat, by omega⟩
                dsimp only
                rw [Int.toNat_natCast]
                have e2 : (m : Int) + 2 = ((m + 2 : Nat) : Int) := by omega
                by_cases d2 : a6.length = rowsN m
                · have d2' : ((a6.length : Int) = (((m + 2) / 3 : Nat) : Int)) = True := eq_true (by rw [d2]; rfl)
                  by_cases d3 : a5 = sumS a6
                  · rw [if_pos ⟨by omega, by omega, d2, d3⟩]
                    subst d3
                    simp (disch := first | omega | (simp only [ZL] <;> omega)) only [Z, Op.callOf, bslE, nilE, mslE, fadE, AV.cells, AV.isBot, AV.one, AV.flat, flatL, ids1, ids2, idsX, AV.lt, ltL, AObj.lt, finE, sevalprocAttr, Option.getD_some, Option.isSome_some, d0, d1, c4', e2, quo3, d2']
                    refine callD_pure (sum_c a6 (by omega)) (by simp [ltL, AV.lt]) ?_
                    simp (disch := first | omega | (simp only [ZL] <;> omega)) only [Z, Op.callOf, bslE, nilE, mslE, fadE, AV.cells, AV.isBot, AV.one, AV.flat, flatL, ids1, ids2, idsX, AV.lt, ltL, AObj.lt, finE, sevalprocAttr]
                    refine callD_pure (raw_c _ (sumS_len _)) (by simp [ltL, AV.lt, eB_lt]) ?_
                    simp (disch := first | omega | (simp only [ZL] <;> omega)) only [Z, Op.callOf, bslE, nilE, mslE, fadE, AV.cells, AV.isBot, AV.one, AV.flat, flatL, ids1, ids2, idsX, AV.lt, ltL, AObj.lt, finE, sevalprocAttr]
                    refine okK_of (by kernel_rfl) ?_
                    simp (disch := first | omega | (simp only [ZL] <;> omega)) only [Z, Op.callOf, bslE, nilE, mslE, fadE, AV.cells, AV.isBot, AV.one, AV.flat, flatL, ids1, ids2, idsX, AV.lt, ltL, AObj.lt, finE, sevalprocAttr, i64_add1]
                    refine okK_of (by kernel_rfl) ?_
                    simp (disch := first | omega | (simp only [ZL] <;> omega)) only [Z, Op.callOf, bslE, nilE, mslE, fadE, AV.cells, AV.isBot, AV.one, AV.flat, flatL, ids1, ids2, idsX, AV.lt, ltL, AObj.lt, finE, sevalprocAttr]
                    exact ⟨Sub.rfl' _, by simp [ltL, AV.lt, fitP]⟩
                  · rw [if_neg fun h => d3 h.2.2.2]
                    simp (disch := first | omega | (simp only [ZL] <;> omega)) only [Z, Op.callOf, bslE, nilE, mslE, fadE, AV.cells, AV.isBot, AV.one, AV.flat, flatL, ids1, ids2, idsX, AV.lt, ltL, AObj.lt, finE, sevalprocAttr, Option.getD_some, Option.isSome_some, d0, d1, c4', e2, quo3, d2']
                    refine callD_pure (sum_c a6 (by omega)) (by simp [ltL, AV.lt]) ?_
                    simp (disch := first | omega | (simp only [ZL] <;> omega)) only [Z, Op.callOf, bslE, nilE, mslE, fadE, AV.cells, AV.isBot, AV.one, AV.flat, flatL, ids1, ids2, idsX, AV.lt, ltL, AObj.lt, finE, sevalprocAttr]
                    refine callD_pure (raw_c _ (sumS_len _)) (by simp [ltL, AV.lt, eB_lt]) ?_
                    simp (disch := first | omega | (simp only [ZL] <;> omega)) only [Z, Op.callOf, bslE, nilE, mslE, fadE, AV.cells, AV.isBot, AV.one, AV.flat, flatL, ids1, ids2, idsX, AV.lt, ltL, AObj.lt, finE, sevalprocAttr, d3]
                    refine okK_of (by kernel_rfl) ?_
                    simp (disch := first | omega | (simp only [ZL] <;> omega)) only [Z, Op.callOf, bslE, nilE, mslE, fadE, AV.cells, AV.isBot, AV.one, AV.flat, flatL, ids1, ids2, idsX, AV.lt, ltL, AObj.lt, finE, sevalprocAttr]
                    exact ⟨Sub.rfl' _, by simp [ltL, AV.lt, fitP]⟩
                · have d2' : ((a6.length : Int) = (((m + 2) / 3 : Nat) : Int)) = False := eq_false (fun h => d2 (by unfold rowsN; omega))
                  rw [if_neg fun h => d2 h.2.2.1]
                  simp (disch := first | omega | (simp only [ZL] <;> omega)) only [Z, Op.callOf, bslE, nilE, mslE, fadE, AV.cells, AV.isBot, AV.one, AV.flat, flatL, ids1, ids2, idsX, AV.lt, ltL, AObj.lt, finE, sevalprocAttr, Option.getD_some, Option.isSome_some, d0, d1, c4', e2, quo3, d2']
                  refine okK_of (by kernel_rfl) ?_
                  simp (disch := first | omega | (simp only [ZL] <;> omega)) only [Z, Op.callOf, bslE, nilE, mslE, fadE, AV.cells, AV.isBot, AV.one, AV.flat, flatL, ids1, ids2, idsX, AV.lt, ltL, AObj.lt, finE, sevalprocAttr]
                  exact ⟨Sub.rfl' _, by simp [ltL, AV.lt, fitP]⟩
            · have c4' : ¬ (a4.length : Int) = 32 := by omega
              rw [if_neg fun h => c4 h.2.2.2.2.2]
              simp (disch := first | omega | (simp only [ZL] <;> omega)) only [Z, Op.callOf, bslE, nilE, mslE, fadE, AV.cells, AV.isBot, AV.one, AV.flat, flatL, ids1, ids2, idsX, AV.lt, ltL, AObj.lt, finE, sevalprocAttr, encT_len, hibs_eq, i64_add1]
              refine callD_pure (dec_c _ (by constructor <;> omega)) (by simp [ltL, AV.lt]) ?_
              simp (disch := first | omega | (simp only [ZL] <;> omega)) only [Z, Op.callOf, bslE, nilE, mslE, fadE, AV.cells, AV.isBot, AV.one, AV.flat, flatL, ids1, ids2, idsX, AV.lt, ltL, AObj.lt, finE, sevalprocAttr]
              refine okK_of (by kernel_rfl) ?_
              simp (disch := first | omega | (simp only [ZL] <;> omega)) only [Z, Op.callOf, bslE, nilE, mslE, fadE, AV.cells, AV.isBot, AV.one, AV.flat, flatL, ids1, ids2, idsX, AV.lt, ltL, AObj.lt, finE, sevalprocAttr]
              have hm := texts_mem hT
              have hl2 := hm a2 (by simp)
              refine callL_pure (int_c a2 (by omega)) (by simp [ltL, AV.lt]) rfl ?_
              cases hz : intS a2 with
              | none =>
                simp (disch := first | omega | (simp only [ZL] <;> omega)) only [Z, Op.callOf, bslE, nilE, mslE, fadE, AV.cells, AV.isBot, AV.one, AV.flat, flatL, ids1, ids2, idsX, AV.lt, ltL, AObj.lt, finE, sevalprocAttr, Option.getD_none, Option.isSome_none]
                refine okK_of (by kernel_rfl) ?_
                simp (disch := first | omega | (simp only [ZL] <;> omega)) only [Z, Op.callOf, bslE, nilE, mslE, fadE, AV.cells, AV.isBot, AV.one, AV.flat, flatL, ids1, ids2, idsX, AV.lt, ltL, AObj.lt, finE, sevalprocAttr]
                exact ⟨Sub.rfl' _, by simp [ltL, AV.lt, fitP]⟩
              | some n =>
                have hn64 := (intS_some hz).1
                unfold i64ok at hn64
                by_cases d0 : n < 0
                · simp (disch := first | omega | (simp only [ZL] <;> omega)) only [Z, Op.callOf, bslE, nilE, mslE, fadE, AV.cells, AV.isBot, AV.one, AV.flat, flatL, ids1, ids2, idsX, AV.lt, ltL, AObj.lt, finE, sevalprocAttr, Option.getD_some, Option.isSome_some, d0]
                  refine okK_of (by kernel_rfl) ?_
                  simp (disch := first | omega | (simp only [ZL] <;> omega)) only [Z, Op.callOf, bslE, nilE, mslE, fadE, AV.cells, AV.isBot, AV.one, AV.flat, flatL, ids1, ids2, idsX, AV.lt, ltL, AObj.lt, finE, sevalprocAttr]
                  exact ⟨Sub.rfl' _, by simp [ltL, AV.lt, fitP]⟩
                by_cases d1 : 65536 < n
                · simp (disch := first | omega | (simp only [ZL] <;> omega)) only [Z, Op.callOf, bslE, nilE, mslE, fadE, AV.cells, AV.isBot, AV.one, AV.flat, flatL, ids1, ids2, idsX, AV.lt, ltL, AObj.lt, finE, sevalprocAttr, Option.getD_some, Option.isSome_some, d0, d1]
                  refine okK_of (by kernel_rfl) ?_
                  simp (disch := first | omega | (simp only [ZL] <;> omega)) only [Z, Op.callOf, bslE, nilE, mslE, fadE, AV.cells, AV.isBot, AV.one, AV.flat, flatL, ids1, ids2, idsX, AV.lt, ltL, AObj.lt, finE, sevalprocAttr]
                  exact ⟨Sub.rfl' _, by simp [ltL, AV.lt, fitP]⟩
                simp (disch := first | omega | (simp only [ZL] <;> omega)) only [Z, Op.callOf, bslE, nilE, mslE, fadE, AV.cells, AV.isBot, AV.one, AV.flat, flatL, ids1, ids2, idsX, AV.lt, ltL, AObj.lt, finE, sevalprocAttr, Option.getD_some, Option.isSome_some, d0, d1, c4']
                refine okK_of (by kernel_rfl) ?_
                simp (disch := first | omega | (simp only [ZL] <;> omega)) only [Z, Op.callOf, bslE, nilE, mslE, fadE, AV.cells, AV.isBot, AV.one, AV.flat, flatL, ids1, ids2, idsX, AV.lt, ltL, AObj.lt, finE, sevalprocAttr]
                exact ⟨Sub.rfl' _, by simp [ltL, AV.lt, fitP]⟩
          · rw [if_neg fun h => c3 h.2.2.2.2.1]
            simp (disch := first | omega | (simp only [ZL] <;> omega)) only [Z, Op.callOf, bslE, nilE, mslE, fadE, AV.cells, AV.isBot, AV.one, AV.flat, flatL, ids1, ids2, idsX, AV.lt, ltL, AObj.lt, finE, sevalprocAttr, encT_len, hibs_eq, i64_add1]
            refine callD_pure (dec_c _ (by constructor <;> omega)) (by simp [ltL, AV.lt]) ?_
            simp (disch := first | omega | (simp only [ZL] <;> omega)) only [Z, Op.callOf, bslE, nilE, mslE, fadE, AV.cells, AV.isBot, AV.one, AV.flat, flatL, ids1, ids2, idsX, AV.lt, ltL, AObj.lt, finE, sevalprocAttr, c3]
            refine okK_of (by kernel_rfl) ?_
            simp (disch := first | omega | (simp only [ZL] <;> omega)) only [Z, Op.callOf, bslE, nilE, mslE, fadE, AV.cells, AV.isBot, AV.one, AV.flat, flatL, ids1, ids2, idsX, AV.lt, ltL, AObj.lt, finE, sevalprocAttr]
            exact ⟨Sub.rfl' _, by simp [ltL, AV.lt, fitP]⟩
        · rw [if_neg fun h => c1 h.2.2.2.1]
          simp (disch := first | omega | (simp only [ZL] <;> omega)) only [Z, Op.callOf, bslE, nilE, mslE, fadE, AV.cells, AV.isBot, AV.one, AV.flat, flatL, ids1, ids2, idsX, AV.lt, ltL, AObj.lt, finE, sevalprocAttr, encT_len, hibs_eq, c1]
          refine okK_of (by kernel_rfl) ?_
          simp (disch := first | omega | (simp only [ZL] <;> omega)) only [Z, Op.callOf, bslE, nilE, mslE, fadE, AV.cells, AV.isBot, AV.one, AV.flat, flatL, ids1, ids2, idsX, AV.lt, ltL, AObj.lt, finE, sevalprocAttr]
          exact ⟨Sub.rfl' _, by simp [ltL, AV.lt, fitP]⟩
      · rw [if_neg fun h => c0 h.2.2.1]
        have c0' : ¬ a0 = [104, 105, 98, 115] := c0
        simp (disch := first | omega | (simp only [ZL] <;> omega)) only [Z, Op.callOf, bslE, nilE, mslE, fadE, AV.cells, AV.isBot, AV.one, AV.flat, flatL, ids1, ids2, idsX, AV.lt, ltL, AObj.lt, finE, sevalprocAttr, encT_len, c0']
        refine okK_of (by kernel_rfl) ?_
        simp (disch := first | omega | (simp only [ZL] <;> omega)) only [Z, Op.callOf, bslE, nilE, mslE, fadE, AV.cells, AV.isBot, AV.one, AV.flat, flatL, ids1, ids2, idsX, AV.lt, ltL, AObj.lt, finE, sevalprocAttr]
        exact ⟨Sub.rfl' _, by simp [ltL, AV.lt, fitP]⟩
    · rw [if_neg (by simp [h7])]
      have h7' : ¬ (l.length : Int) = 7 := by omega
      simp (disch := first | omega | (simp only [ZL] <;> omega)) only [Z, Op.callOf, bslE, nilE, mslE, fadE, AV.cells, AV.isBot, AV.one, AV.flat, flatL, ids1, ids2, idsX, AV.lt, ltL, AObj.lt, finE, sevalprocAttr, encT_len, h7']
      refine okK_of (by kernel_rfl) ?_
      simp (disch := first | omega | (simp only [ZL] <;> omega)) only [Z, Op.callOf, bslE, nilE, mslE, fadE, AV.cells, AV.isBot, AV.one, AV.flat, flatL, ids1, ids2, idsX, AV.lt, ltL, AObj.lt, finE, sevalprocAttr]
      exact ⟨Sub.rfl' _, by simp [ltL, AV.lt, fitP]⟩
  · rw [if_neg (by simp [he])]
    simp (disch := first | omega | (simp only [ZL] <;> omega)) only [Z, Op.callOf, bslE, nilE, mslE, fadE, AV.cells, AV.isBot, AV.one, AV.flat, flatL, ids1, ids2, idsX, AV.lt, ltL, AObj.lt, finE, sevalprocAttr, encT_len, he]
    refine okK_of (by kernel_rfl) ?_
    simp (disch := first | omega | (simp only [ZL] <;> omega)) only [Z, Op.callOf, bslE, nilE, mslE, fadE, AV.cells, AV.isBot, AV.one, AV.flat, flatL, ids1, ids2, idsX, AV.lt, ltL, AObj.lt, finE, sevalprocAttr]
    exact ⟨Sub.rfl' _, by simp [ltL, AV.lt, fitP]⟩
end Go.Ab
namespace Go.Ab
open Go Go.Proofs
/-- shelf, size, sum, bytes -/
abbrev FT := Nat × Nat × List UInt8 × List UInt8
def FTok (f : FT) : Prop := f.1 < 5 ∧ f.2.1 ≤ 65536 ∧ f.2.2.1.length = 32 ∧ f.2.2.2.length = rowsN f.2.1
def encF (f : FT) : List AV := fitP f.1 (some f.2)
def sameF (x y z : FT) : Prop := x.2.1 = y.2.1 ∧ x.2.1 = z.2.1 ∧ x.2.2.1 = y.2.2.1 ∧ x.2.2.1 = z.2.2.1
instance (x y z : FT) : Decidable (sameF x y z) := inferInstanceAs (Decidable (_ ∧ _ ∧ _ ∧ _))
def joinT (x y z : FT) : List UInt8 := if sameF x y z then joinS (x.1 + 1) (y.1 + 1) (z.1 + 1) x.2.2.2 y.2.2.2 z.2.2.2 x.2.1 else []
def joinF (x y z : FT) : Option (List UInt8) := if sameF x y z ∧ sumS (joinT x y z) = x.2.2.1 then some (joinT x y z) else none
def sing (x y : FT) : List FT → Option (List UInt8)
  | [] => none
  | z :: l => (joinF x y z).or (sing x y l)
def pairs (x : FT) : List FT → Option (List UInt8)
  | [] => none
  | y :: l => (sing x y l).or (pairs x l)
def tri : List FT → Option (List UInt8)
  | [] => none
  | x :: l => (pairs x l).or (tri l)
def joinO : Option FT → Option FT → Option FT → Option (List UInt8)
  | some x, some y, some z => joinF x y z
  | _, _, _ => none
theorem joinO_1 (y z : Option FT) : joinO none y z = none := rfl
theorem joinO_2 (x z : Option FT) : joinO x none z = none := by cases x <;> rfl
theorem joinO_3 (x y : Option FT) : joinO x y none = none := by cases x <;> cases y <;> rfl
def singO (x y : Option FT) : List (Option FT) → Option (List UInt8)
  | [] => none
  | z :: l => (joinO x y z).or (singO x y l)
def pairsO (x : Option FT) : List (Option FT) → Option (List UInt8)
  | [] => none
  | y :: l => (singO x y l).or (pairsO x l)
def triO : List (Option FT) → Option (List UInt8)
  | [] => none
  | x :: l => (pairsO x l).or (triO l)
theorem singO_none1 (y : Option FT) : ∀ l, singO none y l = none
  | [] => rfl
  | z :: l => by simp [singO, joinO_1, singO_none1 y l]
theorem singO_none2 (x : Option FT) : ∀ l, singO x none l = none
  | [] => rfl
  | z :: l => by simp [singO, joinO_2, singO_none2 _ l]
theorem singO_some (x y : FT) : ∀ l, singO (some x) (some y) l = sing x y (l.filterMap id)
  | [] => rfl
  | none :: l => by simp [singO, joinO_3, singO_some x y l]
  | some z :: l => by simp [singO, joinO, sing, singO_some x y l]
theorem pairsO_none : ∀ l, pairsO none l = none
  | [] => rfl
  | y :: l => by simp [pairsO, singO_none1, pairsO_none l]
theorem pairsO_some (x : FT) : ∀ l, pairsO (some x) l = pairs x (l.filterMap id)
  | [] => rfl
  | none :: l => by simp [pairsO, singO_none2, pairsO_some x l]
  | some z :: l => by simp [pairsO, pairs, singO_some, pairsO_some x l]
theorem triO_eq : ∀ l, triO l = tri (l.filterMap id)
  | [] => rfl
  | none :: l => by simp [triO, pairsO_none, triO_eq l]
  | some z :: l => by simp [triO, tri, pairsO_some, triO_eq l]
theorem joinS_len (i1 i2 i3 : Nat) (d1 d2 d3 : List UInt8) (size : Nat) : (joinS i1 i2 i3 d1 d2 d3 size).length ≤ size := by simp [joinS]; omega
theorem parts_of {x y z : FT} (hx : FTok x) (hy : FTok y) (hz : FTok z) (h1 : x.1 < y.1) (h2 : y.1 < z.1) (hs : sameF x y z) : PartsOK [(x.1 + 1, x.2.2.2), (y.1 + 1, y.2.2.2), (z.1 + 1, z.2.2.2)] (rowsN x.2.1) := by
  obtain ⟨a1, a2, a3, a4⟩ := hx
  obtain ⟨b1, b2, b3, b4⟩ := hy
  obtain ⟨c1, c2, c3, c4⟩ := hz
  obtain ⟨s1, s2, s3, s4⟩ := hs
  refine ⟨rfl, fun k h => ?_, fun j k hj hk hjk => ?_⟩
  · match k, h with
    | 0, _ => exact ⟨by simp, by simp; omega, a4⟩
    | 1, _ => exact ⟨by simp, by simp; omega, by simp [b4, s1]⟩
    | 2, _ => exact ⟨by simp, by simp; omega, by simp [c4, s2]⟩
  · match j, k, hj, hk, hjk with
    | 0, 1, _, _, _ => simp; omega
    | 0, 2, _, _, _ => simp; omega
    | 1, 2, _, _, _ => simp; omega
    | j + 2, k, hj, hk, hjk => simp at hk; omega
variable [Glob]
set_option maxHeartbeats 1000000

theorem sjoin_c [LibB] [LibC] (x y z : FT) (hx : FTok x) (hy : FTok y) (hz : FTok z) (h1 : x.1 < y.1) (h2 : y.1 < z.1) :
    APure Tryz.prog 62 [.agg (encF x), .agg (encF y), .agg (encF z)] (.tup [.str (joinT x y z), .bool (joinF x y z).isSome]) := by
  refine apure_fin mixed [43, 54] 400 Tryz.func62 Tryz.ntmps62 Tryz.results62 rfl rfl (by simp) rfl ?_
  have hp := parts_of hx hy hz h1 h2
  obtain ⟨i1, n1, s1, d1⟩ := x
  obtain ⟨i2, n2, s2, d2⟩ := y
  obtain ⟨i3, n3, s3, d3⟩ := z
  obtain ⟨a1, a2, a3, a4⟩ := hx
  simp only [encF, fitP, sameF] at *
  unfold joinT joinF
  by_cases c1 : n1 = n2
  · subst c1
    by_cases c2 : n1 = n3
    · subst c2
      by_cases c3 : s1 = s2
      · subst c3
        by_cases c4 : s1 = s3
        · subst c4
          have hs : sameF (i1, n1, s1, d1) (i2, n1, s1, d2) (i3, n1, s1, d3) := ⟨rfl, rfl, rfl, rfl⟩
          unfold joinT
          rw [if_pos hs]
          simp (disch := first | omega | (simp only [ZL] <;> omega)) only [Z, Op.callOf, bslE, nilE, mslE, fadE, AV.cells, AV.isBot, AV.one, AV.flat, flatL, ids1, ids2, idsX, AV.lt, ltL, AObj.lt, finE, sevalprocAttr]
          have hj := join_c _ (i1 + 1) (i2 + 1) (i3 + 1) d1 d2 d3 n1 a2 rfl (hp ⟨rfl, rfl, rfl, rfl⟩)
          refine callL_pure hj (by simp [ltL, AV.lt]) rfl ?_
          have hl := joinS_len (i1 + 1) (i2 + 1) (i3 + 1) d1 d2 d3 n1
          generalize joinS (i1 + 1) (i2 + 1) (i3 + 1) d1 d2 d3 n1 = s at *
          simp (disch := first | omega | (simp only [ZL] <;> omega)) only [Z, Op.callOf, bslE, nilE, mslE, fadE, AV.cells, AV.isBot, AV.one, AV.flat, flatL, ids1, ids2, idsX, AV.lt, ltL, AObj.lt, finE, sevalprocAttr]
          refine callD_pure (sum_c s (by omega)) (by simp [ltL, AV.lt]) ?_
          simp (disch := first | omega | (simp only [ZL] <;> omega)) only [Z, Op.callOf, bslE, nilE, mslE, fadE, AV.cells, AV.isBot, AV.one, AV.flat, flatL, ids1, ids2, idsX, AV.lt, ltL, AObj.lt, finE, sevalprocAttr]
          refine callD_pure (raw_c _ (sumS_len _)) (by simp [ltL, AV.lt, eB_lt]) ?_
          by_cases c5 : sumS s = s1
          · rw [if_pos ⟨hs, c5⟩]
            simp (disch := first | omega | (simp only [ZL] <;> omega)) only [Z, Op.callOf, bslE, nilE, mslE, fadE, AV.cells, AV.isBot, AV.one, AV.flat, flatL, ids1, ids2, idsX, AV.lt, ltL, AObj.lt, finE, sevalprocAttr, c5]
            refine okK_of (by kernel_rfl) ?_
            simp (disch := first | omega | (simp only [ZL] <;> omega)) only [Z, Op.callOf, bslE, nilE, mslE, fadE, AV.cells, AV.isBot, AV.one, AV.flat, flatL, ids1, ids2, idsX, AV.lt, ltL, AObj.lt, finE, sevalprocAttr]
            repeat' first | exact Sub.rfl' _ | exact sub_nils _ | exact SubL.nil | refine sub_tup ?_ | refine sub_agg ?_ | refine SubL.cons ?_ ?_
          · rw [if_neg fun h => c5 h.2]
            simp (disch := first | omega | (simp only [ZL] <;> omega)) only [Z, Op.callOf, bslE, nilE, mslE, fadE, AV.cells, AV.isBot, AV.one, AV.flat, flatL, ids1, ids2, idsX, AV.lt, ltL, AObj.lt, finE, sevalprocAttr, c5]
            refine okK_of (by kernel_rfl) ?_
            simp (disch := first | omega | (simp only [ZL] <;> omega)) only [Z, Op.callOf, bslE, nilE, mslE, fadE, AV.cells, AV.isBot, AV.one, AV.flat, flatL, ids1, ids2, idsX, AV.lt, ltL, AObj.lt, finE, sevalprocAttr]
            repeat' first | exact Sub.rfl' _ | exact sub_nils _ | exact SubL.nil | refine sub_tup ?_ | refine sub_agg ?_ | refine SubL.cons ?_ ?_
        · have hs : ¬ sameF (i1, n1, s1, d1) (i2, n1, s1, d2) (i3, n1, s3, d3) := fun h => c4 h.2.2.2
          rw [if_neg hs, if_neg fun h => hs h.1]
          simp (disch := first | omega | (simp only [ZL] <;> omega)) only [Z, Op.callOf, bslE, nilE, mslE, fadE, AV.cells, AV.isBot, AV.one, AV.flat, flatL, ids1, ids2, idsX, AV.lt, ltL, AObj.lt, finE, sevalprocAttr, c4]
          repeat' first | exact Sub.rfl' _ | exact sub_nils _ | exact SubL.nil | refine sub_tup ?_ | refine sub_agg ?_ | refine SubL.cons ?_ ?_
      · have hs : ¬ sameF (i1, n1, s1, d1) (i2, n1, s2, d2) (i3, n1, s3, d3) := fun h => c3 h.2.2.1
        rw [if_neg hs, if_neg fun h => hs h.1]
        simp (disch := first | omega | (simp only [ZL] <;> omega)) only [Z, Op.callOf, bslE, nilE, mslE, fadE, AV.cells, AV.isBot, AV.one, AV.flat, flatL, ids1, ids2, idsX, AV.lt, ltL, AObj.lt, finE, sevalprocAttr, c3]
        repeat' first | exact Sub.rfl' _ | exact sub_nils _ | exact SubL.nil | refine sub_tup ?_ | refine sub_agg ?_ | refine SubL.cons ?_ ?_
    · have c2' : ¬ (n1 : Int) = n3 := by omega
      have hs : ¬ sameF (i1, n1, s1, d1) (i2, n1, s2, d2) (i3, n3, s3, d3) := fun h => c2 h.2.1
      rw [if_neg hs, if_neg fun h => hs h.1]
      simp (disch := first | omega | (simp only [ZL] <;> omega)) only [Z, Op.callOf, bslE, nilE, mslE, fadE, AV.cells, AV.isBot, AV.one, AV.flat, flatL, ids1, ids2, idsX, AV.lt, ltL, AObj.lt, finE, sevalprocAttr, c2']
      repeat' first | exact Sub.rfl' _ | exact sub_nils _ | exact SubL.nil | refine sub_tup ?_ | refine sub_agg ?_ | refine SubL.cons ?_ ?_
  · have c1' : ¬ (n1 : Int) = n2 := by omega
    have hs : ¬ sameF (i1, n1, s1, d1) (i2, n2, s2, d2) (i3, n3, s3, d3) := fun h => c1 h.1
    rw [if_neg hs, if_neg fun h => hs h.1]
    simp (disch := first | omega | (simp only [ZL] <;> omega)) only [Z, Op.callOf, bslE, nilE, mslE, fadE, AV.cells, AV.isBot, AV.one, AV.flat, flatL, ids1, ids2, idsX, AV.lt, ltL, AObj.lt, finE, sevalprocAttr, c1']
    repeat' first | exact Sub.rfl' _ | exact sub_nils _ | exact SubL.nil | refine sub_tup ?_ | refine sub_agg ?_ | refine SubL.cons ?_ ?_
end Go.Ab
namespace Go.Ab
open Go Go.Proofs
noncomputable def toldF (name : List UInt8) (k : Nat) (t : Told) : Option FT := if t.err = 0 then (fitS t.data name k).map fun p => (k, p) else none
noncomputable def fitsN (name : List UInt8) (l : List Told) (n : Nat) : List (Option FT) := (List.range n).map fun k => toldF name k (l.getD k Told.z)
noncomputable def partsN (name : List UInt8) (l : List Told) (n : Nat) : List FT := (fitsN name l n).filterMap id
noncomputable def rdR (name : List UInt8) (l : List Told) : List UInt8 × Int := match tri (partsN name l 5) with | some s => (s, 0) | none => ([], lostS l)
noncomputable def rdS (s : Store) (name : List UInt8) : Store × List UInt8 × Int :=
  if namedS name = false then (s, [], 7) else ((fiveS (getF name) s).1, rdR name (fiveS (getF name) s).2)
def encFs (l : List FT) : List (List AV) := l.map encF
theorem encFs_len (l : List FT) : (encFs l).length = l.length := by simp [encFs]
theorem encFs_at (l : List FT) (k : Nat) (h : k < l.length) : (encFs l).getD k [] = encF l[k] := by simp [encFs, List.getD, h]
theorem encF_len (f : FT) : (encF f).length = 4 := rfl
theorem encF_take (f : FT) : (encF f).take 4 = encF f := rfl
theorem encF_lt (f : FT) {n : Nat} : ltL n (encF f) := ⟨trivial, trivial, trivial, trivial, trivial⟩
theorem fitS_ok {s name : List UInt8} {i : Nat} {p : Nat × List UInt8 × List UInt8} (h : fitS s name i = some p) (hi : i < 5) : FTok (i, p) := by
  unfold fitS at h
  split at h
  · rename_i hc
    split at h
    · rename_i n hz
      split at h
      · rename_i hd
        cases h
        refine ⟨hi, ?_, hc.2.2.2.2.2, hd.2.2.1⟩
        show n.toNat ≤ 65536
        omega
      · cases h
    · cases h
  · cases h
theorem toldF_ok {name : List UInt8} {k : Nat} {t : Told} {f : FT} (h : toldF name k t = some f) (hk : k < 5) : FTok f ∧ f.1 = k := by
  unfold toldF at h
  split at h
  · cases hf : fitS t.data name k with
    | none => rw [hf] at h; cases h
    | some p => rw [hf] at h; cases h; exact ⟨fitS_ok hf hk, rfl⟩
  · cases h
theorem fitsN_succ (name : List UInt8) (l : List Told) (n : Nat) : fitsN name l (n + 1) = fitsN name l n ++ [toldF name n (l.getD n Told.z)] := range_succ_map _ _
theorem partsN_succ (name : List UInt8) (l : List Told) (n : Nat) : partsN name l (n + 1) = partsN name l n ++ (toldF name n (l.getD n Told.z)).toList := by
  unfold partsN
  rw [fitsN_succ, List.filterMap_append]
  congr 1
theorem partsN_ok (name : List UInt8) (l : List Told) : ∀ n, n ≤ 5 → (∀ f ∈ partsN name l n, FTok f ∧ f.1 < n) ∧ (partsN name l n).Pairwise (fun a b => a.1 < b.1) ∧ (partsN name l n).length ≤ n
  | 0, _ => ⟨fun f hf => (List.not_mem_nil hf).elim, List.Pairwise.nil, Nat.le_refl _⟩
  | n + 1, h => by
    obtain ⟨h1, h2, h3⟩ := partsN_ok name l n (by omega)
    rw [partsN_succ]
    refine ⟨fun f hf => ?_, List.pairwise_append.2 ⟨h2, ?_, fun a ha b hb => ?_⟩, ?_⟩
    · rcases List.mem_append.1 hf with h4 | h4
      · exact ⟨(h1 f h4).1, by have := (h1 f h4).2; omega⟩
      · obtain ⟨h5, h6⟩ := toldF_ok (Option.mem_toList.1 h4) (by omega)
        exact ⟨h5, by omega⟩
    · cases toldF name n (l.getD n Told.z) <;> simp
    · obtain ⟨h5, h6⟩ := toldF_ok (Option.mem_toList.1 hb) (by omega)
      have := (h1 a ha).2
      omega
    · rw [List.length_append]
      have : (toldF name n (l.getD n Told.z)).toList.length ≤ 1 := by cases toldF name n (l.getD n Told.z) <;> simp
      omega
variable [Glob]
set_option maxHeartbeats 1000000

theorem read37_c [LibB] [LibC] (s : Store) (name : List UInt8) (hl : lok s) (hs : Small s) (hd : ∀ t ∈ (fiveS (getF name) s).2, t.data.length < 2^40) :
    APure Tryz.prog 35 [.agg s.av, .str name] (.tup [.agg (rdS s name).1.av, .str (rdS s name).2.1, .int .i64 (rdS s name).2.2]) := by
  refine apure_fin mixed [] 400 Tryz.func35 Tryz.ntmps35 Tryz.results35 rfl rfl (by simp) rfl ?_
  simp (disch := first | omega | (simp only [ZL, store_len, shelf_len] <;> omega)) only [Z, Op.callOf, bslE, nilE, mslE, fadE, AV.cells, AV.isBot, AV.one, AV.flat, flatL, ids1, ids2, idsX, AV.lt, ltL, AObj.lt, finE, sevalprocAttr, frzM_store, frzM_shelf, shelf_len, shelf_one, shelf_flat, shelf_lt, shelf_take, shelf_set0, store_len, store_one, store_flat, store_lt, store_left, store_setl, store_get, store_set, store_take, store_set0]
  refine callL_pure (look_c name 0) (by simp [ltL, AV.lt, store_lt, shelf_lt]) rfl ?_
  cases c : namedS name
  · simp (disch := first | omega | (simp only [ZL, store_len, shelf_len] <;> omega)) only [Z, Op.callOf, bslE, nilE, mslE, fadE, AV.cells, AV.isBot, AV.one, AV.flat, flatL, ids1, ids2, idsX, AV.lt, ltL, AObj.lt, finE, sevalprocAttr, frzM_store, frzM_shelf, shelf_len, shelf_one, shelf_flat, shelf_lt, shelf_take, shelf_set0, store_len, store_one, store_flat, store_lt, store_left, store_setl, store_get, store_set, store_take, store_set0, c]
    simp only [rdS, c, if_true]
    repeat' first | exact Sub.rfl' _ | exact sub_nils _ | exact SubL.nil | refine sub_tup ?_ | refine sub_agg ?_ | refine SubL.cons ?_ ?_
  simp (disch := first | omega | (simp only [ZL, store_len, shelf_len] <;> omega)) only [Z, Op.callOf, bslE, nilE, mslE, fadE, AV.cells, AV.isBot, AV.one, AV.flat, flatL, ids1, ids2, idsX, AV.lt, ltL, AObj.lt, finE, sevalprocAttr, frzM_store, frzM_shelf, shelf_len, shelf_one, shelf_flat, shelf_lt, shelf_take, shelf_set0, store_len, store_one, store_flat, store_lt, store_left, store_setl, store_get, store_set, store_take, store_set0, c, Bool.true_eq_false]
  refine callL_pure (sget_c s name hl hs) (by simp [ltL, AV.lt, store_lt, shelf_lt]) rfl ?_
  have hll := five_len (getF name) 5 0 s []
  simp only [rdS, c, Bool.true_eq_false, if_false]
  change (fiveS (getF name) s).2.length = 5 at hll
  generalize fiveS (getF name) s = q at hll hd ⊢
  obtain ⟨s', l⟩ := q
  dsimp only at hll hd ⊢
  simp (disch := first | omega | (simp only [ZL, store_len, shelf_len] <;> omega)) only [Z, Op.callOf, bslE, nilE, mslE, fadE, AV.cells, AV.isBot, AV.one, AV.flat, flatL, ids1, ids2, idsX, AV.lt, ltL, AObj.lt, finE, sevalprocAttr, frzM_store, frzM_shelf, shelf_len, shelf_one, shelf_flat, shelf_lt, shelf_take, shelf_set0, store_len, store_one, store_flat, store_lt, store_left, store_setl, store_get, store_set, store_take, store_set0, pv5_len, pv5_take, pv5_set0, pv5_get, pav_one, pav_lt, frzM_pav, pav_len, pav1_one]
  refine loopG_row0 4 10 rfl ?_
  simp (disch := first | omega | (simp only [ZL] <;> omega)) only [Z, Op.callOf, bslE, nilE, mslE, fadE, AV.cells, AV.isBot, AV.one, AV.flat, flatL, ids1, ids2, idsX, AV.lt, ltL, AObj.lt, finE, sevalprocAttr]
  refine loopF mixed (fun k : Nat => mk [(1, .str name), (2, .ptr 0 0), (4, .ptr 1 0), (8, .ptr 14 0), (9, .bool (l.any Told.gone)), (10, .row 21 (partsN name l k).length 0 (partsN name l k).length), (33, .agg (l.flatMap Told.pav)), (34, .int .i64 k)]
      [(0, .box s'.av), (1, .box [.nils, .nils, .nils, .nils, .nils, .nils, .nils, .nils, .nils, .nils, .int .i64 0]), (14, .box (l.flatMap Told.pav)), (21, .row 4 (partsN name l k).length (encFs (partsN name l k)))] 22)
    (fun k => k ≤ 5) (fun k => 5 - k) 0 400 rfl rfl (by omega) ?_ ?_
  · refine less_mk (by simp) (by simp) ?_ ?_ <;> simp (disch := first | omega | (simp only [ZL, store_len, shelf_len] <;> omega)) only [Z, Op.callOf, bslE, nilE, mslE, fadE, AV.cells, AV.isBot, AV.one, AV.flat, flatL, ids1, ids2, idsX, AV.lt, ltL, AObj.lt, finE, sevalprocAttr, frzM_store, frzM_shelf, shelf_len, shelf_one, shelf_flat, shelf_lt, shelf_take, shelf_set0, store_len, store_one, store_flat, store_lt, store_left, store_setl, store_get, store_set, store_take, store_set0, pv5_len, pv5_take, pv5_set0, pv5_get, pav_one, pav_lt, frzM_pav, pav_len, pav1_one, partsN, fitsN, List.range_zero, List.map_nil, List.filterMap_nil, List.length_nil, encFs]
  intro k hk
  have hpl := (partsN_ok name l k hk).2.2
  have hsucc := partsN_succ name l k
  simp (disch := first | omega | (simp only [ZL, store_len, shelf_len] <;> omega)) only [Z, Op.callOf, bslE, nilE, mslE, fadE, AV.cells, AV.isBot, AV.one, AV.flat, flatL, ids1, ids2, idsX, AV.lt, ltL, AObj.lt, finE, sevalprocAttr, frzM_store, frzM_shelf, shelf_len, shelf_one, shelf_flat, shelf_lt, shelf_take, shelf_set0, store_len, store_one, store_flat, store_lt, store_left, store_setl, store_get, store_set, store_take, store_set0, pv5_len, pv5_take, pv5_set0, pv5_get, pav_one, pav_lt, frzM_pav, pav_len, pav1_one]
  refine condG_p (fun e => ?_) (fun e => ?_)
  · have hk5 : k < 5 := by omega
    have hk' : k < l.length := by omega
    have hg : l.getD k Told.z = l[k] := by simp [List.getD, hk']
    rw [hg] at hsucc
    have hdk := hd l[k] (List.getElem_mem _)
    simp (disch := first | omega | (simp only [ZL, store_len, shelf_len] <;> omega)) only [Z, Op.callOf, bslE, nilE, mslE, fadE, AV.cells, AV.isBot, AV.one, AV.flat, flatL, ids1, ids2, idsX, AV.lt, ltL, AObj.lt, finE, sevalprocAttr, frzM_store, frzM_shelf, shelf_len, shelf_one, shelf_flat, shelf_lt, shelf_take, shelf_set0, store_len, store_one, store_flat, store_lt, store_left, store_setl, store_get, store_set, store_take, store_set0, pv5_len, pv5_take, pv5_set0, pv5_get, pav_one, pav_lt, frzM_pav, pav_len, pav1_one, Told.pav]
    refine callL_pure (fits_c l[k].data name k hk5 hdk) (by simp [ltL, AV.lt]) rfl ?_
    generalize hps : partsN name l k = ps at *
    cases hf : fitS l[k].data name k with
    | none =>
      have ht : toldF name k l[k] = none := by unfold toldF; rw [hf]; split <;> rfl
      rw [ht, Option.toList_none, List.append_nil] at hsucc
      simp (disch := first | omega | (simp only [ZL] <;> omega)) only [Z, Op.callOf, bslE, nilE, mslE, fadE, AV.cells, AV.isBot, AV.one, AV.flat, flatL, ids1, ids2, idsX, AV.lt, ltL, AObj.lt, finE, sevalprocAttr, fitP, Option.isSome_none]
      refine finR_of (k + 1) (by omega) (by omega) ?_
      rw [hsucc]
      refine less_mk (by simp) (by simp) ?_ ?_ <;> simp (disch := first | omega | (simp only [ZL, store_len, shelf_len] <;> omega)) only [Z, Op.callOf, bslE, nilE, mslE, fadE, AV.cells, AV.isBot, AV.one, AV.flat, flatL, ids1, ids2, idsX, AV.lt, ltL, AObj.lt, finE, sevalprocAttr, frzM_store, frzM_shelf, shelf_len, shelf_one, shelf_flat, shelf_lt, shelf_take, shelf_set0, store_len, store_one, store_flat, store_lt, store_left, store_setl, store_get, store_set, store_take, store_set0, pv5_len, pv5_take, pv5_set0, pv5_get, pav_one, pav_lt, frzM_pav, pav_len, pav1_one, i64_add1]
    | some p =>
      by_cases he : l[k].err = 0
      · have ht : toldF name k l[k] = some (k, p) := by unfold toldF; rw [hf, if_pos he]; rfl
        rw [ht] at hsucc
        simp (disch := first | omega | (simp only [ZL] <;> omega)) only [Z, Op.callOf, bslE, nilE, mslE, fadE, AV.cells, AV.isBot, AV.one, AV.flat, flatL, ids1, ids2, idsX, AV.lt, ltL, AObj.lt, finE, sevalprocAttr, fitP, Option.isSome_some, he, encFs_len]
        refine finR_of (k + 1) (by omega) (by omega) ?_
        rw [hsucc]
        refine less_mk (by simp) (by simp) ?_ ?_ <;> simp (disch := first | omega | (simp only [ZL, store_len, shelf_len] <;> omega)) only [Z, Op.callOf, bslE, nilE, mslE, fadE, AV.cells, AV.isBot, AV.one, AV.flat, flatL, ids1, ids2, idsX, AV.lt, ltL, AObj.lt, finE, sevalprocAttr, frzM_store, frzM_shelf, shelf_len, shelf_one, shelf_flat, shelf_lt, shelf_take, shelf_set0, store_len, store_one, store_flat, store_lt, store_left, store_setl, store_get, store_set, store_take, store_set0, pv5_len, pv5_take, pv5_set0, pv5_get, pav_one, pav_lt, frzM_pav, pav_len, pav1_one, i64_add1, Option.toList_some, List.length_nil]
        simp [encFs, encF, fitP]
      · have ht : toldF name k l[k] = none := by unfold toldF; rw [if_neg he]
        rw [ht, Option.toList_none, List.append_nil] at hsucc
        simp (disch := first | omega | (simp only [ZL] <;> omega)) only [Z, Op.callOf, bslE, nilE, mslE, fadE, AV.cells, AV.isBot, AV.one, AV.flat, flatL, ids1, ids2, idsX, AV.lt, ltL, AObj.lt, finE, sevalprocAttr, fitP, Option.isSome_some, he]
        refine finR_of (k + 1) (by omega) (by omega) ?_
        rw [hsucc]
        refine less_mk (by simp) (by simp) ?_ ?_ <;> simp (disch := first | omega | (simp only [ZL, store_len, shelf_len] <;> omega)) only [Z, Op.callOf, bslE, nilE, mslE, fadE, AV.cells, AV.isBot, AV.one, AV.flat, flatL, ids1, ids2, idsX, AV.lt, ltL, AObj.lt, finE, sevalprocAttr, frzM_store, frzM_shelf, shelf_len, shelf_one, shelf_flat, shelf_lt, shelf_take, shelf_set0, store_len, store_one, store_flat, store_lt, store_left, store_setl, store_get, store_set, store_take, store_set0, pv5_len, pv5_take, pv5_set0, pv5_get, pav_one, pav_lt, frzM_pav, pav_len, pav1_one, i64_add1]
  · have : k = 5 := by omega
    subst this
    simp (disch := first | omega | (simp only [ZL] <;> omega)) only [Z, Op.callOf, bslE, nilE, mslE, fadE, AV.cells, AV.isBot, AV.one, AV.flat, flatL, ids1, ids2, idsX, AV.lt, ltL, AObj.lt, finE, sevalprocAttr]
    obtain ⟨hok, hpw, _⟩ := partsN_ok name l 5 (Nat.le_refl _)
    simp only [rdR]
    generalize partsN name l 5 = ps at *
    have hx : ∀ j (h : j < ps.length), FTok ps[j] := fun j h => (hok _ (List.getElem_mem h)).1
    have hp2 : ∀ i j (h1 : i < ps.length) (h2 : j < ps.length), i < j → ps[i].1 < ps[j].1 := List.pairwise_iff_getElem.1 hpw
    have htk : (encFs ps).take ps.length = encFs ps := List.take_of_length_le (by simp [encFs_len])
    refine loopG_frz 10 ?_
    simp (disch := first | omega | (simp only [ZL] <;> omega)) only [Z, Op.callOf, bslE, nilE, mslE, fadE, AV.cells, AV.isBot, AV.one, AV.flat, flatL, ids1, ids2, idsX, AV.lt, ltL, AObj.lt, finE, sevalprocAttr, frzT_some, frz2, encFs_len, htk]
    refine loopF mixed (fun i : Nat => mk [(2, .ptr 0 0), (4, .ptr 1 0), (8, .ptr 14 0), (9, .bool (l.any Told.gone)), (10, .sl 4 (encFs ps)), (58, .int .i64 ps.length), (59, .int .i64 i)]
        [(0, .box s'.av), (1, .box [.nils, .nils, .nils, .nils, .nils, .nils, .nils, .nils, .nils, .nils, .int .i64 0]), (14, .box (l.flatMap Told.pav))] 15)
      (fun i => i ≤ ps.length ∧ tri ps = tri (ps.drop i)) (fun i => ps.length - i) 0 400 rfl rfl ⟨by omega, by simp⟩ ?_ ?_
    · refine less_mk (by simp) (by simp) ?_ ?_ <;> simp (disch := first | omega | (simp only [ZL, store_len, shelf_len] <;> omega)) only [Z, Op.callOf, bslE, nilE, mslE, fadE, AV.cells, AV.isBot, AV.one, AV.flat, flatL, ids1, ids2, idsX, AV.lt, ltL, AObj.lt, finE, sevalprocAttr, frzM_store, frzM_shelf, shelf_len, shelf_one, shelf_flat, shelf_lt, shelf_take, shelf_set0, store_len, store_one, store_flat, store_lt, store_left, store_setl, store_get, store_set, store_take, store_set0, pv5_len, pv5_take, pv5_set0, pv5_get, pav_one, pav_lt, frzM_pav, pav_len, pav1_one]
    rintro i ⟨hi, hJ⟩
    simp (disch := first | omega | (simp only [ZL] <;> omega)) only [Z, Op.callOf, bslE, nilE, mslE, fadE, AV.cells, AV.isBot, AV.one, AV.flat, flatL, ids1, ids2, idsX, AV.lt, ltL, AObj.lt, finE, sevalprocAttr]
    refine condG_p (fun e => ?_) (fun e => ?_)
    · have hi' : i < ps.length := by omega
      rw [List.drop_eq_getElem_cons hi', tri] at hJ
      simp (disch := first | omega | (simp only [ZL] <;> omega)) only [Z, Op.callOf, bslE, nilE, mslE, fadE, AV.cells, AV.isBot, AV.one, AV.flat, flatL, ids1, ids2, idsX, AV.lt, ltL, AObj.lt, finE, sevalprocAttr]
      refine loopF mixed (fun m : Nat => mk [(2, .ptr 0 0), (4, .ptr 1 0), (8, .ptr 14 0), (9, .bool (l.any Told.gone)), (10, .sl 4 (encFs ps)), (58, .int .i64 ps.length), (59, .int .i64 i), (15, .int .i64 i), (16, .int .i64 m)]
          [(0, .box s'.av), (1, .box [.nils, .nils, .nils, .nils, .nils, .nils, .nils, .nils, .nils, .nils, .int .i64 0]), (14, .box (l.flatMap Told.pav))] 15)
        (fun m => i + 1 ≤ m ∧ m ≤ ps.length ∧ tri ps = (pairs ps[i] (ps.drop m)).or (tri (ps.drop (i + 1)))) (fun m => ps.length - m) (i + 1) 400 rfl rfl ⟨by omega, by omega, hJ⟩ ?_ ?_
      · refine less_mk (by simp) (by simp) ?_ ?_ <;> simp (disch := first | omega | (simp only [ZL, store_len, shelf_len] <;> omega)) only [Z, Op.callOf, bslE, nilE, mslE, fadE, AV.cells, AV.isBot, AV.one, AV.flat, flatL, ids1, ids2, idsX, AV.lt, ltL, AObj.lt, finE, sevalprocAttr, frzM_store, frzM_shelf, shelf_len, shelf_one, shelf_flat, shelf_lt, shelf_take, shelf_set0, store_len, store_one, store_flat, store_lt, store_left, store_setl, store_get, store_set, store_take, store_set0, pv5_len, pv5_take, pv5_set0, pv5_get, pav_one, pav_lt, frzM_pav, pav_len, pav1_one, i64_add1]
      rintro m ⟨hm0, hm, hJ⟩
      simp (disch := first | omega | (simp only [ZL] <;> omega)) only [Z, Op.callOf, bslE, nilE, mslE, fadE, AV.cells, AV.isBot, AV.one, AV.flat, flatL, ids1, ids2, idsX, AV.lt, ltL, AObj.lt, finE, sevalprocAttr, encFs_len]
      refine condG_p (fun e2 => ?_) (fun e2 => ?_)
      · have hm' : m < ps.length := by omega
        rw [List.drop_eq_getElem_cons hm', pairs, Option.or_assoc] at hJ
        simp (disch := first | omega | (simp only [ZL] <;> omega)) only [Z, Op.callOf, bslE, nilE, mslE, fadE, AV.cells, AV.isBot, AV.one, AV.flat, flatL, ids1, ids2, idsX, AV.lt, ltL, AObj.lt, finE, sevalprocAttr]
        refine loopF mixed (fun n : Nat => mk [(2, .ptr 0 0), (4, .ptr 1 0), (8, .ptr 14 0), (9, .bool (l.any Told.gone)), (10, .sl 4 (encFs ps)), (58, .int .i64 ps.length), (59, .int .i64 i), (15, .int .i64 i), (16, .int .i64 m), (17, .int .i64 n)]
            [(0, .box s'.av), (1, .box [.nils, .nils, .nils, .nils, .nils, .nils, .nils, .nils, .nils, .nils, .int .i64 0]), (14, .box (l.flatMap Told.pav))] 15)
          (fun n => m + 1 ≤ n ∧ n ≤ ps.length ∧ tri ps = (sing ps[i] ps[m] (ps.drop n)).or ((pairs ps[i] (ps.drop (m + 1))).or (tri (ps.drop (i + 1))))) (fun n => ps.length - n) (m + 1) 400 rfl rfl ⟨by omega, by omega, hJ⟩ ?_ ?_
        · refine less_mk (by simp) (by simp) ?_ ?_ <;> simp (disch := first | omega | (simp only [ZL, store_len, shelf_len] <;> omega)) only [Z, Op.callOf, bslE, nilE, mslE, fadE, AV.cells, AV.isBot, AV.one, AV.flat, flatL, ids1, ids2, idsX, AV.lt, ltL, AObj.lt, finE, sevalprocAttr, frzM_store, frzM_shelf, shelf_len, shelf_one, shelf_flat, shelf_lt, shelf_take, shelf_set0, store_len, store_one, store_flat, store_lt, store_left, store_setl, store_get, store_set, store_take, store_set0, pv5_len, pv5_take, pv5_set0, pv5_get, pav_one, pav_lt, frzM_pav, pav_len, pav1_one, i64_add1]
        rintro n ⟨hn0, hn, hJ⟩
        simp (disch := first | omega | (simp only [ZL] <;> omega)) only [Z, Op.callOf, bslE, nilE, mslE, fadE, AV.cells, AV.isBot, AV.one, AV.flat, flatL, ids1, ids2, idsX, AV.lt, ltL, AObj.lt, finE, sevalprocAttr, encFs_len]
        refine condG_p (fun e3 => ?_) (fun e3 => ?_)
        · have hn' : n < ps.length := by omega
          rw [List.drop_eq_getElem_cons hn', sing, Option.or_assoc] at hJ
          simp (disch := first | omega | (simp only [ZL] <;> omega)) only [Z, Op.callOf, bslE, nilE, mslE, fadE, AV.cells, AV.isBot, AV.one, AV.flat, flatL, ids1, ids2, idsX, AV.lt, ltL, AObj.lt, finE, sevalprocAttr, encFs_len, encFs_at, encF_len, encF_take]
          refine callD_pure (sjoin_c ps[i] ps[m] ps[n] (hx _ _) (hx _ _) (hx _ _) (hp2 _ _ _ _ (by omega)) (hp2 _ _ _ _ (by omega))) (by simp [ltL, AV.lt, encF_lt]) ?_
          simp (disch := first | omega | (simp only [ZL] <;> omega)) only [Z, Op.callOf, bslE, nilE, mslE, fadE, AV.cells, AV.isBot, AV.one, AV.flat, flatL, ids1, ids2, idsX, AV.lt, ltL, AObj.lt, finE, sevalprocAttr]
          refine okK_of (by kernel_rfl) ?_
          cases hj : joinF ps[i] ps[m] ps[n] with
          | none =>
            rw [hj, Option.none_or] at hJ
            simp (disch := first | omega | (simp only [ZL] <;> omega)) only [Z, Op.callOf, bslE, nilE, mslE, fadE, AV.cells, AV.isBot, AV.one, AV.flat, flatL, ids1, ids2, idsX, AV.lt, ltL, AObj.lt, finE, sevalprocAttr, Option.isSome_none]
            refine finR_of (n + 1) ⟨by omega, by omega, hJ⟩ (by omega) ?_
            refine less_mk (by simp) (by simp) ?_ ?_ <;> simp (disch := first | omega | (simp only [ZL, store_len, shelf_len] <;> omega)) only [Z, Op.callOf, bslE, nilE, mslE, fadE, AV.cells, AV.isBot, AV.one, AV.flat, flatL, ids1, ids2, idsX, AV.lt, ltL, AObj.lt, finE, sevalprocAttr, i64_add1, frzM_store, frzM_shelf, shelf_len, shelf_one, shelf_flat, shelf_lt, shelf_take, shelf_set0, store_len, store_one, store_flat, store_lt, store_left, store_setl, store_get, store_set, store_take, store_set0, pv5_len, pv5_take, pv5_set0, pv5_get, pav_one, pav_lt, frzM_pav, pav_len, pav1_one]
          | some s =>
            rw [hj, Option.some_or] at hJ
            rw [hJ]
            have hs : joinT ps[i] ps[m] ps[n] = s := by
              unfold joinF at hj
              split at hj
              · cases hj; rfl
              · cases hj
            simp (disch := first | omega | (simp only [ZL, store_len, shelf_len] <;> omega)) only [Z, Op.callOf, bslE, nilE, mslE, fadE, AV.cells, AV.isBot, AV.one, AV.flat, flatL, ids1, ids2, idsX, AV.lt, ltL, AObj.lt, finE, sevalprocAttr, Option.isSome_some, frzM_store, frzM_shelf, shelf_len, shelf_one, shelf_flat, shelf_lt, shelf_take, shelf_set0, store_len, store_one, store_flat, store_lt, store_left, store_setl, store_get, store_set, store_take, store_set0]
            rw [hs]
            repeat' first | exact Sub.rfl' _ | exact sub_nils _ | exact SubL.nil | refine sub_tup ?_ | refine sub_agg ?_ | refine SubL.cons ?_ ?_
        · have : n = ps.length := by omega
          subst this
          rw [List.drop_length, sing, Option.none_or] at hJ
          simp (disch := first | omega | (simp only [ZL] <;> omega)) only [Z, Op.callOf, bslE, nilE, mslE, fadE, AV.cells, AV.isBot, AV.one, AV.flat, flatL, ids1, ids2, idsX, AV.lt, ltL, AObj.lt, finE, sevalprocAttr]
          refine finR_of (m + 1) ⟨by omega, by omega, hJ⟩ (by omega) ?_
          refine less_mk (by simp) (by simp) ?_ ?_ <;> simp (disch := first | omega | (simp only [ZL, store_len, shelf_len] <;> omega)) only [Z, Op.callOf, bslE, nilE, mslE, fadE, AV.cells, AV.isBot, AV.one, AV.flat, flatL, ids1, ids2, idsX, AV.lt, ltL, AObj.lt, finE, sevalprocAttr, i64_add1, frzM_store, frzM_shelf, shelf_len, shelf_one, shelf_flat, shelf_lt, shelf_take, shelf_set0, store_len, store_one, store_flat, store_lt, store_left, store_setl, store_get, store_set, store_take, store_set0, pv5_len, pv5_take, pv5_set0, pv5_get, pav_one, pav_lt, frzM_pav, pav_len, pav1_one]
      · have : m = ps.length := by omega
        subst this
        rw [List.drop_length, pairs, Option.none_or] at hJ
        simp (disch := first | omega | (simp only [ZL] <;> omega)) only [Z, Op.callOf, bslE, nilE, mslE, fadE, AV.cells, AV.isBot, AV.one, AV.flat, flatL, ids1, ids2, idsX, AV.lt, ltL, AObj.lt, finE, sevalprocAttr]
        refine finR_of (i + 1) ⟨by omega, hJ⟩ (by omega) ?_
        refine less_mk (by simp) (by simp) ?_ ?_ <;> simp (disch := first | omega | (simp only [ZL, store_len, shelf_len] <;> omega)) only [Z, Op.callOf, bslE, nilE, mslE, fadE, AV.cells, AV.isBot, AV.one, AV.flat, flatL, ids1, ids2, idsX, AV.lt, ltL, AObj.lt, finE, sevalprocAttr, i64_add1, frzM_store, frzM_shelf, shelf_len, shelf_one, shelf_flat, shelf_lt, shelf_take, shelf_set0, store_len, store_one, store_flat, store_lt, store_left, store_setl, store_get, store_set, store_take, store_set0, pv5_len, pv5_take, pv5_set0, pv5_get, pav_one, pav_lt, frzM_pav, pav_len, pav1_one]
    · have : i = ps.length := by omega
      subst this
      rw [List.drop_length, tri] at hJ
      rw [hJ]
      simp (disch := first | omega | (simp only [ZL, store_len, shelf_len] <;> omega)) only [Z, Op.callOf, bslE, nilE, mslE, fadE, AV.cells, AV.isBot, AV.one, AV.flat, flatL, ids1, ids2, idsX, AV.lt, ltL, AObj.lt, finE, sevalprocAttr, frzM_store, frzM_shelf, shelf_len, shelf_one, shelf_flat, shelf_lt, shelf_take, shelf_set0, store_len, store_one, store_flat, store_lt, store_left, store_setl, store_get, store_set, store_take, store_set0, pv5_len, pv5_take, pv5_set0, pv5_get, pav_one, pav_lt, frzM_pav, pav_len, pav1_one]
      refine callD_pure (slost_c l hll _ rfl) (by simp [ltL, AV.lt, pav_lt]) ?_
      simp (disch := first | omega | (simp only [ZL, store_len, shelf_len] <;> omega)) only [Z, Op.callOf, bslE, nilE, mslE, fadE, AV.cells, AV.isBot, AV.one, AV.flat, flatL, ids1, ids2, idsX, AV.lt, ltL, AObj.lt, finE, sevalprocAttr, frzM_store, frzM_shelf, shelf_len, shelf_one, shelf_flat, shelf_lt, shelf_take, shelf_set0, store_len, store_one, store_flat, store_lt, store_left, store_setl, store_get, store_set, store_take, store_set0]
      refine okK_of (by kernel_rfl) ?_
      simp (disch := first | omega | (simp only [ZL, store_len, shelf_len] <;> omega)) only [Z, Op.callOf, bslE, nilE, mslE, fadE, AV.cells, AV.isBot, AV.one, AV.flat, flatL, ids1, ids2, idsX, AV.lt, ltL, AObj.lt, finE, sevalprocAttr, frzM_store, frzM_shelf, shelf_len, shelf_one, shelf_flat, shelf_lt, shelf_take, shelf_set0, store_len, store_one, store_flat, store_lt, store_left, store_setl, store_get, store_set, store_take, store_set0]
      repeat' first | exact Sub.rfl' _ | exact sub_nils _ | exact SubL.nil | refine sub_tup ?_ | refine sub_agg ?_ | refine SubL.cons ?_ ?_
end Go.Ab
