/-
  What is proved: for every store and every name, hibernaclelaw52.ScrubLooks returns true, and both arguments read behind the call as they read before (the row), tied to the program's text (the card).
  Its conditions: those of the given row and of no other: the five listed package-level variables hold what the row lists (the card ties them to the program's text); nothing is asked of the sizes of the arguments.
-/
import Derived.Test.YthgmopnabpnicaaGreatDoorShelf
import Derived.Lib.Builder
import Derived.Lib.AppendStr
import Derived.Lib.UnsafeStr
import Derived.Lib.MakeNoZero
import Derived.Lib.Walk
import Derived.Laws.Externs
import Derived.Laws.IdiomCopy
import Derived.Laws.AppendOwn
import Derived.Test.YthgmopnabpnicaaGreatDoorRows
import Derived.Lib.LaidTab
import Derived.LaidLaws
import Derived.Deep.Strs
import Derived.Lib.SmallJoins
import Derived.JoinedOf
import Derived.ChangeSame
import Derived.ChangeVars
import Derived.RowKitTokens
import Derived.KernelRfl
import Derived.Test.YthgmopnabpnicaaGreatDoorTie
import Derived.SevenTiedAt
import Derived.Test.YthgmopnabpnicaaGreatDoorCards
import Derived.Test.YthgmopnabpnicaaGreatDoorZ10
import Derived.Test.YthgmopnabpnicaaGreatDoorZ11
import Derived.Test.YthgmopnabpnicaaGreatDoorZ13
import Derived.Test.YthgmopnabpnicaaGreatDoorZ14
import Derived.Test.YthgmopnabpnicaaGreatDoorZ22
import Derived.Test.YthgmopnabpnicaaGreatDoorZ24
import Derived.Test.YthgmopnabpnicaaGreatDoorZ26
set_option linter.all false
namespace Go.Ab
open Go Go.Proofs Go.RowKit Go.Sort
/-! ### plain facts on Go's library -/
theorem lc_cmp : ∀ a b : List UInt8, Lib.compareBytes a b = cmpS a b
  | [], [] => by simp [Lib.compareBytes, cmpS, Op.bytesLess]
  | [], y :: ys => by simp [Lib.compareBytes, cmpS, Op.bytesLess]
  | x :: xs, [] => by simp [Lib.compareBytes, cmpS, Op.bytesLess]
  | x :: xs, y :: ys => by
    have ih := lc_cmp xs ys
    unfold cmpS at ih ⊢
    simp only [Lib.compareBytes, Op.bytesLess]
    by_cases h : x < y
    · simp [h]
    · by_cases h' : y < x
      · have hne : x ≠ y := fun e => by subst e; exact h h'
        simp [h, h', hne]
      · have : x = y := by
          have a1 := UInt8.not_lt.1 h
          have a2 := UInt8.not_lt.1 h'
          exact UInt8.le_antisymm a2 a1
        subst this
        simp [h, ih]
theorem lc_ix : ∀ (s : List UInt8) (c : UInt8), Lib.indexByte s c = ixS s c
  | [], c => rfl
  | b :: l, c => by
    have ih := lc_ix l c
    unfold ixS at ih ⊢
    rw [Lib.indexByte, List.findIdx?_cons]
    by_cases h : (b == c) = true
    · simp [h]
    · simp only [h, if_false, Bool.false_eq_true]
      rw [ih]
      cases e : l.findIdx? (fun x => x == c) with
      | none => simp
      | some i => simp
theorem lc_rep : ∀ n : Nat, Lib.repeatL [0] n = List.replicate n 0
  | 0 => rfl
  | n + 1 => by rw [Lib.repeatL, lc_rep n]; rfl
theorem lc_dig (n : Nat) : Lib.decDigits n = digB n := by
  induction n using Nat.strongRecOn with
  | _ n ih =>
    rw [Lib.decDigits, digB]
    by_cases h : n < 10
    · rw [dif_pos h, if_pos h]
    · rw [dif_neg h, if_neg h, ih _ (by omega)]
theorem lc_dec (n : Int) : Lib.itoa n = decB n := by
  unfold Lib.itoa decB
  split
  · rw [lc_dig]
  · rw [lc_dig]; congr 1; omega
theorem lc_puapp (M : Nat) : ∀ (l : List UInt8) (acc v : Nat) (r : List UInt8), Lib.parseUintM M acc l = .ok v → Lib.parseUintM M acc (l ++ r) = Lib.parseUintM M v r
  | [], acc, v, r, h => by simp only [Lib.parseUintM] at h; cases h; rfl
  | c :: l, acc, v, r, h => by
    rw [List.cons_append]
    rw [Lib.parseUintM] at h ⊢
    split at h
    · rename_i h1
      rw [if_pos h1]
      split at h
      · cases h
      · rename_i h2
        rw [if_neg h2]
        split at h
        · cases h
        · rename_i h3
          rw [if_neg h3]
          exact lc_puapp M l _ v r h
    · cases h
theorem lc_pudig (n : Nat) (h : n ≤ 18446744073709551615) : Lib.parseUintM 18446744073709551615 0 (digB n) = .ok n := by
  induction n using Nat.strongRecOn with
  | _ n ih =>
    rw [digB]
    have d : ∀ k, k < 10 → (UInt8.ofNat (48 + k)).toNat = 48 + k := fun k hk => by simp; omega
    by_cases c : n < 10
    · rw [if_pos c]
      simp only [Lib.parseUintM, d n c]
      rw [if_pos (by omega), if_neg (by omega), if_neg (by omega)]
      congr 1; omega
    · rw [if_neg c, lc_puapp _ _ _ _ _ (ih (n / 10) (by omega) (by omega))]
      have hm : n % 10 < 10 := Nat.mod_lt _ (by omega)
      simp only [Lib.parseUintM, d _ hm]
      rw [if_pos (by omega), if_neg (by omega), if_neg (by omega)]
      congr 1; omega
theorem lc_dighead (n : Nat) : ∃ c r, digB n = c :: r ∧ c.toNat ≠ 43 ∧ c.toNat ≠ 45 := by
  induction n using Nat.strongRecOn with
  | _ n ih =>
    rw [digB]
    by_cases c : n < 10
    · rw [if_pos c]
      exact ⟨_, _, rfl, by simp; omega, by simp; omega⟩
    · rw [if_neg c]
      obtain ⟨x, r, e, h1, h2⟩ := ih (n / 10) (by omega)
      exact ⟨x, r ++ _, by rw [e]; rfl, h1, h2⟩
theorem lc_pint (n : Int) (h : i64ok n) : Lib.parseIntB 64 (decB n) = .ok n := by
  unfold i64ok at h
  unfold decB
  by_cases c : n < 0
  · rw [if_pos c]
    have e1 : Lib.parseUintB 64 (digB n.natAbs) = .ok n.natAbs := by
      obtain ⟨x, r, e, _⟩ := lc_dighead n.natAbs
      unfold Lib.parseUintB
      rw [if_neg (by rw [e]; simp)]
      exact lc_pudig _ (by omega)
    have e2 : (if (45 : UInt8).toNat = 43 ∨ (45 : UInt8).toNat = 45 then digB n.natAbs else 45 :: digB n.natAbs) = digB n.natAbs := rfl
    simp only [Lib.parseIntB, e2, e1]
    have e3 : ((45 : UInt8).toNat = 45) = True := by simp
    simp only [e3, not_true_eq_false, false_and, if_false, true_and, if_true]
    rw [if_neg (by omega)]
    congr 1; omega
  · rw [if_neg c]
    obtain ⟨x, r, e, h1, h2⟩ := lc_dighead n.natAbs
    have e1 : Lib.parseUintB 64 (x :: r) = .ok n.natAbs := by
      unfold Lib.parseUintB
      rw [if_neg (by simp), ← e]
      exact lc_pudig _ (by omega)
    rw [e]
    simp only [Lib.parseIntB]
    rw [if_neg (by omega), e1]
    simp only [h2, not_false_eq_true, true_and, false_and, if_false]
    rw [if_neg (by omega)]
    congr 1; omega
theorem lc_diglen (n : Nat) : (digB n).length ≤ n / 10 + 2 := by
  induction n using Nat.strongRecOn with
  | _ n ih =>
    rw [digB]
    by_cases c : n < 10
    · rw [if_pos c]; simp
    · rw [if_neg c]
      have := ih (n / 10) (by omega)
      simp only [List.length_append, List.length_cons, List.length_nil]
      omega
theorem lc_declen (n : Int) (h : i64ok n) : (decB n).length ≤ 9223372036854775806 := by
  have := lc_diglen n.natAbs
  unfold i64ok at h
  unfold decB
  split
  · rw [List.length_cons]; omega
  · omega
theorem below_grow (w : World) (k : Nat) (os : Array Go.Obj) : Below w.heap.size w (grow (w.drewN k) os) :=
  ⟨rfl, rfl, rfl, by simp [grow, World.drewN], fun j hj => by simp [grow, World.drewN, Array.getElem?_append_left hj]⟩
theorem below_bytes (w : World) (e : TypeId) (s : ByteArray) : Below w.heap.size w (Lib.bytesWorld w e s) :=
  Lib.below_freeze ((Below.drew (Below.refl _ w)).alloc (Nat.le_refl _) _) (Nat.le_refl _) _
theorem arr_str (l : List UInt8) : (⟨l.toArray⟩ : ByteArray).data.toList = l := rfl

/-! ### the package-level variables -/
def T10 : String := "internal/strconv.uint64pow10"
theorem var_keep {w w' : World} {name : String} (h : ∀ g, Tryz.prog.globalNamed name = some g → w'.heap[g]? = w.heap[g]?) : w'.var? Tryz.prog name = w.var? Tryz.prog name := by
  unfold World.var?
  cases e : Tryz.prog.globalNamed name with
  | none => rfl
  | some g => simp only [Option.bind_some]; rw [h g e]
def gNames : List String := ["internal/strconv.uint64pow10", "strconv.ErrSyntax", "strconv.ErrRange"]
@[reducible] def GS : Glob :=
  { inv := fun w S => (Lib.TabIs Tryz.prog w "internal/strconv.uint64pow10" .u64 Lib.pow10Tab ∧ (∃ tp p, w.var? Tryz.prog "strconv.ErrSyntax" = some #[.iface tp p]) ∧ ∃ tp p, w.var? Tryz.prog "strconv.ErrRange" = some #[.iface tp p]) ∧
      ∀ name, name ∈ gNames → ∀ g, Tryz.prog.globalNamed name = some g → S g
    mono := fun ⟨⟨h1, ⟨t2, p2, h2⟩, t3, p3, h3⟩, h4⟩ hw hS =>
      ⟨⟨(var_keep fun g hg => hw g (h4 _ (by simp [gNames]) g hg)).trans h1, ⟨t2, p2, (var_keep fun g hg => hw g (h4 _ (by simp [gNames]) g hg)).trans h2⟩, t3, p3, (var_keep fun g hg => hw g (h4 _ (by simp [gNames]) g hg)).trans h3⟩,
        fun n hn g hg => hS _ (h4 n hn g hg)⟩
    cells := fun _ => none
    look := fun _ h => by cases h }
instance : Glob := GS
instance : LibC :=
  { cmp := fun a b => by
      refine apure_below ⟨_, Tryz.func114, by kernel_rfl, by kernel_rfl⟩ trivial fun w S vs hg hb hl hr => ?_
      obtain ⟨x, y, rfl⟩ := arr2 hl
      obtain ⟨_, r0⟩ := hr 0 (by simp) (by simp)
      obtain ⟨_, r1⟩ := hr 1 (by simp) (by simp)
      obtain rfl := rel_str r0
      obtain rfl := rel_str r1
      refine (Tryz.strings_Compare _ _ w).mono ?_
      rintro e w' ⟨rfl, rfl⟩
      exact ⟨_, rfl, by rw [arr_str, arr_str, lc_cmp]; exact relA_int _ _, Below.refl _ _⟩
    pre := fun s p => by
      refine apure_below ⟨_, Tryz.func51, by kernel_rfl, by kernel_rfl⟩ trivial fun w S vs hg hb hl hr => ?_
      obtain ⟨x, y, rfl⟩ := arr2 hl
      obtain ⟨_, r0⟩ := hr 0 (by simp) (by simp)
      obtain ⟨_, r1⟩ := hr 1 (by simp) (by simp)
      obtain rfl := rel_str r0
      obtain rfl := rel_str r1
      refine (Tryz.strings_HasPrefix _ _ w).mono ?_
      rintro e w' ⟨rfl, rfl⟩
      exact ⟨_, rfl, relA_bool _, Below.refl _ _⟩
    ixb := fun s c => by
      refine apure_below ⟨_, Tryz.func162, by kernel_rfl, by kernel_rfl⟩ trivial fun w S vs hg hb hl hr => ?_
      obtain ⟨x, y, rfl⟩ := arr2 hl
      obtain ⟨_, r0⟩ := hr 0 (by simp) (by simp)
      obtain ⟨_, r1⟩ := hr 1 (by simp) (by simp)
      obtain rfl := rel_str r0
      obtain rfl := rel_int r1
      refine (Tryz.strings_IndexByte _ _ w).mono ?_
      rintro e w' ⟨rfl, rfl⟩
      have : ((c.toNat : Int).toNat).toUInt8 = c := by simp
      exact ⟨_, rfl, by rw [arr_str, this, lc_ix]; exact relA_int _ _, Below.refl _ _⟩
    rep := fun n hn => by
      refine apure_below ⟨_, Tryz.func108, by kernel_rfl, by kernel_rfl⟩ trivial fun w S vs hg hb hl hr => ?_
      obtain ⟨x, y, rfl⟩ := arr2 hl
      obtain ⟨_, r0⟩ := hr 0 (by simp) (by simp)
      obtain ⟨_, r1⟩ := hr 1 (by simp) (by simp)
      obtain rfl := rel_str r0
      obtain rfl := rel_int r1
      refine (Tryz.strings_Repeat _ n w (by omega) (by show 1 * n ≤ _; omega)).mono ?_
      rintro e w' ⟨rfl, hb⟩
      exact ⟨_, rfl, by rw [arr_str, lc_rep]; exact relA_str _, hb⟩
    dec := fun n hn => by
      refine apure_below ⟨_, Tryz.func73, by kernel_rfl, by kernel_rfl⟩ trivial fun w S vs hg hb hl hr => ?_
      obtain ⟨x, y, rfl⟩ := arr2 hl
      obtain ⟨_, r0⟩ := hr 0 (by simp) (by simp)
      obtain ⟨_, r1⟩ := hr 1 (by simp) (by simp)
      obtain rfl := rel_int r0
      obtain rfl := rel_int r1
      refine (Tryz.strconv_FormatInt_10 n hn.1 hn.2 w hg.1.1).mono ?_
      rintro e w' ⟨rfl, k, os, rfl⟩
      exact ⟨_, rfl, by rw [lc_dec]; exact relA_str _, below_grow _ _ _⟩
    pint := fun n hn => by
      refine apure_below ⟨_, Tryz.func131, by kernel_rfl, by kernel_rfl⟩ ⟨trivial, trivial, trivial⟩ fun w S vs hg hb hl hr => ?_
      obtain ⟨x, y, z, rfl⟩ := arr3 hl
      obtain ⟨_, r0⟩ := hr 0 (by simp) (by simp)
      obtain ⟨_, r1⟩ := hr 1 (by simp) (by simp)
      obtain ⟨_, r2⟩ := hr 2 (by simp) (by simp)
      obtain rfl := rel_str r0
      obtain rfl := rel_int r1
      obtain rfl := rel_int r2
      refine (Tryz.strconv_ParseInt_10_at64_ok ⟨(decB n).toArray⟩ (lc_declen n hn) n (lc_pint n hn) w).mono ?_
      rintro e w' ⟨rfl, hw⟩
      refine ⟨_, rfl, relA_tup2 (relA_int _ _) (fun _ _ _ => .nili), ?_⟩
      rcases hw with rfl | ⟨t, rfl⟩
      · exact Below.refl _ _
      · exact below_bytes _ _ _
    pany := fun s hs => by
      have key : ∀ (v : Int) (e : AV), e.lt 0 → (∀ (w : World), GS.inv w (fun _ => True) → Calls Tryz.prog 131 #[.string ⟨s.toArray⟩, .int .i64 10, .int .i64 64] w fun x w' => ∃ u, x = .returned (.tuple #[.int .i64 v, u]) ∧ RelA e u ∧ Below w.heap.size w w') →
          APure Tryz.prog 131 [.str s, .int .i64 10, .int .i64 64] (.tup [.int .i64 v, e]) := by
        intro v e he hc
        refine apure_below ⟨_, Tryz.func131, by kernel_rfl, by kernel_rfl⟩ ⟨trivial, he, trivial⟩ fun w S vs hg hb hl hr => ?_
        obtain ⟨x, y, z, rfl⟩ := arr3 hl
        obtain ⟨_, r0⟩ := hr 0 (by simp) (by simp)
        obtain ⟨_, r1⟩ := hr 1 (by simp) (by simp)
        obtain ⟨_, r2⟩ := hr 2 (by simp) (by simp)
        obtain rfl := rel_str r0
        obtain rfl := rel_int r1
        obtain rfl := rel_int r2
        refine (hc w ⟨hg.1, fun _ _ _ _ => trivial⟩).mono ?_
        rintro x w' ⟨u, rfl, hu, hb⟩
        exact ⟨_, rfl, relA_tup2 (relA_int _ _) hu, hb⟩
      have hlen : (⟨s.toArray⟩ : ByteArray).size ≤ 281474976710656 := by show s.length ≤ _; omega
      rcases e : Lib.parseIntB 64 s with v | _ | _
      · have hb := Lib.parseIntB_bounds e
        refine ⟨v, .nili, ⟨by omega, by omega⟩, .inl rfl, key v .nili trivial fun w hw => ?_⟩
        refine (Tryz.strconv_ParseInt_10_at64_ok ⟨s.toArray⟩ (by omega) v e w).mono ?_
        rintro x w' ⟨rfl, hw⟩
        refine ⟨_, rfl, fun _ _ _ => .nili, ?_⟩
        rcases hw with rfl | ⟨t, rfl⟩
        · exact Below.refl _ _
        · exact below_bytes _ _ _
      · refine ⟨0, .iface 221 .bot, ⟨by omega, by omega⟩, .inr ⟨_, rfl⟩, key 0 _ trivial fun w hw => ?_⟩
        obtain ⟨⟨_, ⟨tp, p, hv⟩, _⟩, _⟩ := hw
        refine (Any.strconv_ParseInt_10_at64_syntax_var Tryz.laysC174 ⟨s.toArray⟩ hlen e tp p w hv).mono ?_
        rintro x w' ⟨N, rfl, _, _, hb⟩
        exact ⟨_, rfl, fun _ _ _ => .iface .bot, hb⟩
      · refine ⟨Lib.intSat 64 s, .iface 221 .bot, ?_, .inr ⟨_, rfl⟩, key _ _ trivial fun w hw => ?_⟩
        · unfold Lib.intSat i64ok; split <;> omega
        obtain ⟨⟨_, _, ⟨tp, p, hv⟩⟩, _⟩ := hw
        refine (Tryz.strconv_ParseInt_10_at64_range_var ⟨s.toArray⟩ hlen e tp p w hv).mono ?_
        rintro x w' ⟨N, rfl, _, _, hb⟩
        exact ⟨_, rfl, fun _ _ _ => .iface .bot, hb⟩ }
end Go.Ab
namespace Go.Ab
open Go Go.Proofs Go.RowKit Go.Shelf
set_option linter.unusedVariables false
theorem nB : (Tryz.prog.info? 117).map (·.size) = some 2 := by kernel_rfl
theorem lB : liesAt Tryz.prog Tryz.prog.depth 117 (2 / Tryz.prog.cellsOf 117) 0 117 1 = true := by kernel_rfl
theorem iB : (Tryz.prog.info? 5).map (fun i => (i.zero, i.size, i.bytes)) = some (some (.int .u8 0), 1, 1) := by kernel_rfl
theorem p115 : Tryz.prog.underlying 115 = some (.pointer 117) := by kernel_rfl
theorem p183 : Tryz.prog.underlying 183 = some .unsafePointer := by kernel_rfl
theorem p107 : Tryz.prog.underlying 107 = some (.slice 5) := by kernel_rfl
theorem p9 : Tryz.prog.underlying 9 = some .string := by kernel_rfl

set_option maxHeartbeats 1000000 in
set_option maxRecDepth 100000 in
theorem copyCheck_used (b : Nat) (w : World) (h0 : w.cell? ⟨b, 0, none⟩ = some (.pointer (some ⟨b, 0, none⟩))) :
    Calls Tryz.prog 105 #[.pointer (some ⟨b, 0, none⟩)] w fun e w' => e = .returned (.tuple #[]) ∧ w' = w := by
  obtain ⟨j, hj, _⟩ := Option.map_eq_some_iff.1 nB
  go_enter Tryz.func105, Tryz.ntmps105
  go_wp2
  rw [Lib.run_neq_ptr_same w _ p115 hj]
  go_wp2
  go_end0
  exact ⟨rfl, rfl⟩
set_option maxHeartbeats 1000000 in
set_option maxRecDepth 100000 in
theorem copyCheck_fresh (b : Nat) (w : World) (h0 : w.cell? ⟨b, 0, none⟩ = some (.pointer none)) (hsh : w.shape? b = some (117, 2)) (hfz : w.frozen? ⟨b, 0, none⟩ = false) :
    Calls Tryz.prog 105 #[.pointer (some ⟨b, 0, none⟩)] w fun e w' => e = .returned (.tuple #[]) ∧ w' = w.setCell ⟨b, 0, none⟩ (.pointer (some ⟨b, 0, none⟩)) := by
  obtain ⟨j, hj, hjs⟩ := Option.map_eq_some_iff.1 nB
  go_enter Tryz.func105, Tryz.ntmps105
  go_wp2
  rw [Lib.run_to_unsafe w ⟨b, 0, none⟩ p115 p183 hj (by rw [hjs]; decide) hsh (Nat.zero_lt_succ 1)]
  simp only [Result.andThen]
  rw [Oper.upon_value]
  go_wp2
  rw [run_callFunc_extern Tryz.func136 (by kernel_rfl) (by kernel_rfl) (by kernel_rfl) (e := Extern.AbiNoEscape.same) (by kernel_rfl)]
  rw [Lib.run_noEscape]
  simp only [Result.andThen]
  rw [Oper.upon_value]
  go_wp2
  rw [Lib.run_from_unsafe w ⟨b, 0, none⟩ p183 p115 hj hsh lB]
  simp only [Result.andThen]
  rw [Oper.upon_value]
  go_wp2
  go_end0
  exact ⟨rfl, rfl⟩
theorem copyCheck_c (B b : Nat) (bs : List Value) (w : World) (h : Lib.IsBuilder 117 5 B b bs w) :
    Calls Tryz.prog 105 #[.pointer (some ⟨b, 0, none⟩)] w fun e w' => e = .returned (.tuple #[]) ∧ (Lib.BuilderAt 117 5 B b (.pointer (some ⟨b, 0, none⟩)) bs w' ∧ Below B w w' ∧ ∀ k, k ≠ b → w'.heap[k]? = w.heap[k]?) := by
  rcases h with h | h
  · refine (copyCheck_fresh b w h.cell0 h.shape h.frozen0).mono ?_
    rintro e w' ⟨rfl, rfl⟩
    exact ⟨rfl, h.used _, (Below.refl B w).setCell (p := ⟨b, 0, none⟩) h.1 _, fun k hk => Below.heap_setCell _ _ _ _ hk⟩
  · refine (copyCheck_used b w h.cell0).mono ?_
    rintro e w' ⟨rfl, rfl⟩
    exact ⟨rfl, h, Below.refl B _, fun _ _ => rfl⟩
set_option maxHeartbeats 2000000 in
set_option maxRecDepth 100000 in
theorem write_c (B b : Nat) (bs : List Value) (ad : Addr) (m c : Nat) (news : List Value) (w : World) (h : Lib.IsBuilder 117 5 B b bs w)
    (hl : news.length = m) (hnews : ∀ j u, news[j]? = some u → w.cell? (ad.add j) = some u) (hadb : ad.block ≠ b) (h1 : ∀ u ∈ news, u.oneCell' = true)
    (hlen : bs.length + m ≤ 140737488355328) (hBw : B ≤ w.heap.size) :
    Calls Tryz.prog 69 #[.pointer (some ⟨b, 0, none⟩), .slice (some ad) m c] w fun e w' => e = .returned (.tuple #[.int .i64 m, .nilIface]) ∧ (Lib.BuilderAt 117 5 B b (.pointer (some ⟨b, 0, none⟩)) (bs ++ news) w' ∧ Below B w w') := by
  obtain ⟨i0, hi, hz0, hz1, hz2⟩ := info_parts iB
  go_enter Tryz.func69, Tryz.ntmps69
  go_wp2_with (go_at_call 105; refine (copyCheck_c B b bs _ h).mono ?_)
  rintro e w1 ⟨rfl, h1', hb1, hk1⟩
  obtain ⟨hB, v, hbk, hown, hne⟩ := h1'
  have c0 : w1.cell? ⟨b, 0, none⟩ = some (.pointer (some ⟨b, 0, none⟩)) := by rw [Lib.cell_of_heap hbk]; rfl
  have c1 : w1.cell? ⟨b, 1, none⟩ = some v := by rw [Lib.cell_of_heap hbk]; rfl
  have hnews1 : ∀ j u, news[j]? = some u → w1.cell? (ad.add j) = some u := fun j u hj => by
    rw [World.cell?_of_block (hk1 _ (by unfold Addr.add; split <;> exact hadb))]; exact hnews j u hj
  go_wp2_with (at_builtin; refine wpList_append_own _ rfl _ _ 107 rfl B 5 i0 (.int .u8 0) 1 1 p107 hi hz0 hz1 hz2 rfl (by decide) _ _ _ rfl hown ad m c news rfl (by omega) hnews1 h1 ?c3 ?c4 ?c5 ?_)
  case c3 => unfold maxLen; omega
  case c4 => omega
  case c5 => have := hb1.size; omega
  intro v' w2 hown' hgrow _
  have hlt : b < w1.heap.size := by
    rcases Nat.lt_or_ge b w1.heap.size with h' | h'
    · exact h'
    · simp [Array.getElem?_eq_none h'] at hbk
  have hb2 : w2.heap[b]? = some (.cells #[.pointer (some ⟨b, 0, none⟩), v] 117 (0, 0)) := by
    rw [hgrow.block b hlt (fun e => hne e.symm)]
    exact hbk
  have d0 : w2.cell? ⟨b, 0, none⟩ = some (.pointer (some ⟨b, 0, none⟩)) := by rw [Lib.cell_of_heap hb2]; rfl
  have d1 : w2.cell? ⟨b, 1, none⟩ = some v := by rw [Lib.cell_of_heap hb2]; rfl
  have f1 : w2.frozen? ⟨b, 1, none⟩ = false := Lib.frozen_of_heap hb2 1
  obtain ⟨ao, n', cap, rfl⟩ : ∃ ao n' cap, v' = .slice ao n' cap := by
    rcases hown'.2 with ⟨hv, _⟩ | ⟨g, cap, cur, hv, _⟩
    · exact ⟨_, _, _, hv⟩
    · exact ⟨_, _, _, hv⟩
  go_wp2
  go_ret2
  refine ⟨rfl, ?_, ?_⟩
  · exact Lib.BuilderAt.put (T := 117) (e := 5) hB hb2 (bs' := bs ++ news) (by simpa [hl] using hown') (by decide)
  · exact (hb1.grown hgrow (by have := hb1.size; omega) (fun k hk => (hown.lt k hk).1)).setCell (p := ⟨b, 1, none⟩) hB _
set_option maxHeartbeats 2000000 in
set_option maxRecDepth 100000 in
theorem writeString_c (B b : Nat) (bs : List Value) (s : ByteArray) (w : World) (h : Lib.IsBuilder 117 5 B b bs w) (hlen : bs.length + s.size ≤ 140737488355328) (hBw : B ≤ w.heap.size) :
    Calls Tryz.prog 71 #[.pointer (some ⟨b, 0, none⟩), .string s] w fun e w' => e = .returned (.tuple #[.int .i64 s.size, .nilIface]) ∧ (Lib.BuilderAt 117 5 B b (.pointer (some ⟨b, 0, none⟩)) (bs ++ Lib.strCells s) w' ∧ Below B w w') := by
  obtain ⟨i0, hi, hz0, hz1, hz2⟩ := info_parts iB
  go_enter Tryz.func71, Tryz.ntmps71
  go_wp2_with (go_at_call 105; refine (copyCheck_c B b bs _ h).mono ?_)
  rintro e w1 ⟨rfl, h1, hb1, hk1⟩
  obtain ⟨hB, v, hbk, hown, hne⟩ := h1
  have c0 : w1.cell? ⟨b, 0, none⟩ = some (.pointer (some ⟨b, 0, none⟩)) := by rw [Lib.cell_of_heap hbk]; rfl
  have c1 : w1.cell? ⟨b, 1, none⟩ = some v := by rw [Lib.cell_of_heap hbk]; rfl
  go_wp2_with (at_builtin; refine Lib.wpList_append_own_string _ rfl _ _ 107 9 rfl B 5 i0 p107 p9 hi hz0 hz1 hz2 _ _ _ rfl hown s rfl ?c3 ?c4 ?c5 ?_)
  case c3 => unfold maxLen; omega
  case c4 => omega
  case c5 => have := hb1.size; omega
  intro v' w2 hown' hgrow _
  have hlt : b < w1.heap.size := by
    rcases Nat.lt_or_ge b w1.heap.size with h' | h'
    · exact h'
    · simp [Array.getElem?_eq_none h'] at hbk
  have hb2 : w2.heap[b]? = some (.cells #[.pointer (some ⟨b, 0, none⟩), v] 117 (0, 0)) := by
    rw [hgrow.block b hlt (fun e => hne e.symm)]
    exact hbk
  have d0 : w2.cell? ⟨b, 0, none⟩ = some (.pointer (some ⟨b, 0, none⟩)) := by rw [Lib.cell_of_heap hb2]; rfl
  have d1 : w2.cell? ⟨b, 1, none⟩ = some v := by rw [Lib.cell_of_heap hb2]; rfl
  have f1 : w2.frozen? ⟨b, 1, none⟩ = false := Lib.frozen_of_heap hb2 1
  obtain ⟨ao, n', cap, rfl⟩ : ∃ ao n' cap, v' = .slice ao n' cap := by
    rcases hown'.2 with ⟨hv, _⟩ | ⟨g, cap, cur, hv, _⟩
    · exact ⟨_, _, _, hv⟩
    · exact ⟨_, _, _, hv⟩
  go_wp2
  go_ret2
  refine ⟨rfl, ?_, ?_⟩
  · exact Lib.BuilderAt.put (T := 117) (e := 5) hB hb2 (bs' := bs ++ Lib.strCells s) (by simpa [Lib.strCells_length] using hown') (by decide)
  · exact (hb1.grown hgrow (by have := hb1.size; omega) (fun k hk => (hown.lt k hk).1)).setCell (p := ⟨b, 1, none⟩) hB _
end Go.Ab
namespace Go.Ab
open Go Go.Proofs Go.RowKit Go.Shelf
set_option linter.unusedVariables false
@[reducible] def GT : Glob :=
  { inv := fun _ _ => True
    mono := fun _ _ _ => trivial
    cells := fun _ => none
    look := fun _ h => by cases h }
theorem len70 (n : Nat) (h : n < 2^40) (w : World) : Calls Tryz.prog 70 #[.int .i64 n] w fun e w' => ∃ ad cap, e = .returned (.slice (some ad) (lenB n).length cap) ∧ Below w.heap.size w w' ∧ w.heap.size ≤ ad.block ∧
    ∀ j u, (Lib.byteCells (lenB n))[j]? = some u → w'.cell? (ad.add j) = some u := by
  have H0 : @HeapOK GT w (fun _ => False) pm0 dead 0 := @HeapOK.mk GT _ _ _ _ _ (fun _ => trivial) (fun id id' b ⟨g, _, _, h1, _⟩ => by cases h1) (fun id b ⟨g, _, _, h1, _⟩ => by cases h1) (fun _ h => h.elim) (fun id _ => ⟨rfl, fun _ => rfl⟩) trivial
  refine (@APure.callX GT _ _ _ _ (@plen_c GT n h) (by simp [ltL, AV.lt]) w _ pm0 dead 0 #[.int .i64 n] H0 rfl fun j h1 h2 => ?_).mono ?_
  · match j, h1 with
    | 0, _ => exact .int
  rintro e w' ⟨v, S', rfl, H', st, r⟩
  have hne : encB (lenB n) ≠ [] := by
    rw [lenB]; split <;> simp [encB]
  generalize hx : encB (lenB n) = xs at r hne
  cases r with
  | slnil => exact absurd rfl hne
  | @sl _ _ b off sz cap V hs hcap hsz hc ho hr =>
    subst hx
    have hle : (encB (lenB n)).length = (lenB n).length := by simp [encB]
    refine ⟨⟨b, off, none⟩, cap, by rw [hle], ⟨st.os, st.tape, st.out, st.size, fun k hk => st.keep k hk fun id ⟨g, _, _, h1, _⟩ => by cases h1⟩, ?_, ?_⟩
    · rcases st.from_ b hs with h | ⟨id, g, _, _, h1, _⟩ | h
      · exact h.elim
      · cases h1
      · exact h
    · intro j u hj
      have hjl : j < (lenB n).length := by
        rcases Nat.lt_or_ge j (lenB n).length with h' | h'
        · exact h'
        · rw [List.getElem?_eq_none (by simpa [Lib.byteCells] using h')] at hj; cases hj
      have h1 := hc j 0 (by omega) (by omega)
      have h2 := hr j 0 (by omega) (by simp [encB])
      have e1 : ((encB (lenB n))[j]'(by omega))[0]'(by simp [encB]) = .int .u8 ((lenB n)[j]).toNat := by simp [encB]
      rw [e1] at h2
      have e2 := rel_int h2
      have e3 : u = .int .u8 ((lenB n)[j]).toNat := by
        rw [Lib.byteCells, List.getElem?_map, List.getElem?_eq_getElem hjl] at hj
        exact (Option.some.inj hj).symm
      rw [e3, ← e2]
      have e4 : (⟨b, off, none⟩ : Addr).add j = ⟨b, off + j, none⟩ := by unfold Addr.add; split <;> simp_all
      rw [e4]
      simpa using h1
theorem isB_below {T e : TypeId} {B b : Nat} {bs : List Value} {w w' : World} (h : Lib.IsBuilder T e B b bs w) (hb : Below w.heap.size w w') : Lib.IsBuilder T e B b bs w' := by
  have key : ∀ p, Lib.BuilderAt T e B b p bs w → Lib.BuilderAt T e B b p bs w' := by
    rintro p ⟨h1, v, h2, h3, h4⟩
    have lt : ∀ k o, w.heap[k]? = some o → w'.heap[k]? = some o := fun k o hk => by
      rcases Nat.lt_or_ge k w.heap.size with h' | h'
      · rw [hb.block k h']; exact hk
      · rw [Array.getElem?_eq_none h'] at hk; cases hk
    refine ⟨h1, v, lt _ _ h2, ⟨h3.1, ?_⟩, h4⟩
    rcases h3.2 with h | ⟨g, cap, cur, a1, a2, a3, a4⟩
    · exact .inl h
    · exact .inr ⟨g, cap, cur, a1, a2, lt _ _ a3, a4⟩
  exact h.imp (key _) (key _)
theorem rowS_step (l : List (List UInt8)) (k : Nat) (h : k < l.length) : rowS (l.take (k + 1)) = rowS (l.take k) ++ lenB (l[k]).length ++ l[k] := by
  unfold rowS
  rw [List.take_succ_eq_append_getElem h, List.flatMap_append]
  simp
theorem rowS_bnd : ∀ (l : List (List UInt8)), (∀ s ∈ l, s.length < 1000000) → (rowS l).length ≤ l.length * 1000010
  | [], _ => by simp [rowS]
  | s :: l, h => by
    have h1 := h s (by simp)
    have h2 := lenB_len s.length 2 (by omega)
    have h3 := rowS_bnd l fun s hs => h s (by simp [hs])
    have : rowS (s :: l) = lenB s.length ++ s ++ rowS l := rfl
    rw [this]
    simp only [List.length_append, List.length_cons]
    omega
theorem bc_app (a b : List UInt8) : Lib.byteCells (a ++ b) = Lib.byteCells a ++ Lib.byteCells b := by simp [Lib.byteCells]
theorem bc_len (a : List UInt8) : (Lib.byteCells a).length = a.length := by simp [Lib.byteCells]
set_option maxHeartbeats 4000000 in
set_option maxRecDepth 100000 in
theorem row40 (p : Option Addr) (c : Nat) (l : List (List UInt8)) (w : World)
    (hcells : ∀ (j : Nat) x, l[j]? = some x → ∃ bk o, p = some ⟨bk, o, none⟩ ∧ bk < w.heap.size ∧ w.cell? ⟨bk, o + j, none⟩ = some (.string ⟨x.toArray⟩))
    (hl : l.length < 1000) (hs : ∀ s ∈ l, s.length < 1000000) :
    Calls Tryz.prog 40 #[.slice p l.length c] w fun e w' => e = .returned (.string ⟨(rowS l).toArray⟩) ∧ Below w.heap.size w w' := by
  have fr := Lib.fresh_isBuilder 117 5 w
  go_enter Tryz.func40, Tryz.ntmps40
  go_wp2_with fail
  all_goals (
    go_loopw [8] (fun i wr => ∃ k : Nat, k ≤ l.length ∧ i = .int .i64 k ∧ Lib.IsBuilder 117 5 w.heap.size w.heap.size (Lib.byteCells (rowS (l.take k))) wr ∧ Below w.heap.size w wr) (fun i _ => l.length - (intOf i).toNat)
    case atStart => exact ⟨0, Nat.zero_le _, rfl, fr, (Below.refl _ _).alloc (Nat.le_refl _) _⟩
    case round =>
      obtain ⟨k, hk, rfl, hb, hbl⟩ := hrel
      by_cases hkn : k < l.length
      · obtain ⟨bk, o, rfl, hbk, hcell⟩ := hcells k l[k] (List.getElem?_eq_getElem hkn)
        have hcell' : wr.cell? ⟨bk, o + k, none⟩ = some (.string ⟨l[k].toArray⟩) := (hbl.cell (p := ⟨bk, o + k, none⟩) hbk).trans hcell
        have hsk : l[k].length < 1000000 := hs _ (List.getElem_mem _)
        have hrl := rowS_bnd (l.take k) fun s h => hs s (List.mem_of_mem_take h)
        have hrl2 : (rowS (l.take k)).length ≤ 1000 * 1000010 := by
          have := List.length_take_le k l
          refine Nat.le_trans hrl (Nat.mul_le_mul_right _ (by rw [List.length_take]; omega))
        have hL3 := lenB_len l[k].length 2 (by omega)
        clear hrl
        go_wp2_with (go_at_call 70; refine (len70 l[k].length (by omega) _).mono ?_)
        rintro e w1 ⟨ad, cap, rfl, hb1, had, hnews⟩
        have hbw := isB_below hb hb1
        go_wp2_with (go_at_call 69; refine (write_c _ _ _ ad (lenB l[k].length).length cap (Lib.byteCells (lenB l[k].length)) _ hbw (bc_len _) hnews ?k1 ?k2 ?k3 ?k4).mono ?_)
        case k1 => have : w.heap.size < wr.heap.size := hb.elim (·.lt) (·.lt); omega
        case k2 => intro u hu; simp only [Lib.byteCells, List.mem_map] at hu; obtain ⟨x, _, rfl⟩ := hu; rfl
        case k3 => rw [bc_len]; omega
        case k4 => have := hbl.size; have := hb1.size; omega
        rintro e w2 ⟨rfl, hb2, hbl2⟩
        go_wp2_with (go_at_call 71; refine (writeString_c _ _ _ ⟨l[k].toArray⟩ _ (.inr hb2) ?k5 ?k6).mono ?_)
        case k5 => rw [List.length_append, bc_len, bc_len]; show _ + l[k].length ≤ _; omega
        case k6 => have := hbl.size; have := hb1.size; have := hbl2.size; omega
        rintro e w3 ⟨rfl, hb3, hbl3⟩
        go_wp2_with fail
        refine ⟨⟨k + 1, by omega, by rw [Int.natCast_succ], ?_, hbl.trans (((hb1.mono hbl.size).trans hbl2).trans hbl3)⟩, ?_⟩
        · rw [rowS_step l k hkn, bc_app, bc_app]
          exact .inr hb3
        · simp [intOf]; omega
      · have : k = l.length := by omega
        subst this
        rw [List.take_length] at hb
        go_wp2_with (go_at_call 72; refine (Tryz.Builder_String_any w.heap.size w.heap.size (rowS l) _ hb hbl.size).mono ?_)
        rintro e w' ⟨rfl, hbl2⟩
        go_wp2_with fail
        go_ret
        exact ⟨rfl, hbl.trans hbl2⟩)
instance [Glob] : LibR :=
  { row := fun l hl hs => by
      refine apure_below ⟨_, Tryz.func40, by kernel_rfl, by kernel_rfl⟩ trivial fun w S vs hg hb hlen hr0 => ?_
      obtain ⟨x, rfl⟩ := arr1 hlen
      obtain ⟨φ, r0⟩ := hr0 0 (by simp) (by simp)
      have r1 : Rel w S φ (.sl 1 (encT l)) x := r0
      clear hr0 r0
      have hx : ∃ p c, x = .slice p l.length c ∧ ∀ (j : Nat) x, l[j]? = some x → ∃ bk o, p = some ⟨bk, o, none⟩ ∧ bk < w.heap.size ∧ w.cell? ⟨bk, o + j, none⟩ = some (.string ⟨x.toArray⟩) := by
        generalize hx : encT l = xs at r1
        have hle : xs.length = l.length := by subst hx; simp [encT]
        cases r1 with
        | slnil =>
          have : l = [] := by simpa using hle.symm
          subst this
          exact ⟨none, 0, rfl, fun j x h => by cases h⟩
        | @sl _ _ b off sz cap V hs hcap hsz hc ho hr =>
          subst hx
          refine ⟨some ⟨b, off, none⟩, cap, by rw [hle], fun j x hj => ⟨b, off, rfl, hb _ hs, ?_⟩⟩
          have hjl : j < l.length := by
            rcases Nat.lt_or_ge j l.length with h' | h'
            · exact h'
            · rw [List.getElem?_eq_none h'] at hj; cases hj
          have h1 := hc j 0 (by omega) (by omega)
          have h2 := hr j 0 (by omega) (by simp [encT])
          have e1 : ((encT l)[j]'(by omega))[0]'(by simp [encT]) = .str l[j] := by simp [encT]
          rw [e1] at h2
          rw [List.getElem?_eq_getElem hjl] at hj
          rw [← Option.some.inj hj, ← rel_str h2]
          simpa using h1
      obtain ⟨p, c, rfl, hx⟩ := hx
      refine (row40 p c l w hx hl hs).mono ?_
      rintro e w' ⟨rfl, hbl⟩
      exact ⟨_, rfl, relA_str _, hbl⟩ }
end Go.Ab
namespace Go.Ab
open Go Go.Proofs Go.RowKit Go.ChangeShapes
variable {H : Type} {enc : TypeId × Value → H}
theorem cz28 : Tryz.prog.cellsOf 28 = 11 := by kernel_rfl
theorem cz26 : Tryz.prog.cellsOf 26 = 10 := by kernel_rfl
theorem cz25 : Tryz.prog.cellsOf 25 = 2 := by kernel_rfl
theorem cz22 : Tryz.prog.cellsOf 22 = 1 := by kernel_rfl
theorem cz23 : Tryz.prog.cellsOf 23 = 1 := by kernel_rfl
theorem cz55 : Tryz.prog.cellsOf 55 = 4 := by kernel_rfl
theorem cz3 : Tryz.prog.cellsOf 3 = 1 := by kernel_rfl
theorem cz4 : Tryz.prog.cellsOf 4 = 1 := by kernel_rfl
theorem cz9 : Tryz.prog.cellsOf 9 = 1 := by kernel_rfl
theorem ct28 : Tryz.prog.cellTypes Tryz.prog.depth 28 = some ([22, 23, 22, 23, 22, 23, 22, 23, 22, 23, 3] : List Nat) := by kernel_rfl
theorem trod_bool {W : World} {sp : Nat → Bool} {held : Bool} {fuel : Nat} {t : TypeId} {cs : List Value} {x : DataW H × List MemPlace} {P : Program} (ht : P.underlying t = some .bool) (h : DataW.trod enc P W 0 sp held fuel t cs = some x) : ∃ b, cs = [.bool b] := by
  cases fuel with
  | zero => simp [DataW.trod] at h
  | succ n =>
    unfold DataW.trod at h
    rw [ht] at h
    split at h <;> simp_all
theorem obj_open {W : World} (fuel : Nat) (es : List Value) (y : DataW H × List MemPlace) (h : DataW.trod enc Tryz.prog W 0 (fun _ => true) true fuel 55 es = some y) (hl : es.length = 4) :
    ∃ x : Obj, ∀ j (h : j < x.av.length) (h' : j < es.length), RelA (x.av)[j] es[j] ∧ es[j].oneCell' = true := by
  match es, hl with
  | [c0, c1, c2, c3], _ =>
    obtain ⟨y0, y1, y2, y3, n, _, _, t0, t1, t2, t3⟩ := Joins.trod_struct4 Tryz.underlying55 h
    simp only [cz9, cz4, List.drop, List.take] at t0 t1 t2 t3
    obtain ⟨s0, e0, _⟩ := DataW.trod_string Tryz.underlying9 t0
    obtain ⟨s1, e1, _⟩ := DataW.trod_string Tryz.underlying9 t1
    obtain ⟨s2, e2, _⟩ := DataW.trod_string Tryz.underlying9 t2
    obtain ⟨b, e3⟩ := trod_bool Tryz.underlying4 t3
    simp only [List.cons.injEq, and_true] at e0 e1 e2 e3
    subst e0; subst e1; subst e2; subst e3
    refine ⟨⟨s0.data.toList, s1.data.toList, s2.data.toList, b⟩, fun j h1 h2 => ?_⟩
    match j, h2 with
    | 0, _ => exact ⟨fun _ _ _ => .str, rfl⟩
    | 1, _ => exact ⟨fun _ _ _ => .str, rfl⟩
    | 2, _ => exact ⟨fun _ _ _ => .str, rfl⟩
    | 3, _ => exact ⟨fun _ _ _ => .bool, rfl⟩
theorem int_open {W : World} (fuel : Nat) (es : List Value) (y : DataW H × List MemPlace) (h : DataW.trod enc Tryz.prog W 0 (fun _ => true) true fuel 3 es = some y) (hl : es.length = 1) :
    ∃ x : Int, ∀ j (h : j < [AV.int .i64 x].length) (h' : j < es.length), RelA ([AV.int .i64 x])[j] es[j] ∧ es[j].oneCell' = true := by
  obtain ⟨n, rfl, _, _⟩ := DataW.trod_int Tryz.underlying3 h
  refine ⟨n, fun j h1 h2 => ?_⟩
  match j, h2 with
  | 0, _ => exact ⟨fun _ _ _ => .int, rfl⟩
set_option maxRecDepth 100000 in
theorem shelf_open {W : World} {r : Reach} {base : Nat} {a b : Value} {fuel : Nat} {y : DataW H × List MemPlace} (h : DataW.trod enc Tryz.prog W 0 (fun _ => true) true fuel 25 [a, b] = some y)
    (ha : Cell.okWide Tryz.prog W r base (22 : Nat) a) (hb : Cell.okWide Tryz.prog W r base (23 : Nat) b) :
    ∃ s : Shelf, Rel W (fun b => b < W.heap.size) pm0 (.sl 4 (s.objs.map Obj.av)) a ∧ Rel W (fun b => b < W.heap.size) pm0 (.sl 1 (encI s.fates)) b := by
  obtain ⟨y0, y1, n, _, _, t0, t1⟩ := trod_struct2 Tryz.underlying25 h
  simp only [cz22, cz23, List.drop, List.take] at t0 t1
  have q0 := sl_open (enc := enc) (W := W) Tryz.underlying22 cz55 Obj Obj.av ⟨[], [], [], false⟩ (fun _ => rfl) (fun fuel es y h hl => obj_open fuel es y h hl) (r := r) (base := base) (c := a)
  have q1 := sl_open (enc := enc) (W := W) Tryz.underlying23 cz3 Int (fun n => [AV.int .i64 n]) 0 (fun _ => rfl) (fun fuel es y h hl => int_open fuel es y h hl) (r := r) (base := base) (c := b)
  obtain ⟨xs, r0⟩ := q0 ha t0
  obtain ⟨ys, r1⟩ := q1 hb t1
  exact ⟨⟨xs, ys⟩, r0, r1⟩
set_option maxRecDepth 20000 in
theorem list11 {α : Type} {l : List α} (h : l.length = 11) : ∃ a b c d e f g i j k m, l = [a, b, c, d, e, f, g, i, j, k, m] := by
  rcases l with _ | ⟨a0, _ | ⟨a1, _ | ⟨a2, _ | ⟨a3, _ | ⟨a4, _ | ⟨a5, _ | ⟨a6, _ | ⟨a7, _ | ⟨a8, _ | ⟨a9, _ | ⟨a10, _ | ⟨a11, l⟩⟩⟩⟩⟩⟩⟩⟩⟩⟩⟩⟩
  all_goals first | exact ⟨_, _, _, _, _, _, _, _, _, _, _, rfl⟩ | (simp only [List.length_cons, List.length_nil] at h; omega)
set_option maxRecDepth 20000 in
theorem store_open {W : World} {base : Nat} {v : Value} {d : DataW H} {ps : List MemPlace} (hok : Value.okWide Tryz.prog W .any base 28 v) (h : DataW.Trod enc Tryz.prog W 0 (fun _ => true) true 28 v d ps) :
    ∃ s : Store, Rel W (fun b => b < W.heap.size) pm0 (.agg s.av) v ∧ lok s := by
  unfold Value.okWide at hok
  rw [Tryz.underlying28] at hok
  obtain ⟨⟨l⟩, rfl, hsz, ts, hts, _, hc⟩ := hok
  rw [ct28] at hts
  obtain rfl := Option.some.inj hts
  rw [cz28] at hsz
  obtain ⟨c0, c1, c2, c3, c4, c5, c6, c7, c8, c9, c10, rfl⟩ := list11 (by simpa using hsz)
  obtain ⟨fuel, h⟩ := h
  have h : DataW.trod enc Tryz.prog W 0 (fun _ => true) true fuel 28 [c0, c1, c2, c3, c4, c5, c6, c7, c8, c9, c10] = some (d, ps) := h
  obtain ⟨y0, y1, n, _, _, t0, t1⟩ := trod_struct2 Tryz.underlying28 h
  simp only [cz26, cz3, List.drop, List.take] at t0 t1
  obtain ⟨xs, m, _, _, _, hxl, ht⟩ := DataW.trod_array Tryz.underlying26 t0
  rw [cz25] at ht
  have ok : ∀ (i : Nat) (u : Nat) v, ([22, 23, 22, 23, 22, 23, 22, 23, 22, 23, 3] : List Nat)[i]? = some u → [c0, c1, c2, c3, c4, c5, c6, c7, c8, c9, c10][i]? = some v → Cell.okWide Tryz.prog W .any base u v := by
    intro i u v hu hv
    have hi : i < 11 := by
      rcases Nat.lt_or_ge i 11 with h' | h'
      · exact h'
      · rw [List.getElem?_eq_none (by simpa using h')] at hu; cases hu
    obtain ⟨u', e1, e2⟩ := hc i v (by simpa using hv)
    have : i % 11 = i := Nat.mod_eq_of_lt hi
    simp only [List.length_cons, List.length_nil] at e1
    rw [this, hu] at e1
    cases e1
    exact e2
  have sh : ∀ i (hi : i < 5) a b, (([c0, c1, c2, c3, c4, c5, c6, c7, c8, c9].drop (i * 2)).take 2) = [a, b] → Cell.okWide Tryz.prog W .any base (22 : Nat) a → Cell.okWide Tryz.prog W .any base (23 : Nat) b →
      ∃ s : Shelf, Rel W (fun b => b < W.heap.size) pm0 (.sl 4 (s.objs.map Obj.av)) a ∧ Rel W (fun b => b < W.heap.size) pm0 (.sl 1 (encI s.fates)) b := by
    intro i hi a b e h1 h2
    have := ht i hi
    rw [e, List.getElem?_eq_getElem (by omega)] at this
    exact shelf_open this h1 h2
  obtain ⟨s0, a0, b0⟩ := sh 0 (by omega) c0 c1 rfl (ok 0 _ _ rfl rfl) (ok 1 _ _ rfl rfl)
  obtain ⟨s1, a1, b1⟩ := sh 1 (by omega) c2 c3 rfl (ok 2 _ _ rfl rfl) (ok 3 _ _ rfl rfl)
  obtain ⟨s2, a2, b2⟩ := sh 2 (by omega) c4 c5 rfl (ok 4 _ _ rfl rfl) (ok 5 _ _ rfl rfl)
  obtain ⟨s3, a3, b3⟩ := sh 3 (by omega) c6 c7 rfl (ok 6 _ _ rfl rfl) (ok 7 _ _ rfl rfl)
  obtain ⟨s4, a4, b4⟩ := sh 4 (by omega) c8 c9 rfl (ok 8 _ _ rfl rfl) (ok 9 _ _ rfl rfl)
  obtain ⟨k, e, _, hw⟩ := DataW.trod_int Tryz.underlying3 t1
  simp only [List.cons.injEq, and_true] at e
  subst e
  refine ⟨⟨s0, s1, s2, s3, s4, k⟩, .agg rfl fun i h1 h2 => ?_, ?_⟩
  · match i, h2 with
    | 0, _ => exact a0
    | 1, _ => exact b0
    | 2, _ => exact a1
    | 3, _ => exact b1
    | 4, _ => exact a2
    | 5, _ => exact b2
    | 6, _ => exact a3
    | 7, _ => exact b3
    | 8, _ => exact a4
    | 9, _ => exact b4
    | 10, _ => exact .int
  · simp only [Lit.wf] at hw
    simp only [Bool.and_eq_true, decide_eq_true_eq] at hw
    have h1 : IntKind.i64.min = -9223372036854775808 := by decide
    have h2 : IntKind.i64.max = 9223372036854775807 := by decide
    rw [h1, h2] at hw
    exact hw
end Go.Ab
namespace Go.Ab
open Go Go.Proofs Go.RowKit Go.ChangeShapes Go.WideShapes
open Go.Proofs.YthgmopnabpnicaaGreatDoor
instance [Glob] : LibB := ⟨at_ok⟩
theorem looks_c (s : Store) (name : List UInt8) (hl : lok s) : APure Tryz.prog 3 [.agg s.av, .str name] (.bool true) := scrubLooks_c s name hl

theorem g0 : Tryz.prog.globalNamed "internal/strconv.uint64pow10" = some 0 := by kernel_rfl
theorem g2 : Tryz.prog.globalNamed "strconv.ErrSyntax" = some 2 := by kernel_rfl
theorem g3 : Tryz.prog.globalNamed "strconv.ErrRange" = some 3 := by kernel_rfl
theorem gt0 : (Tryz.prog.globals[0]?).map (·.type) = some 204 := by kernel_rfl
theorem gt2 : (Tryz.prog.globals[2]?).map (·.type) = some 119 := by kernel_rfl
theorem gt3 : (Tryz.prog.globals[3]?).map (·.type) = some 119 := by kernel_rfl
theorem cz204 : Tryz.prog.cellsOf 204 = 20 := by kernel_rfl
theorem cz155 : Tryz.prog.cellsOf 155 = 1 := by kernel_rfl
def laidL : List (String × DataW Unit) := [("math/bits.deBruijn32tab", Rows.laid_math_bits_deBruijn32tab), ("math/bits.deBruijn64tab", Rows.laid_math_bits_deBruijn64tab), ("internal/strconv.uint64pow10", Rows.laid_internal_strconv_uint64pow10), ("strconv.ErrRange", Rows.laid_strconv_ErrRange), ("strconv.ErrSyntax", Rows.laid_strconv_ErrSyntax)]
theorem var_lt {W : World} {n : String} {g : Nat} {cs : Array Value} (hg : Tryz.prog.globalNamed n = some g) (h : W.var? Tryz.prog n = some cs) : g < W.heap.size := by
  unfold World.var? at h
  rw [hg] at h
  simp only [Option.bind_some] at h
  rcases Nat.lt_or_ge g W.heap.size with h' | h'
  · exact h'
  · simp [Array.getElem?_eq_none h'] at h
/-- what the row's condition gives -/
theorem gs_of_laid {W : World} (h : laidMet Tryz.prog laidL W) : GS.inv W (fun b => b < W.heap.size) := by
  obtain ⟨ps, ⟨ga, ta, ca, fa, pa, qa, hga, hta, hva, hda, ⟨gb, tb, cb, fb, pb, qb, hgb, htb, hvb, hdb, ⟨gc, tc, cc, fc, pc, qc, hgc, htc, hvc, hdc, ⟨gd, td, cd, fd, pd, qd, hgd, htd, hvd, hdd, ⟨ge, te, ce, fe, pe, qe, hge, hte, hve, hde, hqe, _⟩, _⟩, _⟩, _⟩, _⟩, hnd, hrows⟩ := h
  obtain rfl := Option.some.inj (g0.symm.trans hgc)
  obtain rfl := Option.some.inj (gt0.symm.trans htc)
  obtain rfl := Option.some.inj (g3.symm.trans hgd)
  obtain rfl := Option.some.inj (gt3.symm.trans htd)
  obtain rfl := Option.some.inj (g2.symm.trans hge)
  obtain rfl := Option.some.inj (gt2.symm.trans hte)
  have ec : cc.toList = Lib.pow10Tab.map fun z => Value.int .u64 z := Lib.cells_of_tab Tryz.underlying204 Tryz.underlying155 cz155 cz204 (show DataW.trod _ _ _ _ _ _ _ _ _ = some (Lib.tabData .u64 Lib.pow10Tab, pc) from hdc)
  obtain ⟨_, ud, vd, ed, _, _⟩ := iface_of_trod Tryz.underlying119 hdd
  obtain ⟨_, ue, ve, ee, _, _⟩ := iface_of_trod Tryz.underlying119 hde
  refine ⟨⟨?_, ⟨ue, ve, ?_⟩, ud, vd, ?_⟩, ?_⟩
  · unfold Lib.TabIs
    rw [hvc, ← ec]
  · rw [hve]
    obtain ⟨l⟩ := ce
    simp only at ee
    rw [ee]
  · rw [hvd]
    obtain ⟨l⟩ := cd
    simp only at ed
    rw [ed]
  · intro n hn g hg
    simp only [gNames, List.mem_cons, List.not_mem_nil, or_false] at hn
    rcases hn with rfl | rfl | rfl
    · exact var_lt hg hvc
    · exact var_lt hg hve
    · exact var_lt hg hvd
/-- the law's run, in a world in which the row's condition stands -/
theorem looks_calls {W : World} {v0 v1 : Value} {s : Store} {name : List UInt8} (hg : GS.inv W (fun b => b < W.heap.size)) (r0 : Rel W (fun b => b < W.heap.size) pm0 (.agg s.av) v0) (r1 : Rel W (fun b => b < W.heap.size) pm0 (.str name) v1) (hl : lok s) :
    Calls Tryz.prog 3 #[v0, v1] W fun e W' => e = .returned (.bool true) ∧ Below W.heap.size W W' := by
  have H0 : HeapOK W (fun b => b < W.heap.size) pm0 dead 0 := ⟨fun _ => trivial, (fun id id' b ⟨g, _, _, h1, _⟩ => by cases h1), (fun id b ⟨g, _, _, h1, _⟩ => by cases h1), fun _ h => h, fun id _ => ⟨rfl, fun _ => rfl⟩, hg⟩
  refine ((looks_c s name hl).2 W _ pm0 #[v0, v1] H0 rfl fun j h1 h2 => ?_).mono ?_
  · match j, h1 with
    | 0, _ => exact r0
    | 1, _ => exact r1
  rintro e W' ⟨v, r, h', n', φ', S', rfl, ⟨rfl, _⟩, _, _, st, hv⟩
  have : v = .bool true := by cases hv; rfl
  subst this
  exact ⟨rfl, st.os, st.tape, st.out, st.size, fun k hk => st.keep k hk fun id ⟨g, _, _, h1, _⟩ => by cases h1⟩
/-! ### a world that meets the condition -/
noncomputable def lowW : Nat := (World.holding Tryz.prog default ⟨#[], #[], []⟩).heap.size
def arrV (l : List Int) (k : IntKind) : Array Value := (l.map fun n => Value.int k n).toArray
def tab32 : List Int := [0, 1, 28, 2, 29, 14, 24, 3, 30, 22, 20, 15, 25, 17, 4, 8, 31, 27, 13, 23, 21, 19, 16, 7, 26, 12, 18, 6, 11, 5, 10, 9]
def tab64 : List Int := [0, 1, 56, 2, 57, 49, 28, 3, 61, 58, 42, 50, 38, 29, 17, 4, 62, 47, 59, 36, 45, 43, 51, 22, 53, 39, 33, 30, 24, 18, 12, 5, 63, 55, 48, 27, 60, 41, 37, 16, 46, 35, 44, 21, 52, 32, 23, 11, 54, 26, 40, 15, 34, 20, 31, 10, 25, 14, 19, 9, 13, 8, 7, 6]
def setB (cs : Array Value) : Go.Obj → Go.Obj
  | .cells _ t frozen => .cells cs t frozen
  | o => o
abbrev rangeS : ByteArray := { data := #[118, 97, 108, 117, 101, 32, 111, 117, 116, 32, 111, 102, 32, 114, 97, 110, 103, 101] }
abbrev syntaxS : ByteArray := { data := #[105, 110, 118, 97, 108, 105, 100, 32, 115, 121, 110, 116, 97, 120] }
noncomputable def laidWorld (os : Os) : World :=
  let w0 := World.holding Tryz.prog os ⟨#[.cells #[.string rangeS] 233, .cells #[.string syntaxS] 233], #[], []⟩
  { w0 with heap := ((((w0.heap.modify 0 (setB (arrV Lib.pow10Tab .u64))).modify 4 (setB (arrV tab32 .u8))).modify 5 (setB (arrV tab64 .u8))).modify 3 (setB #[.iface 231 (.pointer (some ⟨lowW, 0, none⟩))])).modify 2 (setB #[.iface 231 (.pointer (some ⟨lowW + 1, 0, none⟩))]) }
def arg0 : Array Value := #[.agg #[.slice none 0 0, .slice none 0 0, .slice none 0 0, .slice none 0 0, .slice none 0 0, .slice none 0 0, .slice none 0 0, .slice none 0 0, .slice none 0 0, .slice none 0 0, .int .i64 0], .string ⟨#[]⟩]
theorem laidWorld_met (os : Os) (args : Array Value) : laidMet Tryz.prog laidL ((laidWorld os).forCall (fun _ _ => 0) ⟨#[], args, []⟩).memory :=
  laidMet_of_run' 8 (by kernel_rfl) (by kernel_rfl)
end Go.Ab
namespace Go.Ab
open Go Go.Proofs Go.RowKit Go.ChangeShapes Go.WideShapes
open Go.Proofs.YthgmopnabpnicaaGreatDoor
theorem ownK : ownKnob Tryz.prog.godebug = none := by kernel_rfl
theorem lObP : laidOutB Tryz.prog = true := by kernel_rfl
theorem mRoP : mapsRowed Tryz.prog = true := by kernel_rfl
theorem slF : ∀ t e, t < Tryz.prog.types.size → Tryz.prog.underlying t = some (.slice e) → 0 < Tryz.prog.cellsOf e := slices_full_of _ (by kernel_rfl)
theorem tsz : Tryz.prog.types.size = 246 := by kernel_rfl
theorem keptBut_below {W W' : World} {may : MemPlace → Prop} (h : Below W.heap.size W W') : W.keptBut W' may := by
  refine ⟨h.os, h.output, fun i hi => ?_⟩
  rw [h.block i hi]
  split
  · rename_i h1 h2
    rw [h1] at h2
    cases h2
    exact ⟨rfl, rfl, rfl, fun _ _ => rfl⟩
  · rename_i h1 h2
    rw [h1] at h2
    cases h2
    exact .inr ⟨rfl, rfl⟩
  · rfl
set_option maxRecDepth 100000 in
theorem looks_lifted (os : Os) (started : os.Started) (H : Type) (enc : TypeId × Value → H) :
    ReturnsInHanded {} Tryz.checked os 3 .any (fun w args => (Rows.scrubLooksSpec.pre enc Tryz.prog Tryz.f3 [] false w args ∧ laidMetH Tryz.prog Rows.scrubLooksRow.laid w) ∧ sizedMet enc Tryz.prog Tryz.f3 (OpenSpec.ofChange Rows.scrubLooksSpec) false w args)
      (Rows.scrubLooksSpec.post enc Tryz.prog Tryz.f3 false true false false) := by
  refine returnsInHanded_of_change_and (C := Tryz.checked) (X := fun w _ => laidMetH Tryz.prog Rows.scrubLooksRow.laid w) (fun _ _ _ hh h => h.of_heap hh) ownK started (by kernel_rfl) Tryz.func3
    (ChangeSpec.witness_at (enc := enc) (C := Tryz.checked) (os := os) (X := fun w _ => laidMetH Tryz.prog Rows.scrubLooksRow.laid w) false (laidWorld os) arg0 8 rfl (by kernel_rfl) (by kernel_rfl) (by kernel_rfl) (by kernel_rfl) (by kernel_rfl) (laidWorld_met os _)) ?_
  intro W base args ds gs before hval0 hW _ _ hL _
  have hval : ∀ (j : Nat) t v, Tryz.f3.params[j]? = some t → args[j]? = some v → Value.okWide Tryz.prog W .any base t v := hval0
  have hW' := hW
  obtain ⟨p, q, hA0, hV0, rfl, hfz, hnd⟩ := hW
  have hA : DataW.TrodAll enc Tryz.prog W 0 (fun _ => true) true Tryz.f3.params.toList args.toList ds p := hA0
  have hV : DataW.TrodVars enc Tryz.prog W (fun _ => true) [] gs q := hV0
  rw [Tryz.params3] at hA hval
  have hA2 := hA
  obtain ⟨v0, v1, d0, d1, p0, p1, rfl, rfl, rfl, h0, h1⟩ := trodAll_two hA
  obtain ⟨s, r0, hl⟩ := store_open (hval 0 28 v0 rfl rfl) h0
  have hv1 := hval 1 9 v1 rfl rfl
  unfold Value.okWide at hv1
  rw [Tryz.underlying9] at hv1
  obtain ⟨nm, rfl⟩ : ∃ nm : ByteArray, v1 = .string nm := by
    unfold Cell.okWide Cell.ok at hv1
    rw [Tryz.underlying9] at hv1
    cases v1 <;> first | exact ⟨_, rfl⟩ | exact hv1.elim
  obtain ⟨rfl, rfl⟩ : gs = [] ∧ q = [] := by
    cases gs with
    | nil => exact ⟨rfl, hV⟩
    | cons g r => exact absurd hV (by intro h; cases h)
  have hg := gs_of_laid (show laidMet Tryz.prog laidL W from hL)
  refine (looks_calls (s := s) (name := nm.data.toList) hg r0 .str hl).mono fun e W' ⟨he, hb⟩ => ?_
  subst he
  have e1 : Rows.scrubLooksSpec.fn H ([d0, d1] ++ []) = { results := [.lit (.bool true)], args := [d0, d1] } := by simp [Rows.scrubLooksSpec]
  refine ⟨_, rfl, _, _, _, [], p0 ++ p1, [], hW', ?_, ?_, ?_, keptBut_below hb, fun h => by cases h⟩
  · rw [e1]; exact trodAll_mk1 (shut_bool Tryz.underlying4 true)
  · rw [e1]
    have := args_later lObP mRoP slF (by rw [tsz]; simp) hA2 hb.block
    rw [Tryz.params3]
    exact this
  · rw [e1]; rfl

theorem looks_holds : Rows.ScrubLooksSaid :=
  OpenClaim.holds_of_wide 3 Tryz.f3 rfl rfl rfl rfl rfl rfl rfl ⟨rfl, rfl, rfl, rfl, rfl⟩ rfl rfl rfl rfl rfl (by kernel_rfl) Tryz.func3 (by kernel_rfl)
    (of_decide_eq_true (by kernel_rfl)) (by unfold Func.isWrapper; rw [if_neg (of_decide_eq_false (by kernel_rfl))]; exact ⟨rfl, rfl⟩)
    (fun os started H enc _ => looks_lifted os started H enc)
end Go.Ab
namespace Go.Proofs.YthgmopnabpnicaaGreatDoor
open Go
theorem looks_card_holds : Rows.ScrubLooksCardSaid :=
  Claim7.holds_tied_plain_at .later [] [.data, .data, .data, .sentinel, .sentinel] true (true, "238cafdae1985a0e8ba6e01538e5d9e70a102cd564094ad898a85a8af0a1d928") true
    Go.Ab.looks_holds (fun _ h => by cases h) (by kernel_rfl) (fun _ h => by cases h) scrubLooks_row_tie rfl ⟨rfl, rfl⟩ (by kernel_rfl) rfl
    (fun f fn hf hfn => by
      obtain rfl : f = 3 := Option.some.inj ((show Tryz.prog.funcNamed "hibernacle/hibernaclelaw52.ScrubLooks" = some 3 by kernel_rfl).symm.trans hf) |>.symm
      obtain rfl : fn = Tryz.f3 := (Option.some.inj (Tryz.func3.symm.trans hfn)).symm
      exact ⟨by kernel_rfl, fun j t ht => by
        rw [Tryz.params3] at ht
        have h3 : t = 28 ∨ t = 9 := by
          rcases j with _ | _ | j
          · exact .inl (by simpa using ht.symm)
          · exact .inr (by simpa using ht.symm)
          · simp at ht
        rcases h3 with rfl | rfl
        · exact (show Tryz.prog.wantsStandIn 28 = false by kernel_rfl)
        · exact (show Tryz.prog.wantsStandIn 9 = false by kernel_rfl)⟩)
    (by kernel_rfl)
#print axioms looks_card_holds
end Go.Proofs.YthgmopnabpnicaaGreatDoor
