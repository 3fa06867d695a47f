import Derived.Test.YthgmopnabpnicaaGreatDoorZ08
set_option linter.all false
namespace Go.Ab
open Go
/-! ### UInt16 -/

theorem wrap16 (n : Nat) (h : n < 65536) : IntKind.u16.wrap (n : Int) = n := by rw [IntKind.wrap_u16]; omega
theorem bv16 (x : UInt16) : BitVec.ofInt IntKind.u16.bits ((x.toNat : Nat) : Int) = x.toBitVec := by
  show BitVec.ofInt 16 _ = _
  rw [BitVec.ofInt_natCast]
  apply BitVec.eq_of_toNat_eq
  simp
theorem bv16c (n : Nat) : BitVec.ofInt IntKind.u16.bits (no_index (OfNat.ofNat n) : Int) = (UInt16.ofNat n).toBitVec := by
  show BitVec.ofInt 16 ((n : Nat) : Int) = _
  rw [BitVec.ofInt_natCast]; rfl
theorem v16_and (x y : UInt16) : IntKind.u16.wrap ((BitVec.ofInt IntKind.u16.bits (x.toNat : Int) &&& BitVec.ofInt IntKind.u16.bits (y.toNat : Int)).toNat : Int) = ((x &&& y).toNat : Nat) := by
  rw [bv16, bv16, wrap16 _ (BitVec.isLt _)]; rfl
theorem v16_andc (x : UInt16) (n : Nat) : IntKind.u16.wrap ((BitVec.ofInt IntKind.u16.bits (x.toNat : Int) &&& BitVec.ofInt IntKind.u16.bits (no_index (OfNat.ofNat n) : Int)).toNat : Int) = ((x &&& UInt16.ofNat n).toNat : Nat) := by
  rw [bv16, bv16c, wrap16 _ (BitVec.isLt _)]; rfl
theorem v16_or (x y : UInt16) : IntKind.u16.wrap ((BitVec.ofInt IntKind.u16.bits (x.toNat : Int) ||| BitVec.ofInt IntKind.u16.bits (y.toNat : Int)).toNat : Int) = ((x ||| y).toNat : Nat) := by
  rw [bv16, bv16, wrap16 _ (BitVec.isLt _)]; rfl
theorem v16_orc (x : UInt16) (n : Nat) : IntKind.u16.wrap ((BitVec.ofInt IntKind.u16.bits (x.toNat : Int) ||| BitVec.ofInt IntKind.u16.bits (no_index (OfNat.ofNat n) : Int)).toNat : Int) = ((x ||| UInt16.ofNat n).toNat : Nat) := by
  rw [bv16, bv16c, wrap16 _ (BitVec.isLt _)]; rfl
theorem v16_xor (x y : UInt16) : IntKind.u16.wrap ((BitVec.ofInt IntKind.u16.bits (x.toNat : Int) ^^^ BitVec.ofInt IntKind.u16.bits (y.toNat : Int)).toNat : Int) = ((x ^^^ y).toNat : Nat) := by
  rw [bv16, bv16, wrap16 _ (BitVec.isLt _)]; rfl
theorem v16_xorc (x : UInt16) (n : Nat) : IntKind.u16.wrap ((BitVec.ofInt IntKind.u16.bits (x.toNat : Int) ^^^ BitVec.ofInt IntKind.u16.bits (no_index (OfNat.ofNat n) : Int)).toNat : Int) = ((x ^^^ UInt16.ofNat n).toNat : Nat) := by
  rw [bv16, bv16c, wrap16 _ (BitVec.isLt _)]; rfl
theorem wrap16_mod (n : Nat) : IntKind.u16.wrap (n : Int) = ((n % 65536 : Nat) : Int) := by rw [IntKind.wrap_u16]; omega
theorem v16_add (x y : UInt16) : IntKind.u16.wrap ((x.toNat : Int) + (y.toNat : Int)) = ((x + y).toNat : Nat) := by
  rw [← Int.natCast_add, wrap16_mod]; simp
theorem v16_addc (x : UInt16) (n : Nat) : IntKind.u16.wrap ((x.toNat : Int) + (no_index (OfNat.ofNat n) : Int)) = ((x + UInt16.ofNat n).toNat : Nat) := by
  show IntKind.u16.wrap ((x.toNat : Int) + ((n : Nat) : Int)) = _
  rw [← Int.natCast_add, wrap16_mod]; simp
theorem v16_mul (x y : UInt16) : IntKind.u16.wrap ((x.toNat : Int) * (y.toNat : Int)) = ((x * y).toNat : Nat) := by
  rw [← Int.natCast_mul, wrap16_mod]; simp
theorem v16_mulc (x : UInt16) (n : Nat) : IntKind.u16.wrap ((x.toNat : Int) * (no_index (OfNat.ofNat n) : Int)) = ((x * UInt16.ofNat n).toNat : Nat) := by
  show IntKind.u16.wrap ((x.toNat : Int) * ((n : Nat) : Int)) = _
  rw [← Int.natCast_mul, wrap16_mod]; simp
theorem lt16 (x : UInt16) : (x.toNat : Int) < 65536 := by have := x.toNat_lt; omega
theorem nn16 (x : UInt16) : 0 ≤ (x.toNat : Int) := by omega

theorem v16_shr (x : UInt16) (n : Nat) (h : n < 16) : Int.fdiv (x.toNat : Int) (2 ^ min n IntKind.u16.bits) = ((x >>> UInt16.ofNat n).toNat : Nat) := by
  have e : min n IntKind.u16.bits = n := by show min n 16 = n; omega
  rw [e]
  have e2 : ((2 : Int) ^ n) = ((2 ^ n : Nat) : Int) := by simp
  rw [e2, Int.fdiv_eq_ediv_of_nonneg _ (Int.natCast_nonneg _), ← Int.natCast_ediv]
  congr 1
  simp [UInt16.toNat_shiftRight, Nat.shiftRight_eq_div_pow, Nat.mod_eq_of_lt (show n < 65536 by omega), Nat.mod_eq_of_lt h]
theorem v16_shl (x : UInt16) (n : Nat) (h : n < 16) : IntKind.u16.wrap ((x.toNat : Int) * 2 ^ min n IntKind.u16.bits) = ((x <<< UInt16.ofNat n).toNat : Nat) := by
  have e : min n IntKind.u16.bits = n := by show min n 16 = n; omega
  rw [e]
  have e2 : ((2 : Int) ^ n) = ((2 ^ n : Nat) : Int) := by simp
  rw [e2, ← Int.natCast_mul, wrap16_mod]
  congr 1
  simp [UInt16.toNat_shiftLeft, Nat.shiftLeft_eq, Nat.mod_eq_of_lt (show n < 65536 by omega), Nat.mod_eq_of_lt h]


/-! ### UInt32 -/

theorem wrap32 (n : Nat) (h : n < 4294967296) : IntKind.u32.wrap (n : Int) = n := by rw [IntKind.wrap_u32]; omega
theorem bv32 (x : UInt32) : BitVec.ofInt IntKind.u32.bits ((x.toNat : Nat) : Int) = x.toBitVec := by
  show BitVec.ofInt 32 _ = _
  rw [BitVec.ofInt_natCast]
  apply BitVec.eq_of_toNat_eq
  simp
theorem bv32c (n : Nat) : BitVec.ofInt IntKind.u32.bits (no_index (OfNat.ofNat n) : Int) = (UInt32.ofNat n).toBitVec := by
  show BitVec.ofInt 32 ((n : Nat) : Int) = _
  rw [BitVec.ofInt_natCast]; rfl
theorem v32_and (x y : UInt32) : IntKind.u32.wrap ((BitVec.ofInt IntKind.u32.bits (x.toNat : Int) &&& BitVec.ofInt IntKind.u32.bits (y.toNat : Int)).toNat : Int) = ((x &&& y).toNat : Nat) := by
  rw [bv32, bv32, wrap32 _ (BitVec.isLt _)]; rfl
theorem v32_andc (x : UInt32) (n : Nat) : IntKind.u32.wrap ((BitVec.ofInt IntKind.u32.bits (x.toNat : Int) &&& BitVec.ofInt IntKind.u32.bits (no_index (OfNat.ofNat n) : Int)).toNat : Int) = ((x &&& UInt32.ofNat n).toNat : Nat) := by
  rw [bv32, bv32c, wrap32 _ (BitVec.isLt _)]; rfl
theorem v32_or (x y : UInt32) : IntKind.u32.wrap ((BitVec.ofInt IntKind.u32.bits (x.toNat : Int) ||| BitVec.ofInt IntKind.u32.bits (y.toNat : Int)).toNat : Int) = ((x ||| y).toNat : Nat) := by
  rw [bv32, bv32, wrap32 _ (BitVec.isLt _)]; rfl
theorem v32_orc (x : UInt32) (n : Nat) : IntKind.u32.wrap ((BitVec.ofInt IntKind.u32.bits (x.toNat : Int) ||| BitVec.ofInt IntKind.u32.bits (no_index (OfNat.ofNat n) : Int)).toNat : Int) = ((x ||| UInt32.ofNat n).toNat : Nat) := by
  rw [bv32, bv32c, wrap32 _ (BitVec.isLt _)]; rfl
theorem v32_xor (x y : UInt32) : IntKind.u32.wrap ((BitVec.ofInt IntKind.u32.bits (x.toNat : Int) ^^^ BitVec.ofInt IntKind.u32.bits (y.toNat : Int)).toNat : Int) = ((x ^^^ y).toNat : Nat) := by
  rw [bv32, bv32, wrap32 _ (BitVec.isLt _)]; rfl
theorem v32_xorc (x : UInt32) (n : Nat) : IntKind.u32.wrap ((BitVec.ofInt IntKind.u32.bits (x.toNat : Int) ^^^ BitVec.ofInt IntKind.u32.bits (no_index (OfNat.ofNat n) : Int)).toNat : Int) = ((x ^^^ UInt32.ofNat n).toNat : Nat) := by
  rw [bv32, bv32c, wrap32 _ (BitVec.isLt _)]; rfl
theorem wrap32_mod (n : Nat) : IntKind.u32.wrap (n : Int) = ((n % 4294967296 : Nat) : Int) := by rw [IntKind.wrap_u32]; omega
theorem v32_add (x y : UInt32) : IntKind.u32.wrap ((x.toNat : Int) + (y.toNat : Int)) = ((x + y).toNat : Nat) := by
  rw [← Int.natCast_add, wrap32_mod]; simp
theorem v32_addc (x : UInt32) (n : Nat) : IntKind.u32.wrap ((x.toNat : Int) + (no_index (OfNat.ofNat n) : Int)) = ((x + UInt32.ofNat n).toNat : Nat) := by
  show IntKind.u32.wrap ((x.toNat : Int) + ((n : Nat) : Int)) = _
  rw [← Int.natCast_add, wrap32_mod]; simp
theorem v32_mul (x y : UInt32) : IntKind.u32.wrap ((x.toNat : Int) * (y.toNat : Int)) = ((x * y).toNat : Nat) := by
  rw [← Int.natCast_mul, wrap32_mod]; simp
theorem v32_mulc (x : UInt32) (n : Nat) : IntKind.u32.wrap ((x.toNat : Int) * (no_index (OfNat.ofNat n) : Int)) = ((x * UInt32.ofNat n).toNat : Nat) := by
  show IntKind.u32.wrap ((x.toNat : Int) * ((n : Nat) : Int)) = _
  rw [← Int.natCast_mul, wrap32_mod]; simp
theorem lt32 (x : UInt32) : (x.toNat : Int) < 4294967296 := by have := x.toNat_lt; omega
theorem nn32 (x : UInt32) : 0 ≤ (x.toNat : Int) := by omega

theorem v32_shr (x : UInt32) (n : Nat) (h : n < 32) : Int.fdiv (x.toNat : Int) (2 ^ min n IntKind.u32.bits) = ((x >>> UInt32.ofNat n).toNat : Nat) := by
  have e : min n IntKind.u32.bits = n := by show min n 32 = n; omega
  rw [e]
  have e2 : ((2 : Int) ^ n) = ((2 ^ n : Nat) : Int) := by simp
  rw [e2, Int.fdiv_eq_ediv_of_nonneg _ (Int.natCast_nonneg _), ← Int.natCast_ediv]
  congr 1
  simp [UInt32.toNat_shiftRight, Nat.shiftRight_eq_div_pow, Nat.mod_eq_of_lt (show n < 4294967296 by omega), Nat.mod_eq_of_lt h]
theorem v32_shl (x : UInt32) (n : Nat) (h : n < 32) : IntKind.u32.wrap ((x.toNat : Int) * 2 ^ min n IntKind.u32.bits) = ((x <<< UInt32.ofNat n).toNat : Nat) := by
  have e : min n IntKind.u32.bits = n := by show min n 32 = n; omega
  rw [e]
  have e2 : ((2 : Int) ^ n) = ((2 ^ n : Nat) : Int) := by simp
  rw [e2, ← Int.natCast_mul, wrap32_mod]
  congr 1
  simp [UInt32.toNat_shiftLeft, Nat.shiftLeft_eq, Nat.mod_eq_of_lt (show n < 4294967296 by omega), Nat.mod_eq_of_lt h]


/-! ### UInt64 -/

theorem wrap64 (n : Nat) (h : n < 18446744073709551616) : IntKind.u64.wrap (n : Int) = n := by rw [IntKind.wrap_u64]; omega
theorem bv64 (x : UInt64) : BitVec.ofInt IntKind.u64.bits ((x.toNat : Nat) : Int) = x.toBitVec := by
  show BitVec.ofInt 64 _ = _
  rw [BitVec.ofInt_natCast]
  apply BitVec.eq_of_toNat_eq
  simp
theorem bv64c (n : Nat) : BitVec.ofInt IntKind.u64.bits (no_index (OfNat.ofNat n) : Int) = (UInt64.ofNat n).toBitVec := by
  show BitVec.ofInt 64 ((n : Nat) : Int) = _
  rw [BitVec.ofInt_natCast]; rfl
theorem v64_and (x y : UInt64) : IntKind.u64.wrap ((BitVec.ofInt IntKind.u64.bits (x.toNat : Int) &&& BitVec.ofInt IntKind.u64.bits (y.toNat : Int)).toNat : Int) = ((x &&& y).toNat : Nat) := by
  rw [bv64, bv64, wrap64 _ (BitVec.isLt _)]; rfl
theorem v64_andc (x : UInt64) (n : Nat) : IntKind.u64.wrap ((BitVec.ofInt IntKind.u64.bits (x.toNat : Int) &&& BitVec.ofInt IntKind.u64.bits (no_index (OfNat.ofNat n) : Int)).toNat : Int) = ((x &&& UInt64.ofNat n).toNat : Nat) := by
  rw [bv64, bv64c, wrap64 _ (BitVec.isLt _)]; rfl
theorem v64_or (x y : UInt64) : IntKind.u64.wrap ((BitVec.ofInt IntKind.u64.bits (x.toNat : Int) ||| BitVec.ofInt IntKind.u64.bits (y.toNat : Int)).toNat : Int) = ((x ||| y).toNat : Nat) := by
  rw [bv64, bv64, wrap64 _ (BitVec.isLt _)]; rfl
theorem v64_orc (x : UInt64) (n : Nat) : IntKind.u64.wrap ((BitVec.ofInt IntKind.u64.bits (x.toNat : Int) ||| BitVec.ofInt IntKind.u64.bits (no_index (OfNat.ofNat n) : Int)).toNat : Int) = ((x ||| UInt64.ofNat n).toNat : Nat) := by
  rw [bv64, bv64c, wrap64 _ (BitVec.isLt _)]; rfl
theorem v64_xor (x y : UInt64) : IntKind.u64.wrap ((BitVec.ofInt IntKind.u64.bits (x.toNat : Int) ^^^ BitVec.ofInt IntKind.u64.bits (y.toNat : Int)).toNat : Int) = ((x ^^^ y).toNat : Nat) := by
  rw [bv64, bv64, wrap64 _ (BitVec.isLt _)]; rfl
theorem v64_xorc (x : UInt64) (n : Nat) : IntKind.u64.wrap ((BitVec.ofInt IntKind.u64.bits (x.toNat : Int) ^^^ BitVec.ofInt IntKind.u64.bits (no_index (OfNat.ofNat n) : Int)).toNat : Int) = ((x ^^^ UInt64.ofNat n).toNat : Nat) := by
  rw [bv64, bv64c, wrap64 _ (BitVec.isLt _)]; rfl
theorem wrap64_mod (n : Nat) : IntKind.u64.wrap (n : Int) = ((n % 18446744073709551616 : Nat) : Int) := by rw [IntKind.wrap_u64]; omega
theorem v64_add (x y : UInt64) : IntKind.u64.wrap ((x.toNat : Int) + (y.toNat : Int)) = ((x + y).toNat : Nat) := by
  rw [← Int.natCast_add, wrap64_mod]; simp
theorem v64_addc (x : UInt64) (n : Nat) : IntKind.u64.wrap ((x.toNat : Int) + (no_index (OfNat.ofNat n) : Int)) = ((x + UInt64.ofNat n).toNat : Nat) := by
  show IntKind.u64.wrap ((x.toNat : Int) + ((n : Nat) : Int)) = _
  rw [← Int.natCast_add, wrap64_mod]; simp
theorem v64_mul (x y : UInt64) : IntKind.u64.wrap ((x.toNat : Int) * (y.toNat : Int)) = ((x * y).toNat : Nat) := by
  rw [← Int.natCast_mul, wrap64_mod]; simp
theorem v64_mulc (x : UInt64) (n : Nat) : IntKind.u64.wrap ((x.toNat : Int) * (no_index (OfNat.ofNat n) : Int)) = ((x * UInt64.ofNat n).toNat : Nat) := by
  show IntKind.u64.wrap ((x.toNat : Int) * ((n : Nat) : Int)) = _
  rw [← Int.natCast_mul, wrap64_mod]; simp
theorem lt64 (x : UInt64) : (x.toNat : Int) < 18446744073709551616 := by have := x.toNat_lt; omega
theorem nn64 (x : UInt64) : 0 ≤ (x.toNat : Int) := by omega

theorem v64_shr (x : UInt64) (n : Nat) (h : n < 64) : Int.fdiv (x.toNat : Int) (2 ^ min n IntKind.u64.bits) = ((x >>> UInt64.ofNat n).toNat : Nat) := by
  have e : min n IntKind.u64.bits = n := by show min n 64 = n; omega
  rw [e]
  have e2 : ((2 : Int) ^ n) = ((2 ^ n : Nat) : Int) := by simp
  rw [e2, Int.fdiv_eq_ediv_of_nonneg _ (Int.natCast_nonneg _), ← Int.natCast_ediv]
  congr 1
  simp [UInt64.toNat_shiftRight, Nat.shiftRight_eq_div_pow, Nat.mod_eq_of_lt (show n < 18446744073709551616 by omega), Nat.mod_eq_of_lt h]
theorem v64_shl (x : UInt64) (n : Nat) (h : n < 64) : IntKind.u64.wrap ((x.toNat : Int) * 2 ^ min n IntKind.u64.bits) = ((x <<< UInt64.ofNat n).toNat : Nat) := by
  have e : min n IntKind.u64.bits = n := by show min n 64 = n; omega
  rw [e]
  have e2 : ((2 : Int) ^ n) = ((2 ^ n : Nat) : Int) := by simp
  rw [e2, ← Int.natCast_mul, wrap64_mod]
  congr 1
  simp [UInt64.toNat_shiftLeft, Nat.shiftLeft_eq, Nat.mod_eq_of_lt (show n < 18446744073709551616 by omega), Nat.mod_eq_of_lt h]


end Go.Ab
namespace Go.Ab
open Go
variable [Glob] {P : Program}

/-! ### is a slice nil? it may be either -/
theorem opNil_wp {E : Ent} {nt : Nat} {s : AS} {φ : Pm} {S : Nat → Prop} {a : Act} {w : World} (r : R E nt s φ S a w) {o : Oper} {T T' e : TypeId} {x : Operand} {sz m : Nat} {g : Bool} {xs : List (List AV)}
    (ho : o.op = .binOp .eql T x (.const (.slice none 0 0)) T') (hu : tSl P T = some (e, m, g)) (hx : ev s x = .sl sz xs) {K : Act → World → Prop} {Q : Exit → Act → World → Prop} (hd : o.dst.all (· < nt) = true)
    (h1 : xs = [] → ∀ a', R E nt (s.put o.dst (.bool true)) φ S a' w → K a' w) (h2 : ∀ a', R E nt (s.put o.dst (.bool false)) φ S a' w → K a' w) : o.wp P a w K Q := by
  have hu' := (tSl_ok hu).1
  have rx := aev_rel r.slots (x := x) (v := .sl sz xs) (by rw [aev_eq, hx])
  have key : ∃ b : Bool, (execOp a.eval o).run P w = .ok (.value (.bool b)) w ∧ (b = true → xs = []) := by
    generalize hv : a.eval x = v at rx
    have e1 : ∀ x y, Op.equal T x y = Op.equalIn (9999 + 1) T x y := fun _ _ => rfl
    have hc : a.eval (.const (.slice none 0 0)) = .slice none 0 0 := rfl
    cases rx with
    | slnil =>
      refine ⟨true, ?_, fun _ => rfl⟩
      have he : (Op.equal T (.slice none 0 0) (.slice none 0 0)).run P w = .ok true w := by rw [e1, Op.equalIn, Sem.run_bind, run_underlying hu']; rfl
      unfold execOp
      simp only [ho, hv, hc, Sem.run_bind]
      rw [guard_ok (fun p q h => by cases h) (by rintro ⟨h, _⟩; cases h)]
      simp only [Result.andThen, binOp, Sem.run_bind, he, Sem.run_pure]
    | sl V hs hcap hsz hc' ho' hr =>
      refine ⟨false, ?_, fun h => by cases h⟩
      rename_i b off cap
      have he : (Op.equal T (.slice (some ⟨b, off, none⟩) xs.length cap) (.slice none 0 0)).run P w = .ok false w := by rw [e1, Op.equalIn, Sem.run_bind, run_underlying hu']; rfl
      unfold execOp
      simp only [ho, hv, hc, Sem.run_bind]
      rw [guard_ok (fun p q h => by cases h) (by rintro ⟨h, _⟩; cases h)]
      simp only [Result.andThen, binOp, Sem.run_bind, he, Sem.run_pure]
  obtain ⟨b, hrun, hb⟩ := key
  unfold Oper.wp
  rw [hrun]
  cases b with
  | true => exact h1 (hb rfl) _ (r.put hd .bool)
  | false => exact h2 _ (r.put hd .bool)

theorem awp_nilT {nt b id src t3 t4 : Nat} {T T' e m sz : Nat} {g : Bool} {o1 o2 : Oper} {xs : List (List AV)} {Q : AEx → AS → Prop} {s : AS}
    (ho1 : o1.op = .move (.tmp src)) (hd1 : o1.dst = some t3) (hg1 : o1.guard = none) (ho2 : o2.op = .binOp .eql T (.tmp t3) (.const (.slice none 0 0)) T') (hd2 : o2.dst = some t4) (hg2 : o2.guard = none)
    (hu : tSl P T = some (e, m, g)) (hx : s.t src = .sl sz xs) (h3 : t3 < nt) (h4 : t4 < nt)
    (h1 : xs = [] → Q .normal ⟨upd (upd s.t t3 (.sl sz xs)) t4 (.bool true), s.h, s.n + 1⟩) (h2 : Q .normal ⟨upd (upd s.t t3 (.sl sz xs)) t4 (.bool false), s.h, s.n + 1⟩) :
    awp P nt b (.region id #[o1, o2] false) Q s := by
  intro E φ S a w _ r
  refine wp_region_list ?_
  have hw : ∀ a : Act, Region.wanted o1 (yielded #[o1, o2] a.tmps) = true := fun a => by simp [Region.wanted, hg1]
  have hw2 : ∀ a : Act, Region.wanted o2 (yielded #[o1, o2] a.tmps) = true := fun a => by simp [Region.wanted, hg2]
  show wpList P _ _ [o1, o2] a w
  unfold wpList
  rw [hw]
  left
  refine op_wp (z := false) (n' := s.n + 1) (v := .sl sz xs) (ws := []) r ⟨r.hp.new _ (Nat.le_refl _), Nat.le_succ _⟩ (Nat.lt_succ_self _) ?_ (by rw [hd1]; simpa using h3) fun a' φ' S' w' r' _ => ?_
  · show fzO P s.n false o1.op s = _
    unfold fzO
    rw [ho1, E_move, ev_tmp, hx]
    rfl
  unfold wpList
  rw [hw2]
  left
  rw [hd1] at r'
  refine opNil_wp r' ho2 hu (by show upd s.t t3 (.sl sz xs) t3 = _; rw [upd_same]) (by rw [hd2]; simpa using h4) (fun he a'' r'' => ?_) (fun a'' r'' => ?_)
  · rw [hd2] at r''
    exact ⟨.normal, _, _, _, rfl, h1 he, r''⟩
  · rw [hd2] at r''
    exact ⟨.normal, _, _, _, rfl, h2, r''⟩

theorem awp_go (hm : P.follows .mixedOrders = true) {nt b : Nat} (z : List Nat) {Q : AEx → AS → Prop} (f : Nat) {c : Code} {s : AS} (hc : codeOk nt c = true) (h : go P nt b z Q f c [] s) : awp P nt b c Q s :=
  go_sound hm (z := z) f c [] s hc rfl h
theorem seqQ_n (k : AS → Prop) (Q : AEx → AS → Prop) (s : AS) : seqQ k Q .normal s = k s := rfl

theorem seqQ_r (k : AS → Prop) (Q : AEx → AS → Prop) (s : AS) : seqQ k Q .ret s = Q .ret s := rfl
theorem seqQ_e (k : AS → Prop) (Q : AEx → AS → Prop) (i : Nat) (s : AS) : seqQ k Q (.exit i) s = Q (.exit i) s := rfl

/-! literals of slices -/
section
variable {s : AS}
theorem frz_eq1 (x : AV) (h : ∀ id off, x ≠ .ptr id off) : frz x = frz1 x := by
  cases x <;> first | rfl | exact absurd rfl (h _ _)
theorem frzLr_nil : (frzL []).run s = some ([], []) := rfl
theorem frzLr_cons (x : AV) (xs : List AV) : (frzL (x :: xs)).run s = bO ((frz x).run s) fun y => bO ((frzL xs).run s) fun z => some (y.1 :: z.1, y.2 ++ z.2) := by
  simp only [frzL, bO_eq, ret_eq]
theorem frz_int (k : IntKind) (b : Int) : (frz (.int k b)).run s = some (.int k b, []) := by
  rw [frz_eq1 _ (by intro a b h; cases h)]; exact frz1_flat rfl
theorem frz_str (b : List UInt8) : (frz (.str b)).run s = some (.str b, []) := by
  rw [frz_eq1 _ (by intro a b h; cases h)]; exact frz1_flat rfl
theorem frz_bool (b : Bool) : (frz (.bool b)).run s = some (.bool b, []) := by
  rw [frz_eq1 _ (by intro a b h; cases h)]; exact frz1_flat rfl
theorem frz_sl (m : Nat) (b : List (List AV)) : (frz (.sl m b)).run s = some (.sl m b, []) := by
  rw [frz_eq1 _ (by intro a b h; cases h)]; exact frz1_flat rfl
theorem frz_nils : (frz .nils).run s = some (.nils, []) := by
  rw [frz_eq1 _ (by intro a b h; cases h)]; exact frz1_flat rfl
theorem frz_row (id g off len : Nat) : (frz (.row id g off len)).run s = frowE (s.h id) id g off len := by
  rw [frz_eq1 _ (by intro a b h; cases h)]; exact frz1_row id g off len
end
theorem afill_nil (p : Nat → Option (Nat × Nat)) (cs : List AV) : afill p cs [] = some cs := rfl
noncomputable def fillE (q : Option (Nat × Nat)) (p : Nat → Option (Nat × Nat)) (cs : List AV) (v : AV) (r : List (Nat × AV)) : Option (List AV) :=
  bO q fun x => gO (v.cells.length = x.2 ∧ x.1 + x.2 ≤ cs.length) (afill p (setL cs x.1 v.cells) r)
theorem afill_cons (p : Nat → Option (Nat × Nat)) (cs : List AV) (i : Nat) (v : AV) (r : List (Nat × AV)) : afill p cs ((i, v) :: r) = fillE (p i) p cs v r := by
  rw [afill, fillE]
  cases p i with
  | none => rfl
  | some x =>
    obtain ⟨a, b⟩ := x
    simp only [bO_some]
    unfold gO; split <;> rfl
theorem fillE_some (x : Nat × Nat) (p : Nat → Option (Nat × Nat)) (cs : List AV) (v : AV) (r : List (Nat × AV)) : fillE (some x) p cs v r = gO (v.cells.length = x.2 ∧ x.1 + x.2 ≤ cs.length) (afill p (setL cs x.1 v.cells) r) := rfl
def bAgg (x : Option (List AV)) : Option AV := x.map .agg
theorem bAgg_some (cs : List AV) : bAgg (some cs) = some (.agg cs) := rfl
noncomputable def placesE (l : Option (List (Nat × Nat))) (a : Option (Nat × Nat × Bool)) (zero : List AV) (ps : List (Nat × AV)) : Option AV :=
  match l with
  | some l => bAgg (afill (fun i => l[i]?) zero ps)
  | none => match a with
    | some x => bAgg (afill (fun i => some (i * x.2.1, x.2.1)) zero ps)
    | none => none
theorem abuild_eq (P : Program) (t : TypeId) (ps : List (Nat × AV)) : abuild P t ps = bO (tZero P t) fun z => placesE (tPlaces P t) (tArr P t) z ps := by
  unfold abuild placesE
  cases tZero P t with
  | none => rfl
  | some z =>
    cases tPlaces P t with
    | some l => rfl
    | none => cases tArr P t <;> rfl
theorem placesE_some (l : List (Nat × Nat)) (a : Option (Nat × Nat × Bool)) (zero : List AV) (ps : List (Nat × AV)) : placesE (some l) a zero ps = bAgg (afill (fun i => l[i]?) zero ps) := rfl
theorem placesE_arr (x : Nat × Nat × Bool) (zero : List AV) (ps : List (Nat × AV)) : placesE none (some x) zero ps = bAgg (afill (fun i => some (i * x.2.1, x.2.1)) zero ps) := rfl
theorem chunks_zero (sz : Nat) (cs : List AV) : chunks sz 0 cs = [] := rfl
theorem chunks_succ (sz n : Nat) (cs : List AV) : chunks sz (n + 1) cs = cs.take sz :: chunks sz n (cs.drop sz) := rfl
theorem replicate_lit {α : Type} (n : Nat) (a : α) : List.replicate (n + 1) a = a :: List.replicate n a := rfl

/-! ### conversions, reckoned -/
section
variable {n : Nat} {s : AS}
noncomputable def cvI (k : Option IntKind) (n : Nat) (l : List UInt8) : Option (AV × List W) :=
  match k with
  | some .u8 => some (.row n 0 0 l.length, [.h n (.row 1 0 (encB l))])
  | _ => none
noncomputable def cvS (P : Program) (n : Nat) (a b : Bool) (sl : Option (TypeId × Nat × Bool)) (l : List UInt8) : Option (AV × List W) :=
  match a, b, sl with
  | true, true, _ => some (.str l, [])
  | true, false, some x => cvI (tInt P x.1) n l
  | _, _, _ => none
theorem cvE_str (t u : TypeId) (l : List UInt8) : (aconvert P n t u (.str l)).run s = cvS P n (tStr P t) (tStr P u) (tSl P u) l := by
  unfold aconvert cvS
  cases h1 : tStr P t <;> cases h2 : tStr P u <;> cases h3 : tSl P u <;> simp only [Bool.and_true, Bool.and_false, Bool.true_and, Bool.false_and, Bool.false_eq_true, if_false, if_true, val_eq, run_fail]
  rename_i x
  obtain ⟨e, m, g⟩ := x
  simp only [cvI]
  cases tInt P e with
  | none => rfl
  | some k => cases k <;> rfl
theorem cvS_tt (sl : Option (TypeId × Nat × Bool)) (l : List UInt8) : cvS P n true true sl l = some (.str l, []) := rfl
theorem cvS_tf (x : TypeId × Nat × Bool) (l : List UInt8) : cvS P n true false (some x) l = cvI (tInt P x.1) n l := rfl
theorem cvI_u8 (l : List UInt8) : cvI (some .u8) n l = some (.row n 0 0 l.length, [.h n (.row 1 0 (encB l))]) := rfl
noncomputable def cvC (k : Option IntKind) (c : Option (List (List AV))) : Option (AV × List W) :=
  match k with
  | some .u8 => bO c fun xs => bO (bytesOf xs) fun l => some (.str l, [])
  | _ => none
noncomputable def cvT (P : Program) (a : Bool) (sl : Option (TypeId × Nat × Bool)) (c : Option (List (List AV))) : Option (AV × List W) :=
  match sl, a with
  | some x, true => cvC (tInt P x.1) c
  | _, _ => none
theorem cvE_sl0 (t u : TypeId) (x : AV) (hx : (∀ k i, x ≠ .int k i) ∧ ∀ l, x ≠ .str l) : (aconvert P n t u x).run s = cvT P (tStr P u) (tSl P t) ((content 1 x).run s) := by
  unfold aconvert
  split
  · exact absurd rfl (hx.1 _ _)
  · exact absurd rfl (hx.2 _)
  · unfold cvT
    cases h1 : tSl P t with
    | none => rfl
    | some y =>
      obtain ⟨e, m, g⟩ := y
      cases h2 : tStr P u with
      | false => rfl
      | true =>
        simp only [cvC]
        cases tInt P e with
        | none => rfl
        | some k =>
          cases k <;> first
            | rfl
            | (simp only [bO_eq]
               congr 1
               funext xs
               cases bytesOf xs <;> rfl)
theorem cvE_row (t u : TypeId) (id g off len : Nat) : (aconvert P n t u (.row id g off len)).run s = cvT P (tStr P u) (tSl P t) ((content 1 (.row id g off len)).run s) := cvE_sl0 t u _ ⟨fun _ _ h => by (cases h), fun _ h => by (cases h)⟩
theorem cvE_sl (t u : TypeId) (sz : Nat) (xs : List (List AV)) : (aconvert P n t u (.sl sz xs)).run s = cvT P (tStr P u) (tSl P t) ((content 1 (.sl sz xs)).run s) := cvE_sl0 t u _ ⟨fun _ _ h => by (cases h), fun _ h => by (cases h)⟩
theorem cvE_bsl (t u : TypeId) (id off len cap : Nat) : (aconvert P n t u (.bsl id off len cap)).run s = cvT P (tStr P u) (tSl P t) ((content 1 (.bsl id off len cap)).run s) := cvE_sl0 t u _ ⟨fun _ _ h => by (cases h), fun _ h => by (cases h)⟩
theorem cvE_nils (t u : TypeId) : (aconvert P n t u .nils).run s = cvT P (tStr P u) (tSl P t) ((content 1 .nils).run s) := cvE_sl0 t u _ ⟨fun _ _ h => by (cases h), fun _ h => by (cases h)⟩
theorem cvT_t (x : TypeId × Nat × Bool) (c : Option (List (List AV))) : cvT P true (some x) c = cvC (tInt P x.1) c := rfl
theorem cvC_u8 (c : Option (List (List AV))) : cvC (some .u8) c = bO c fun xs => bO (bytesOf xs) fun l => some (.str l, []) := rfl
end
def bB (b : UInt8) (x : Option (List UInt8)) : Option (List UInt8) := x.map (b :: ·)
theorem bB_some (b : UInt8) (l : List UInt8) : bB b (some l) = some (b :: l) := rfl
theorem bytesOf_nil : bytesOf [] = some [] := rfl
theorem bytesOf_cons (b : UInt8) (r : List (List AV)) : bytesOf ([.int .u8 (b.toNat : Int)] :: r) = bB b (bytesOf r) := by
  rw [bytesOf]
  have : byteOf [.int .u8 (b.toNat : Int)] = some b := by simp [byteOf]
  rw [this]
  cases bytesOf r <;> rfl
theorem bytesOf_encB : ∀ l : List UInt8, bytesOf (encB l) = some l
  | [] => rfl
  | b :: l => by
    show bytesOf ([.int .u8 (b.toNat : Int)] :: encB l) = _
    rw [bytesOf_cons, bytesOf_encB l]; rfl
theorem encB_app (a b : List UInt8) : encB (a ++ b) = encB a ++ encB b := by simp [encB]
theorem encB_drop (a : List UInt8) (n : Nat) : encB (a.drop n) = (encB a).drop n := by simp [encB, List.map_drop]
theorem encB_take (a : List UInt8) (n : Nat) : encB (a.take n) = (encB a).take n := by simp [encB, List.map_take]
theorem encB_cons (b : UInt8) (a : List UInt8) : encB (b :: a) = [.int .u8 (b.toNat : Int)] :: encB a := rfl
theorem encB_nil : encB [] = [] := rfl
theorem encB_set (a : List UInt8) (n : Nat) (b : UInt8) : encB (a.set n b) = (encB a).set n [.int .u8 (b.toNat : Int)] := by simp [encB, List.map_set]
theorem encB_repl (n : Nat) : List.replicate n [AV.int .u8 0] = encB (List.replicate n 0) := by simp [encB]
theorem encB_get (l : List UInt8) (k : Nat) (h : k < l.length) : (encB l).getD k [] = [.int .u8 ((l[k]).toNat : Int)] := by simp [encB, List.getD, h]
theorem w8 (n : Nat) : IntKind.u8.wrap (n : Int) = ((UInt8.ofNat n).toNat : Nat) := by rw [wrap8_mod]; simp
theorem w8c (n : Nat) : IntKind.u8.wrap (no_index (OfNat.ofNat n) : Int) = ((UInt8.ofNat n).toNat : Nat) := w8 n
theorem v8_sub (x y : UInt8) : IntKind.u8.wrap ((x.toNat : Int) - (y.toNat : Int)) = ((x - y).toNat : Nat) := by
  have hx := x.toNat_lt; have hy := y.toNat_lt
  rw [IntKind.wrap_u8, UInt8.toNat_sub]; omega
theorem v8_subc (x : UInt8) (n : Nat) (h : n < 256) : IntKind.u8.wrap ((x.toNat : Int) - (no_index (OfNat.ofNat n) : Int)) = ((x - UInt8.ofNat n).toNat : Nat) := by
  have hx := x.toNat_lt
  show IntKind.u8.wrap ((x.toNat : Int) - (n : Int)) = _
  rw [IntKind.wrap_u8, UInt8.toNat_sub]
  have : (UInt8.ofNat n).toNat = n := by simp; omega
  rw [this]; omega
theorem b_sadd (a c : List UInt8) (h : ((a.length + c.length : Nat) : Int) ≤ 9223372036854775807) : abin .add (.str a) (.str c) = some (.str (a ++ c)) := by simp only [abin, h, if_true]

/-! ### copy, reckoned -/
section
variable {s : AS}
noncomputable def cpR (o : AObj) (id g off len m : Nat) (ys : List (List AV)) : Option (AV × List W) :=
  match o with
  | .row sz g' xs => gO (sz = m ∧ g = g' ∧ off + len ≤ xs.length) (some (.int .i64 ((min ys.length len : Nat) : Int), [.h id (.row sz g' (xs.take off ++ ys.take len ++ xs.drop (off + min ys.length len)))]))
  | _ => none
noncomputable def cpB (o : AObj) (id off len m : Nat) (ys : List (List AV)) : Option (AV × List W) :=
  match o with
  | .box cs => gO (m = 1 ∧ off + len ≤ cs.length) (some (.int .i64 ((min ys.length len : Nat) : Int), [.h id (.box (cs.take off ++ ((ys.take len).map fun y => y.headD .bot) ++ cs.drop (off + min ys.length len)))]))
  | _ => none
theorem cpR_row (sz g' : Nat) (xs : List (List AV)) (id g off len m : Nat) (ys : List (List AV)) : cpR (.row sz g' xs) id g off len m ys =
  gO (sz = m ∧ g = g' ∧ off + len ≤ xs.length) (some (.int .i64 ((min ys.length len : Nat) : Int), [.h id (.row sz g' (xs.take off ++ ys.take len ++ xs.drop (off + min ys.length len)))])) := rfl
theorem cpB_box (cs : List AV) (id off len m : Nat) (ys : List (List AV)) : cpB (.box cs) id off len m ys =
  gO (m = 1 ∧ off + len ≤ cs.length) (some (.int .i64 ((min ys.length len : Nat) : Int), [.h id (.box (cs.take off ++ ((ys.take len).map fun y => y.headD .bot) ++ cs.drop (off + min ys.length len)))])) := rfl
theorem cpy_row (t : TypeId) (id g off len : Nat) (x : AV) : (acopy P t (.row id g off len) x).run s = bO (tSl P t) fun y => bO ((addend y.2.1 x).run s) fun ys => cpR (s.h id) id g off len y.2.1 ys := by
  unfold acopy
  cases tSl P t with
  | none => rfl
  | some y =>
    obtain ⟨e, m, b⟩ := y
    simp only [bO_some, bO_eq]
    congr 1
    funext ys
    simp only [RM.run]
    unfold cpR
    cases s.h id <;> simp only [gO_eq, ret_eq, run_fail]
theorem cpy_bsl (t : TypeId) (id off len cap : Nat) (x : AV) : (acopy P t (.bsl id off len cap) x).run s = bO (tSl P t) fun y => bO ((addend y.2.1 x).run s) fun ys => cpB (s.h id) id off len y.2.1 ys := by
  unfold acopy
  cases tSl P t with
  | none => rfl
  | some y =>
    obtain ⟨e, m, b⟩ := y
    simp only [bO_some, bO_eq]
    congr 1
    funext ys
    simp only [RM.run]
    unfold cpB
    cases s.h id <;> simp only [gO_eq, ret_eq, run_fail]
end


/-! ### a call whose arguments are frozen first -/
def frzR (x : Option (List AV × AS)) (args' : List AV) (K : (Nat → AObj) → Prop) : Prop :=
  match x with
  | some (ys, s') => SubL ys args' ∧ K s'.h
  | none => False
theorem frzR_some (ys : List AV) (s' : AS) (args' : List AV) (K : (Nat → AObj) → Prop) : frzR (some (ys, s')) args' K = (SubL ys args' ∧ K s'.h) := rfl
theorem subL_self (xs : List AV) : SubL xs xs = True := eq_true (SubL.refl xs)
section
variable {z : List Nat} {ops : Array Oper} {K : AS → Prop} {rest : List Oper} {s : AS} {d : Option Tmp}
theorem callL_fz {k : FuncId} {vs args' : List AV} {r : AV} (hp : APure P k args' r) (ha : ltL 0 args') (hz : zf z d = false)
    (hk : frzR (frzAll vs s) args' fun h' => wpL P z ops K rest (AS.put ⟨s.t, h', s.n⟩ d r)) : ACallL P k vs z ops K rest s d := by
  unfold frzR at hk
  split at hk
  · rename_i ys s' e
    refine ⟨hp.1, fun w S φ us H hl hr => ?_⟩
    obtain ⟨S1, H1, T1, l1, r1, _, _, en⟩ := frzAll_ok H e
    obtain ⟨a, b⟩ := hk.1.rel (w := w) (S := S1) (φ := φ) (vs := us) (by rw [l1, hl]) fun i h h' => r1 i (by rw [← l1]; exact h) h _ (hr i (by rw [← l1]; exact h) h')
    refine (hp.callX ha H1 a fun j h1 h2 => b j h1 h2).mono ?_
    rintro e w' ⟨v, S', rfl, h1, h2, h3⟩
    refine ⟨v, r, s'.h, s.n, φ, S', rfl, ?_, h1, Nat.le_refl _, T1.trans h2, h3⟩
    rw [hz]
    exact hk.2
  · exact hk.elim
end

theorem argT_6 (a b c d e f g : AV) (r : List AV) : argT (a :: b :: c :: d :: e :: f :: g :: r) 6 = g := rfl
theorem argT_7 (a b c d e f g h : AV) (r : List AV) : argT (a :: b :: c :: d :: e :: f :: g :: h :: r) 7 = h := rfl
theorem frz2_nilf {s : AS} : (frz2 .nilf).run s = some (.nilf, []) := frz1_flat (v := .nilf) rfl
theorem frzX_nilf {s : AS} : (frzX .nilf).run s = some (.nilf, []) := frz1_flat (v := .nilf) rfl

end Go.Ab
namespace Go.Ab
open Go
variable [Glob]
def SN := (And.intro (And.intro (And.intro (And.intro (And.intro (And.intro @argT_6 (And.intro @argT_7 @frz2_nilf)) (And.intro @frzX_nilf (And.intro @frzR_some @subL_self))) (And.intro (And.intro @oKs (And.intro @frzX_bool @frzX_int)) (And.intro @frzX_str (And.intro @frzX_cp @frzX_nili)))) (And.intro (And.intro (And.intro @frzX_nilp (And.intro @frz2_cp @frz2_nilp)) (And.intro @frzAll_nil (And.intro @frzAll_cons @seqQ_n))) (And.intro (And.intro @seqQ_r (And.intro @seqQ_e @frzLr_nil)) (And.intro (And.intro @frzLr_cons @frz_int) (And.intro @frz_str @frz_bool))))) (And.intro (And.intro (And.intro (And.intro @frz_sl (And.intro @frz_nils @frz_row)) (And.intro @afill_nil (And.intro @afill_cons @fillE_some))) (And.intro (And.intro @chunks_zero (And.intro @chunks_succ @cvE_str)) (And.intro (And.intro @cvS_tt @cvS_tf) (And.intro @cvI_u8 @cvE_row)))) (And.intro (And.intro (And.intro @cvE_sl (And.intro @cvE_bsl @cvE_nils)) (And.intro @cvT_t (And.intro @cvC_u8 @bB_some))) (And.intro (And.intro @bytesOf_nil (And.intro @bytesOf_cons @bytesOf_encB)) (And.intro (And.intro @b_sadd @b_quo) (And.intro @b_rem @v8_sub)))))) (And.intro (And.intro (And.intro (And.intro (And.intro @v8_subc (And.intro @encB_len @cpR_row)) (And.intro @cpB_box (And.intro @cpy_row @cpy_bsl))) (And.intro (And.intro @bAgg_some (And.intro @abuild_eq @placesE_some)) (And.intro @placesE_arr (And.intro @b_shl_n @b_shr_n)))) (And.intro (And.intro (And.intro @cut_eq (And.intro @setL_nil @setL_cons)) (And.intro @v16_and (And.intro @v16_or @v16_xor))) (And.intro (And.intro @v16_andc (And.intro @v16_orc @v16_xorc)) (And.intro (And.intro @v16_add @v16_addc) (And.intro @v16_mul @v16_mulc))))) (And.intro (And.intro (And.intro (And.intro @v16_shl (And.intro @v16_shr @v32_and)) (And.intro @v32_or (And.intro @v32_xor @v32_andc))) (And.intro (And.intro @v32_orc (And.intro @v32_xorc @v32_add)) (And.intro (And.intro @v32_addc @v32_mul) (And.intro @v32_mulc @v32_shl)))) (And.intro (And.intro (And.intro @v32_shr (And.intro @v64_and @v64_or)) (And.intro @v64_xor (And.intro @v64_andc @v64_orc))) (And.intro (And.intro @v64_xorc (And.intro @v64_add @v64_addc)) (And.intro (And.intro @v64_mul @v64_mulc) (And.intro @v64_shl @v64_shr)))))))
end Go.Ab
namespace Go.Ab
open Go
variable [Glob] {P : Program}

/-! ### a drawn region that ends in a call that may write: the call is last in every order -/
theorem LetsOut_weak {Q0 Q : Exit → Act → World → Prop} (h : ∀ e a w, e ≠ .normal → Q0 e a w → Q e a w) (hl : LetsOut Q0) : LetsOut Q := by
  obtain ⟨a, w, h'⟩ := hl
  exact ⟨a, w, h _ _ _ (by intro e; cases e) h'⟩
theorem Oper.wp_weak {o : Oper} {a : Act} {w : World} {K K' : Act → World → Prop} {Q0 Q : Exit → Act → World → Prop} (h : ∀ a w, K a w → K' a w) (hq : ∀ e a w, e ≠ .normal → Q0 e a w → Q e a w)
    (hh : o.wp P a w K Q0) : o.wp P a w K' Q := by
  unfold Oper.wp at *
  generalize (execOp a.eval o).run P w = r at *
  cases r with
  | ok n w' =>
    cases n <;> simp only [Oper.upon] at hh ⊢ <;>
      first
        | exact h _ _ hh
        | exact Calls.mono hh (fun e w'' he => by
            cases e <;> first
              | exact h _ _ he
              | exact hq _ _ _ (by intro e; cases e) he
              | exact LetsOut_weak hq he)
        | exact Rows.mono hh (fun _ _ he => h _ _ he)
  | halt x w' =>
    cases x <;> simp only [Oper.upon] at hh ⊢ <;> first
      | exact hq _ _ _ (by intro e; cases e) hh
      | exact hh

def guardB (m : Nat) (o : Oper) : Bool := match o.guard with | some (j, _) => decide (j < m) | none => true

theorem wanted_push {ops' : Array Oper} {last o : Oper} {tm : Array Value} (hg : guardB ops'.size o = true) : Region.wanted o (yielded (ops'.push last) tm) = Region.wanted o (yielded ops' tm) := by
  unfold Region.wanted
  unfold guardB at hg
  cases h : o.guard with
  | none => rfl
  | some p =>
    obtain ⟨j, want⟩ := p
    rw [h] at hg
    simp only [decide_eq_true_eq] at hg
    simp only
    have : (ops'.push last)[j]? = ops'[j]? := by rw [Array.getElem?_push, if_neg (by omega)]
    unfold yielded
    rw [this]

theorem wpOp_push {ops' : Array Oper} {last : Oper} {Q0 Q : Exit → Act → World → Prop} (hq : ∀ e a w, e ≠ .normal → Q0 e a w → Q e a w) {i : Nat} (hi : i < ops'.size) (hg : ∀ o, ops'[i]? = some o → guardB ops'.size o = true)
    {K K' : Act → World → Prop} (hk : ∀ a w, K a w → K' a w) {a : Act} {w : World} (h : wpOp P ops' Q0 i K a w) : wpOp P (ops'.push last) Q i K' a w := by
  unfold wpOp at *
  have : (ops'.push last)[i]? = ops'[i]? := by rw [Array.getElem?_push, if_neg (by omega)]
  rw [this]
  cases ho : ops'[i]? with
  | none => rw [ho] at h; exact hk _ _ h
  | some o =>
    rw [ho] at h
    simp only at h ⊢
    rw [wanted_push (hg o ho)]
    split
    · rename_i hw
      rw [if_pos hw] at h
      rcases h with h | ⟨h1, h2⟩
      · exact .inl (Oper.wp_weak hk hq h)
      · exact .inr ⟨h1, LetsOut_weak hq h2⟩
    · rename_i hw
      rw [if_neg hw] at h
      exact hk _ _ h

theorem wpAny_push {ops' : Array Oper} {last : Oper} {Q0 Q : Exit → Act → World → Prop} (hq : ∀ e a w, e ≠ .normal → Q0 e a w → Q e a w)
    (hlast : ∀ a w, Q0 .normal a w → wpOp P (ops'.push last) Q ops'.size (fun a w => Q .normal a w) a w)
    (hg : ∀ (j : Nat) (o : Oper), ops'[j]? = some o → guardB ops'.size o = true) (hedge : ∀ (j : Nat) (o : Oper), ops'[j]? = some o → ∀ p, p ∈ preds o → p < j) (hel : ∀ p, p ∈ preds last → p < ops'.size)
    (hanc : ∀ A : Nat → Prop, Closed ops' A → (∀ p, p ∈ preds last → A p) → ∀ k, k < ops'.size → A k) :
    ∀ (fuel : Nat) (l' : Array Bool) (a : Act) (w : World), l'.size = ops'.size → cnt l' ops'.size = fuel → Closed ops' (fun k => l'.getD k false = true) →
      wpAny P .any ops' Q0 fuel l' a w → wpAny P .any (ops'.push last) Q (fuel + 1) (l'.push false) a w := by
  have getp : ∀ (l' : Array Bool) (k : Nat) (d : Bool), k < l'.size → (l'.push false).getD k d = l'.getD k d := fun l' k d hk => by
    simp only [Array.getD_eq_getD_getElem?]
    rw [Array.getElem?_push, if_neg (by omega)]
  have rdy : ∀ (l' : Array Bool), l'.size = ops'.size → ∀ i, i < ops'.size → (i ∈ Region.ready .any (ops'.push last) (l'.push false) ↔ i ∈ Region.ready .any ops' l') := by
    intro l' hs i hi
    rw [mem_ready, mem_ready, getp l' i true (by omega)]
    have : (ops'.push last)[i]? = ops'[i]? := by rw [Array.getElem?_push, if_neg (by omega)]
    rw [this]
    refine and_congr_right fun _ => exists_congr fun o => and_congr_right fun ho => ?_
    have hp : ∀ e, e ∈ o.after → Region.binds .any e = true → e.on < ops'.size := fun e he hb => by
      have := hedge i o ho e.on (List.mem_map.2 ⟨e, List.mem_filter.2 ⟨Array.mem_toList_iff.2 he, hb⟩, rfl⟩)
      omega
    exact ⟨fun h e he hb => by rw [← getp l' _ _ (by rw [hs]; exact hp e he hb)]; exact h e he hb, fun h e he hb => by rw [getp l' _ _ (by rw [hs]; exact hp e he hb)]; exact h e he hb⟩
  have edge2 : ∀ (j : Nat) (o : Oper), (ops'.push last)[j]? = some o → ∀ p, p ∈ preds o → p < j := by
    intro j o ho p hp
    rw [Array.getElem?_push] at ho
    split at ho
    · rename_i hj
      cases ho
      have := hel p hp; omega
    · exact hedge j o ho p hp
  have allR : ∀ (l' : Array Bool), l'.size = ops'.size → Region.ready .any (ops'.push last) (l'.push false) ≠ [] := by
    intro l' hs h
    have := ready_first (ops := ops'.push last) (listed := l'.push false) (by simp [hs]) edge2 h ops'.size (by simp)
    rw [← hs] at this
    simp at this
  have done : ∀ (l' : Array Bool), l'.size = ops'.size → (∀ k, k < ops'.size → l'.getD k false = true) → ∀ fuel a w, Q .normal a w → wpAny P .any (ops'.push last) Q fuel ((l'.push false).setIfInBounds ops'.size true) a w := by
    intro l' hs hall fuel a w hQ
    have hr : Region.ready .any (ops'.push last) ((l'.push false).setIfInBounds ops'.size true) = [] := by
      apply List.eq_nil_iff_forall_not_mem.2
      intro k hk
      obtain ⟨h0, o, ho, _⟩ := mem_ready.1 hk
      have hkl : k < (ops'.push last).size := by
        rcases Nat.lt_or_ge k (ops'.push last).size with h | h
        · exact h
        · rw [Array.getElem?_eq_none h] at ho; cases ho
      simp only [Array.size_push] at hkl
      by_cases e : k = ops'.size
      · subst e
        simp [hs] at h0
      · have hk' : k < ops'.size := by omega
        rw [getD_set_ne true (Ne.symm e), getp l' k true (by omega)] at h0
        have := hall k hk'
        have hkl2 : k < l'.size := by omega
        simp [hkl2] at h0 this
        rw [h0] at this; cases this
    cases fuel with
    | zero => exact ⟨hr, hQ⟩
    | succ n => exact ⟨fun _ => hQ, fun i hi => by rw [hr] at hi; cases hi⟩
  intro fuel
  induction fuel with
  | zero =>
    intro l' a w hs hc hA h
    have hall := cnt_zero hc
    refine ⟨fun hr => absurd hr (allR l' hs), fun i hi => ?_⟩
    have hil : i < (ops'.push last).size := by
      obtain ⟨_, o, ho, _⟩ := mem_ready.1 hi
      rcases Nat.lt_or_ge i (ops'.push last).size with h | h
      · exact h
      · rw [Array.getElem?_eq_none h] at ho; cases ho
    simp only [Array.size_push] at hil
    by_cases e : i = ops'.size
    · subst e
      exact wpOp_mono (fun a' w' hq' => done l' hs hall _ a' w' hq') (hlast a w h.2)
    · have hi' := (rdy l' hs i (by omega)).1 hi
      rw [h.1] at hi'; cases hi'
  | succ fuel ih =>
    intro l' a w hs hc hA h
    refine ⟨fun hr => absurd hr (allR l' hs), fun i hi => ?_⟩
    have hil : i < (ops'.push last).size := by
      obtain ⟨_, o, ho, _⟩ := mem_ready.1 hi
      rcases Nat.lt_or_ge i (ops'.push last).size with h | h
      · exact h
      · rw [Array.getElem?_eq_none h] at ho; cases ho
    simp only [Array.size_push] at hil
    by_cases e : i = ops'.size
    · subst e
      obtain ⟨_, o, ho, hp⟩ := mem_ready.1 hi
      have ho' : o = last := by simpa using ho.symm
      subst ho'
      have hall := hanc (fun k => l'.getD k false = true) hA (fun p hpp => by
        obtain ⟨ed, he, rfl⟩ := List.mem_map.1 hpp
        obtain ⟨h1, h2⟩ := List.mem_filter.1 he
        have := hp ed (Array.mem_toList_iff.1 h1) h2
        rw [getp l' _ _ (by have := hel _ hpp; omega)] at this
        exact this)
      have hr : Region.ready .any ops' l' = [] := by
        apply List.eq_nil_iff_forall_not_mem.2
        intro k hk
        obtain ⟨h0, o, ho, _⟩ := mem_ready.1 hk
        have hkl : k < ops'.size := by
          rcases Nat.lt_or_ge k ops'.size with h | h
          · exact h
          · rw [Array.getElem?_eq_none h] at ho; cases ho
        have := hall k hkl
        have hkl2 : k < l'.size := by omega
        simp [hkl2] at h0 this
        rw [h0] at this; cases this
      exact wpOp_mono (fun a' w' hq' => done l' hs hall _ a' w' hq') (hlast a w (h.1 hr))
    · have hi' := (rdy l' hs i (by omega)).1 hi
      have hlt : i < ops'.size := by omega
      have hset : (l'.push false).setIfInBounds i true = (l'.setIfInBounds i true).push false := by
        apply Array.ext_getElem?
        intro k
        simp only [Array.getElem?_setIfInBounds, Array.getElem?_push, Array.size_setIfInBounds, Array.size_push]
        by_cases hk : i = k
        · subst hk
          have e1 : ¬ i = l'.size := by omega
          have e2 : i < l'.size := by omega
          have e3 : i < l'.size + 1 := by omega
          simp [e1, e2, e3]
        · simp [hk]
      obtain ⟨h0, o, ho, hp⟩ := mem_ready.1 hi'
      have h0' : l'.getD i false = false := by have : i < l'.size := by omega
                                               simp [this] at h0 ⊢; exact h0
      refine wpOp_push hq hlt (fun o ho => hg i o ho) (fun a' w' hk => ?_) (h.2 i hi')
      rw [hset]
      refine ih _ a' w' (by simp [hs]) (by have := cnt_set h0 ops'.size hlt; omega) ?_ hk
      intro k ok hok' hk' p hp'
      have hilt : i < l'.size := by omega
      have hseti : (l'.setIfInBounds i true).getD i false = true := by simp [hilt]
      have hne : ∀ k, k ≠ i → (l'.setIfInBounds i true).getD k false = l'.getD k false := fun k hk => getD_set_ne false (Ne.symm hk)
      by_cases hpi : p = i
      · subst hpi; exact hseti
      · show (l'.setIfInBounds i true).getD p false = true
        rw [hne p hpi]
        by_cases hki : k = i
        · subst hki
          rw [ho] at hok'; cases hok'
          obtain ⟨ed, he, rfl⟩ := List.mem_map.1 hp'
          obtain ⟨h1, h2⟩ := List.mem_filter.1 he
          exact hp ed (Array.mem_toList_iff.1 h1) h2
        · have hk' : (l'.setIfInBounds i true).getD k false = true := hk'
          rw [hne k hki] at hk'
          exact hA k ok hok' hk' p hp'

theorem wpD_any {z : List Nat} {ops : Array Oper} {E : Ent} {nt : Nat} {K : AS → Prop} {Q : Exit → Act → World → Prop} (hQ : ∀ s φ S a w, K s → R E nt s φ S a w → Q .normal a w)
    {s : AS} {φ : Pm} {S : Nat → Prop} {a : Act} {w : World} (hd : dstOk nt ops.toList = true) (r : R E nt s φ S a w)
    (h : wpD P z ops (fun acc s' => okD ops acc = true ∧ K s') ops.toList [] s) : wpAny P .any ops Q ops.size (Array.replicate ops.size false) a { w with drawn := w.drawn + 1 } := by
  obtain ⟨es, h1, h2, h3⟩ := wpD_trace h
  rw [List.append_nil] at h2
  unfold okD at h2
  rw [List.reverse_reverse, Bool.and_eq_true, Bool.and_eq_true] at h2
  obtain ⟨⟨g1, g2⟩, g3⟩ := h2
  obtain ⟨t1, t2⟩ := TrOK.at (s0 := s) h1
  have hlen : es.length = ops.size := by simpa using t1
  have hops : ∀ {j : Nat} {o : Oper}, ops[j]? = some o → ∃ hj : j < ops.size, ops[j] = o := fun {j o} ho => by
    rcases Nat.lt_or_ge j ops.size with h | h
    · exact ⟨h, by rw [Array.getElem?_eq_getElem h] at ho; exact Option.some.inj ho⟩
    · rw [Array.getElem?_eq_none h] at ho; cases ho
  have Y : Sys P z ops s es (finS s es).n := by
    refine ⟨hlen, fun j hj => (by have := t2 j (by simpa using hj); rwa [Array.getElem_toList] at this), fun j e o he ho u hu k hk => ?_, fun j o ho p hp => ?_, fun i j oi oj ei ej hij hi hj hei hej => ?_⟩
    · obtain ⟨hj, rfl⟩ := hops ho
      obtain ⟨e', he', ok, _⟩ := t2 j (by simpa using hj)
      rw [he] at he'; cases he'
      refine eff_t (by simpa using ok) ?_ hu hk
      have : e.rec_ ∈ (es.map Eff.rec_).reverse := List.mem_reverse.2 (List.mem_map.2 ⟨e, List.mem_of_getElem? he, rfl⟩)
      exact List.all_eq_true.1 g2 _ this
    · obtain ⟨hj, rfl⟩ := hops ho
      have := edges_ok g1 j (by simpa using hj) p (by simpa using hp)
      omega
    · obtain ⟨hi', rfl⟩ := hops hi
      obtain ⟨hj', rfl⟩ := hops hj
      have l1 : ops.toList.length = (es.map Eff.rec_).length := by simp [hlen]
      have l2 : ops.toList.length = (rowsOf ops).length := by unfold rowsOf; rw [rowsGo_len]; simp
      obtain ⟨a1, a2⟩ := items_get (k := 0) l1 l2
      have := chkGo_ok g3 i j (by rw [a1]; simpa using hi') (by rw [a1]; simpa using hj') hij
      have l3 : j < (rowsOf ops).length := by rw [← l2]; simpa using hj'
      have ee : ∀ {k : Nat} {e : Eff} (hk : k < es.length), es[k]? = some e → es[k] = e := fun hk h => by rw [List.getElem?_eq_getElem hk] at h; exact Option.some.inj h
      rw [a2 i _ (by simpa using hi') (by simpa [hlen] using hi') (by rw [← l2]; simpa using hi'), a2 j _ (by simpa using hj') (by simpa [hlen] using hj') l3] at this
      simp only [List.getElem_map, Nat.zero_add] at this
      rw [ee (by omega) hei, ee (by omega) hej] at this
      have e3 : (rowsOf ops).getD j 0 = (rowsOf ops)[j] := by simp [List.getD, l3]
      rw [e3]
      simpa using this
  have stz : stA s (finS s es).n es (fun k => (Array.replicate ops.size false).getD k false) = { s with n := (finS s es).n } := by
    unfold stA
    rw [Lr_none fun i hi => ?_]
    · rfl
    · by_cases hb : i < ops.size <;> simp [hb]
  have hn : s.n ≤ (finS s es).n := finS_n es s
  obtain ⟨H1, T1⟩ := r.hp.congr (w' := { w with drawn := w.drawn + 1 }) rfl rfl rfl rfl hn
  have r1 : R E nt { s with n := (finS s es).n } φ S a { w with drawn := w.drawn + 1 } := r.heap (h' := s.h) hn H1 T1.g
  refine wpAny_ok Y (fun j o ho => ?_) (fun φ S a w r' => ?_) ops.size _ φ S a _ (by simp) ?_ ?_ (by rw [stz]; exact r1) ?_
  · obtain ⟨hj, rfl⟩ := hops ho
    exact List.all_eq_true.1 hd _ (by simp)
  · have e1 : stA s (finS s es).n es (fun _ => true) = finS s es := by
      unfold stA
      rw [Lr_all fun _ _ => rfl]
      obtain ⟨b1, b2⟩ := finS_eq es s
      cases hf : finS s es with
      | mk t h n =>
        rw [hf] at b1 b2
        simp only at b1 b2
        rw [b1, b2]
    rw [e1] at r'
    exact hQ _ _ _ _ _ h3 r'
  · unfold cnt
    have : ∀ n, n ≤ ops.size → (List.range n).countP (fun k => !(Array.replicate ops.size false).getD k false) = n := by
      intro n hn
      rw [List.countP_eq_length.2 fun k hk => ?_]
      · simp
      · have := List.mem_range.1 hk
        simp [show k < ops.size by omega]
    exact this _ (Nat.le_refl _)
  · intro k o hk hA
    have : (Array.replicate ops.size false).getD k false = true := hA
    by_cases hb : k < ops.size <;> simp [hb] at this
  · intro i ei b hei _ hb
    rw [stz]
    have hi : i < ops.size := by
      rw [← hlen]
      rcases Nat.lt_or_ge i es.length with h | h
      · exact h
      · rw [List.getElem?_eq_none h] at hei; cases hei
    obtain ⟨e', he', _, hbb⟩ := t2 i (by simpa using hi)
    rw [hei] at he'; cases he'
    exact r.hp.new b (hbb b hb).1


/-- is the last operation behind all others, and does each hang on earlier ones alone? -/
def lastB (ops : Array Oper) (n : Nat) : Bool :=
  (List.range n).all (fun i => ((rowsOf ops).getD n 0).testBit i) && edgesB 0 ops.toList && (ops.toList.take n).all (guardB n) && decide (n + 1 = ops.size)

set_option maxHeartbeats 800000 in
theorem awp_last (hm : P.follows .mixedOrders = true) {nt b : Nat} {z : List Nat} {id : Nat} {ops : Array Oper} {K : AS → Prop} {Q : AEx → AS → Prop} {s : AS} (n : Nat) (hK : ∀ s, K s → Q .normal s) (hd : dstOk nt ops.toList = true)
    (hl : lastB ops n = true)
    (h : wpD P z (ops.toList.take n).toArray (fun acc s' => okD (ops.toList.take n).toArray acc = true ∧ wpL P z ops K (ops.toList.drop n) s') (ops.toList.take n) [] s) : awp P nt b (.region id ops true) Q s := by
  intro E φ S a w _ r
  unfold lastB at hl
  simp only [Bool.and_eq_true, decide_eq_true_eq] at hl
  obtain ⟨⟨⟨l1, l2⟩, l3⟩, l4⟩ := hl
  have hlen : ops.toList.length = n + 1 := by simp [← l4]
  have hdrop : ∃ last, ops.toList.drop n = [last] := by
    have : (ops.toList.drop n).length = 1 := by simp; omega
    exact List.length_eq_one_iff.1 this
  obtain ⟨last, hlast⟩ := hdrop
  generalize hinit : ops.toList.take n = init at *
  have hops : ops = init.toArray.push last := by
    have e : ops.toList = init ++ [last] := by rw [← hinit, ← hlast]; simp
    apply Array.toList_inj.1
    rw [e]; simp
  have hil : init.length = n := by rw [← hinit]; simp; omega
  rw [hlast] at h
  have hdl : ∀ o, o ∈ ops.toList → o.dst.all (· < nt) = true := fun o ho => List.all_eq_true.1 hd o ho
  have hd1 : dstOk nt init = true := List.all_eq_true.2 fun o ho => hdl o (by rw [hops]; simp [ho])
  have hd2 : dstOk nt [last] = true := List.all_eq_true.2 fun o ho => hdl o (by rw [hops]; simp at ho ⊢; exact .inr ho)
  refine wp_region_any hm ?_
  let Q' := lift E nt Q
  let Q0 : Exit → Act → World → Prop := fun e a w => match e with
    | .normal => wpOp P (init.toArray.push last) Q' init.toArray.size (fun a w => Q' .normal a w) a w
    | _ => False
  have step := wpD_any (ops := init.toArray) (z := z) (K := fun s' => wpL P z ops K [last] s') (Q := Q0) (E := E) (nt := nt) (fun s φ S a w hk r => ?_) (by simpa using hd1) r (by simpa using h)
  · have := wpAny_push (P := P) (ops' := init.toArray) (last := last) (Q0 := Q0) (Q := Q') (fun e a w hne he => ?_) (fun a w hh => hh) ?_ ?_ ?_ ?_ init.toArray.size (Array.replicate init.toArray.size false) a { w with drawn := w.drawn + 1 } (by simp) ?_ ?_ step
    · have e1 : (Array.replicate init.toArray.size false).push false = Array.replicate ops.size false := by
        apply Array.toList_inj.1
        rw [hops]
        simp [List.replicate_succ']
      have e2 : init.toArray.size + 1 = ops.size := by rw [hops]; simp
      rw [e1, e2] at this
      rw [← hops] at this
      exact this
    · cases e <;> first | exact absurd rfl hne | exact he.elim
    · intro j o ho
      have : o ∈ init := by
        have := Array.mem_of_getElem? ho
        simpa using this
      have := List.all_eq_true.1 l3 o this
      simpa [hil] using this
    · intro j o ho p hp
      have hj : j < init.length := by
        rcases Nat.lt_or_ge j init.length with h | h
        · exact h
        · rw [Array.getElem?_eq_none (by simpa using h)] at ho; cases ho
      have ho2 : ops.toList[j]'(by rw [hops]; simp; omega) = o := by
        have : init[j] = o := by simpa [hj] using ho
        rw [← this]
        simp only [hops]
        simp [hj, List.getElem_append_left]
      have := edges_ok l2 j (by rw [hops]; simp; omega) p (by rw [ho2]; exact hp)
      omega
    · intro p hp
      have ho2 : ops.toList[n]'(by omega) = last := by
        simp only [hops]
        simp [← hil]
      have := edges_ok l2 n (by omega) p (by rw [ho2]; exact hp)
      simp [hil]; omega
    · intro A hA hp k hk
      have hA2 : Closed ops (fun i => i < n → A i) := by
        intro i o ho hi p hpp
        intro hpn
        rcases Nat.lt_or_ge i n with h | h
        · have ho' : init.toArray[i]? = some o := by
            rw [hops, Array.getElem?_push, if_neg (by simp; omega)] at ho; exact ho
          exact hA i o ho' (hi h) p hpp
        · have hi2 : i = n := by
            rcases Nat.lt_or_ge i ops.size with h2 | h2
            · omega
            · rw [Array.getElem?_eq_none h2] at ho; cases ho
          subst hi2
          have : o = last := by
            rw [hops, Array.getElem?_push, if_pos (by simp [hil])] at ho
            exact (Option.some.inj ho).symm
          subst this
          exact hp p hpp
      have hk' : k < n := by simpa [hil] using hk
      have hbit := List.all_eq_true.1 l1 k (List.mem_range.2 hk')
      have hol : ops[n]? = some last := by
        rw [hops, Array.getElem?_push, if_pos (by simp [hil])]
      exact rowsOf_ok hA2 hol (fun p hpp _ => hp p hpp) hbit hk'
    · unfold cnt
      have : ∀ n, n ≤ init.toArray.size → (List.range n).countP (fun k => !(Array.replicate init.toArray.size false).getD k false) = n := by
        intro n hn
        rw [List.countP_eq_length.2 fun k hk => ?_]
        · simp
        · have := List.mem_range.1 hk
          simp at hn
          simp [show k < init.length by omega]
      exact this _ (Nat.le_refl _)
    · intro k o hk hA
      have : (Array.replicate init.toArray.size false).getD k false = true := hA
      by_cases hb : k < init.length <;> simp [hb] at this
  · have hw := wpL_sound (Q := Q') (ops := ops) (z := z) (Q0 := K) (fun s φ S a w hk r => ⟨.normal, s, φ, S, rfl, hK s hk, r⟩) [last] s φ S a w hd2 r hk
    show wpOp P (init.toArray.push last) Q' init.toArray.size (fun a w => Q' .normal a w) a w
    unfold wpOp
    have hol : (init.toArray.push last)[init.toArray.size]? = some last := by simp
    rw [hol]
    unfold wpList at hw
    rw [← hops]
    simp only
    split
    · rename_i hw1
      rw [if_pos hw1] at hw
      rcases hw with hw | hw
      · exact .inl (Oper.wp_mono (fun a w h => by simpa [wpList] using h) hw)
      · exact .inr hw
    · rename_i hw1
      rw [if_neg hw1] at hw
      simpa [wpList] using hw

end Go.Ab
