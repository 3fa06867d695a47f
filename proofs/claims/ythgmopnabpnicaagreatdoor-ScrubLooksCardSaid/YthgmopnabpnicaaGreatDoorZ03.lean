import Derived.Laws.BytesString
import Derived.Laws.IdiomStrings
import Derived.Test.YthgmopnabpnicaaGreatDoorZ02
set_option linter.all false
namespace Go.Ab
open Go
variable [Glob]

variable {P : Program} {w : World} {S : Nat → Prop} {φ : Pm} {s : AS} {n n' : Nat}

theorem lenOf_slice {m : Nat} {ys : List (List AV)} {a : Value} {vs : List Value} (h : Adds w P m ys a vs) : ∀ w', (Builtin.lenOf a).run P w' = .ok ys.length w' := fun w' => by
  have := h.len
  cases a <;> simp only [Builtin.lenOf, Sem.run_pure, run_stuck, Result.ok.injEq, and_true] at this ⊢ <;> first | exact this | cases this

theorem tAp_ok {t t' : TypeId} {m by_ : Nat} (h : tAp P t t' = some (m, by_)) :
    ∃ el gg z dx, tSl P t = some (el, m, gg) ∧ tBytes P el = some by_ ∧ tZero P el = some z ∧ P.underlying t' = some dx ∧ tInt P t' = none ∧ 0 < by_ ∧ z.length = m := by
  unfold tAp at h
  split at h
  · rename_i e m' g hsl
    split at h
    · rename_i b z h1 h2
      split at h
      · rename_i hh
        cases h
        obtain ⟨dx, hux⟩ := Option.isSome_iff_exists.1 hh.1
        exact ⟨e, g, z, dx, hsl, h1, h2, hux, hh.2.1, hh.2.2.1, hh.2.2.2⟩
      · cases h
    · cases h
  · cases h

/-- the world behind a draw -/
def World.dr (w : World) : World := { w with drawn := w.drawn + 1 }

set_option maxHeartbeats 2000000 in
theorem aappend_good {b : Nat} {t t' : TypeId} {x y v : AV} {a c : Value} {ws : List W} {ts : List TypeId} {ty : TypeId} (H : HeapOK w S φ s.h n) (hb : Fr φ s.h b ∧ n ≤ n') (hn : b < n')
    (e : (aappend P b t t' x y).run s = some (v, ws)) (rx : Rel w S φ x a) (ry : Rel w S φ y c) :
    Good P w S φ s n' (Builtin.append_ (t :: t' :: ts).toArray ty #[a, c]) v ws := by
  unfold aappend at e
  split at e
  case h_2 => cases e
  rename_i p htap
  obtain ⟨m, by_⟩ := p
  obtain ⟨el, gg, z, dx, hsl, hby, hz, hux, hx, hb0, hzm⟩ := tAp_ok htap
  obtain ⟨ys, e1, e2⟩ := bind_some e
  clear e
  have e := e2
  clear e2
  dsimp only at e1 e
  obtain ⟨vs0, c1, c2⟩ := addend_good (P := P) H e1 ry
  -- behind the draw
  obtain ⟨Hd, Td⟩ := H.congr (w' := { w with drawn := w.drawn + 1 }) rfl rfl rfl rfl (Nat.le_refl n)
  obtain ⟨vs, d1, d2⟩ := addend_good (P := P) Hd e1 (Td.rel H ry)
  have d1' : Cont w S m ys vs := d1.mono (fun _ _ => rfl) (fun _ h => h)
  have grown : ∀ {base : Option Addr} {sLen sCap : Nat} {olds : List Value} {xs : List (List AV)} (id : Nat) (g : Nat), a = .slice base sLen sCap → sLen = xs.length → sCap < sLen + ys.length →
      (2 * (sLen + ys.length) + 512) * by_ ≤ 2 ^ 47 →
      (Builtin.firstCells m sLen (.slice base sLen sCap)).run P { w with drawn := w.drawn + 1 } = .ok olds.toArray { w with drawn := w.drawn + 1 } →
      Cont w S m xs olds → ((Fr φ s.h id ∧ id < n' ∧ g = 0) ∨ ∃ xs0, s.h id = .row m (g - 1) xs0 ∧ 0 < g) →
      v = .row id g 0 (sLen + ys.length) → ws = [.h id (.row m g (xs ++ ys))] →
      Good P w S φ s n' (Builtin.append_ (t :: t' :: ts).toArray ty #[a, c]) v ws := by
    rintro base sLen sCap olds xs id g rfl hl hcap hroom hold hc hid rfl rfl
    obtain ⟨cap, rest, r1, r2, r3⟩ := append_grows (ts := ts) (ty := ty) (w := w) hsl hby hz hzm hx hux hroom hb0 hcap hold c2.len d2 d1.len
    have hrow : RowRel w S m (xs ++ ys) (olds ++ vs ++ rest).toArray := by
      have q : Cont w S m (xs ++ ys) (olds ++ vs) := by
        refine ⟨fun l hl => ?_, ?_, fun u hu => ?_, fun i j hi hj => ?_⟩
        · rcases List.mem_append.1 hl with h | h
          · exact hc.sz l h
          · exact d1'.sz l h
        · rw [List.length_append, List.length_append, hc.len, d1'.len, Nat.add_mul]
        · rcases List.mem_append.1 hu with h | h
          · exact hc.one u h
          · exact d1'.one u h
        · by_cases hlt : i < xs.length
          · have e1 : (xs ++ ys)[i] = xs[i] := by simp [hlt]
            have hj' : j < (xs[i]).length := by rw [← e1]; exact hj
            have hjm : j < m := by rw [← hc.sz _ (List.getElem_mem hlt)]; exact hj'
            obtain ⟨u, h1, h2⟩ := hc.rel i j hlt hj'
            refine ⟨u, ?_, by simpa [e1] using h2⟩
            rw [List.getElem?_append_left (by rw [hc.len]; exact idx_lt hlt hjm)]
            exact h1
          · have hi' : i - xs.length < ys.length := by simp only [List.length_append] at hi; omega
            have e1 : (xs ++ ys)[i] = ys[i - xs.length] := by rw [List.getElem_append_right (by omega)]
            have hj' : j < (ys[i - xs.length]).length := by rw [← e1]; exact hj
            have hjm : j < m := by rw [← d1'.sz _ (List.getElem_mem hi')]; exact hj'
            obtain ⟨u, h1, h2⟩ := d1'.rel (i - xs.length) j hi' hj'
            refine ⟨u, ?_, by simpa [e1] using h2⟩
            have e2 : i * m = xs.length * m + (i - xs.length) * m := by rw [← Nat.add_mul]; congr 1; omega
            rw [List.getElem?_append_right (by rw [hc.len]; omega), hc.len]
            have e4 : i * m + j - xs.length * m = (i - xs.length) * m + j := by omega
            rw [e4]; exact h1
      exact q.row rest
    have hsize : (olds ++ vs ++ rest).toArray.size = cap * m := by
      simp only [List.size_toArray, List.length_append, hc.len, d1'.len, r3, ← hl]
      rw [← Nat.add_mul, ← Nat.add_mul]
      congr 1; omega
    have hxl : (xs ++ ys).length ≤ cap := by simp only [List.length_append]; omega
    have hfz : ∀ off, off < (olds ++ vs ++ rest).toArray.size → ¬ ((0 : Nat) ≤ off ∧ off < 0) := fun off _ h => by omega
    rcases hid with ⟨hi1, hi2, rfl⟩ | ⟨xs0, hi1, hi2⟩
    · obtain ⟨φ', k1, k2, k3⟩ := H.newRow id ⟨hi1, hb.2⟩ hi2 m cap (xs ++ ys) (olds ++ vs ++ rest).toArray el (0, 0) hsize hxl hrow hfz
        { w with heap := w.heap.push (.cells (olds ++ vs ++ rest).toArray el), drawn := w.drawn + 1 } rfl rfl rfl rfl
      refine ⟨HW_one _ _, _, _, S, φ', r1, k1, k2, ?_⟩
      have := Rel.row (w := { w with heap := w.heap.push (.cells (olds ++ vs ++ rest).toArray el), drawn := w.drawn + 1 }) (S := S) (off := 0) (len := sLen + ys.length) (o := 0) k3 (by omega) (.inl (by simp))
      simpa using this
    · obtain ⟨φ', k1, k2, k3⟩ := H.setRow id hi1 g (xs ++ ys) w.heap.size cap
        { w with heap := w.heap.push (.cells (olds ++ vs ++ rest).toArray el), drawn := w.drawn + 1 } (olds ++ vs ++ rest).toArray (.inr (.inr ⟨by omega, rfl⟩))
        ⟨el, (0, 0), heap_push_at w _, hfz⟩ hsize hxl (fun k _ hk => heap_push_lt w _ k hk) (by simp) rfl rfl rfl hrow
      refine ⟨HW_one _ _, _, _, S, φ', r1, (k1.congr rfl rfl rfl rfl (by omega)).1, k2, ?_⟩
      have := Rel.row (w := { w with heap := w.heap.push (.cells (olds ++ vs ++ rest).toArray el), drawn := w.drawn + 1 }) (S := S) (off := 0) (len := sLen + ys.length) (o := 0) k3 (by omega) (.inl (by simp))
      simpa using this
  have nilroom : ∀ (id g : Nat), a = .slice none 0 0 → ys = [] → ((Fr φ s.h id ∧ g = 0) ∨ ∃ g0, s.h id = .row m g0 [] ∧ φ id g0 = some .nil ∧ g = g0 + 1) → id < n' →
      v = .row id g 0 0 → ws = [.h id (.row m g [])] → Good P w S φ s n' (Builtin.append_ (t :: t' :: ts).toArray ty #[a, c]) v ws := by
    rintro id g rfl hys hid hin rfl rfl
    obtain ⟨φ', k1, k2, k3⟩ := H.nilRow id n' (by omega) hin m g hid
    refine ⟨HW_one _ _, .slice none 0 0, w, S, φ', ?_, k1, k2, .rownil k3⟩
    obtain ⟨hu, hm, _⟩ := tSl_ok hsl
    have hni := run_noint hx hux
    have hlen := c2.len
    have hf := c2.first 0 (Nat.zero_le _)
    rw [hys] at hlen
    simp only [Nat.zero_mul, List.take_zero, List.length_nil] at hf hlen
    cases dx <;> first
      | (exact absurd rfl (hni _); done)
      | (simp only [Builtin.append_, List.getElem?_toArray, List.getElem?_cons_zero, List.getElem?_cons_succ, Sem.run_bind, Result.andThen, run_underlying hu, run_underlying hux, run_sizeOf hm,
            Sem.run_pure, hlen, if_false, Bool.false_eq_true, Bool.not_false, if_true, hf, Nat.add_zero, Nat.le_refl])
  split at e
  · obtain ⟨hroom, e'⟩ := guardA_some e
    simp only [run_ret, Option.some.injEq, Prod.mk.injEq] at e'
    obtain ⟨rfl, rfl⟩ := e'
    cases rx
    by_cases hys : ys = []
    · subst hys
      exact nilroom b 0 rfl rfl (.inl ⟨hb.1, rfl⟩) hn rfl rfl
    · have : 0 < ys.length := List.length_pos_iff.2 hys
      exact grown (xs := []) (olds := []) b 0 rfl rfl (by omega) (by simpa using hroom) (by simp [Builtin.firstCells]) ⟨by simp, by simp, by simp, fun i j hi => by simp at hi⟩ (.inl ⟨hb.1, hn, rfl⟩) (by simp) (by simp)
  · rename_i id g off len
    simp only [RM.run, apRow] at e
    split at e
    · rename_i sz g' xs hi
      obtain ⟨⟨h1, h2, h3, h4, hroom⟩, e'⟩ := guardA_some e
      clear e
      subst h1; subst h2; subst h3; subst h4
      simp only [run_ret, Option.some.injEq, Prod.mk.injEq] at e'
      obtain ⟨rfl, rfl⟩ := e'
      have hin : id < n := by
        rcases Nat.lt_or_ge id n with h' | h'
        · exact h'
        · have := (H.new id h').1; rw [hi] at this; cases this
      have ho := H.obj id
      rw [hi] at ho
      obtain ⟨_, ⟨hq, hxs⟩ | ⟨b', cap', cs, hq, hr, hs, hc, hrel⟩⟩ := ho
      · subst hxs
        cases rx with
        | row hp _ _ => rw [hq] at hp; cases hp
        | rownil hp =>
          by_cases hys : ys = []
          · subst hys
            exact nilroom id (g + 1) rfl rfl (.inr ⟨g, hi, hq, rfl⟩) (by omega) (by simp) (by simp)
          · have : 0 < ys.length := List.length_pos_iff.2 hys
            exact grown (xs := []) (olds := []) id (g + 1) rfl rfl (by omega) (by simpa using hroom) (by simp [Builtin.firstCells]) ⟨by simp, by simp, by simp, fun i j hi => by simp at hi⟩
              (.inr ⟨[], by simpa using hi, by omega⟩) (by simp) (by simp)
      · cases hrx : a with
        | slice p l c' =>
          rw [hrx] at rx
          have hx3 : p = some ⟨b', 0, none⟩ ∧ l = xs.length ∧ c' = cap' := by
            generalize hgen : xs.length = L at rx
            cases rx with
            | rownil hp => rw [hq] at hp; cases hp
            | row hp hl ho' =>
              rw [hq] at hp; cases hp
              refine ⟨?_, by omega, by omega⟩
              rcases ho' with rfl | ⟨_, h0⟩
              · simp
              · omega
          obtain ⟨rfl, hl, rfl⟩ := hx3
          subst hrx
          by_cases hroom2 : xs.length + ys.length ≤ c'
          · have hbnd : 0 + xs.length * sz + vs0.length ≤ cs.size := by
              rw [hs, c1.len, Nat.zero_add, ← Nat.add_mul]; exact Nat.mul_le_mul_right _ hroom2
            obtain ⟨w', r1, r2, r3⟩ := append_room (ts := ts) (ty := ty) (w := w) hsl hx hux (sLen := l) (sCap := c') (by omega) c2 c1.len hr (by rw [hl]; exact hbnd) c1.one
            rw [hl, Nat.zero_add] at r2
            rw [Nat.zero_add] at hbnd
            obtain ⟨φ', k1, k2, k3⟩ := H.setRow id hi (g + 1) (xs ++ ys) b' c' w' _ (.inr (.inl ⟨rfl, hq⟩)) r2 (by rw [setA_size]; exact hs)
              (by simp only [List.length_append]; exact hroom2) (fun k hk _ => r3.keep k hk) (by rw [r3.size]; exact Nat.le_refl _) r3.os r3.tape r3.out (rowRel_append hrel c1 hbnd)
            refine ⟨HW_one _ _, _, w', S, φ', r1, (k1.congr rfl rfl rfl rfl (by omega)).1, k2, ?_⟩
            rw [hl]
            have := Rel.row (w := w') (S := S) (off := 0) (len := xs.length + ys.length) (o := 0) k3 (by omega) (.inl (by simp))
            simpa using this
          · have hcl : Cont w S sz xs (cs.toList.take (xs.length * sz)) := by
              have hb3 : xs.length * sz ≤ cs.size := by rw [hs]; exact Nat.mul_le_mul_right _ hc
              refine ⟨hrel.1, by simp only [List.length_take, Array.length_toList]; omega, fun v hv => ?_, fun i j hi' hj' => ?_⟩
              · obtain ⟨k, hk, rfl⟩ := List.getElem_of_mem hv
                simp only [List.length_take, Array.length_toList] at hk
                have hz' : 0 < sz := by
                  rcases Nat.eq_zero_or_pos sz with h | h
                  · subst h; simp at hk
                  · exact h
                have h1 : k / sz < xs.length := (Nat.div_lt_iff_lt_mul hz').2 (by omega)
                have h2 : k % sz < sz := Nat.mod_lt _ hz'
                obtain ⟨u, h7, h8, _⟩ := hrel.2 (k / sz) (k % sz) h1 (by rw [hrel.1 _ (List.getElem_mem _)]; exact h2)
                have e4 : k / sz * sz + k % sz = k := by rw [Nat.mul_comm]; exact Nat.div_add_mod k sz
                rw [e4, Array.getElem?_eq_getElem (by omega)] at h7
                rw [List.getElem_take]
                have e5 := Option.some.inj h7
                simp only [Array.getElem_toList]
                rw [e5]; exact h8
              · have hjm : j < sz := by rw [← hrel.1 _ (List.getElem_mem hi')]; exact hj'
                obtain ⟨u, h7, _, h8⟩ := hrel.2 i j hi' hj'
                refine ⟨u, ?_, h8⟩
                rw [List.getElem?_take, if_pos (idx_lt hi' hjm)]
                simpa using h7
            have hfirst : (Builtin.firstCells sz l (.slice (some ⟨b', 0, none⟩) l c')).run P { w with drawn := w.drawn + 1 } = .ok (cs.toList.take (xs.length * sz)).toArray { w with drawn := w.drawn + 1 } := by
              have hb3 : xs.length * sz ≤ cs.size := by rw [hs]; exact Nat.mul_le_mul_right _ hc
              have hr' : RowAt { w with drawn := w.drawn + 1 } b' cs := hr.mono rfl
              have := run_loadCells_at (P := P) (cellsAt_row (m := xs.length * sz) hr' (off := 0) (by omega))
              simp only [List.drop_zero, List.length_take, Array.length_toList] at this
              rw [Nat.min_eq_left hb3] at this
              simp only [Builtin.firstCells, hl]
              exact this
            refine grown (xs := xs) id (g + 1) rfl hl (by omega) (by rw [hl]; exact hroom) hfirst hcl (.inr ⟨xs, by simpa using hi, by omega⟩) (by rw [hl]) rfl
        | _ => rw [hrx] at rx; generalize xs.length = L at rx; cases rx
    · cases e
  · cases e

end Go.Ab
namespace Go.Ab
open Go
variable [Glob]

variable {P : Program} {w : World} {S : Nat → Prop} {φ : Pm} {s : AS} {n n' : Nat}

theorem bytesOf_ints : ∀ {ys : List (List AV)} {l : List UInt8}, bytesOf ys = some l → ∃ ns : List Int, ys = ns.map (fun k => [.int .u8 k]) ∧ l = ns.map fun k => UInt8.ofNat k.toNat
  | [], l, e => by
    simp only [bytesOf, Option.some.injEq] at e
    exact ⟨[], rfl, e.symm⟩
  | y :: ys, l, e => by
    rw [bytesOf] at e
    split at e
    · rename_i b bs h1 h2
      cases e
      obtain ⟨ns, rfl, rfl⟩ := bytesOf_ints h2
      unfold byteOf at h1
      split at h1
      · rename_i k
        cases h1
        exact ⟨k :: ns, rfl, rfl⟩
      · cases h1
    · cases e

theorem fold_push (ns : List Int) : ∀ r : ByteArray, ns.foldl (fun r n => r.push (UInt8.ofNat n.toNat)) r = ⟨(r.data.toList ++ ns.map fun k => UInt8.ofNat k.toNat).toArray⟩ := by
  induction ns with
  | nil => intro r; simp
  | cons k ns ih =>
    intro r
    rw [List.foldl_cons, ih]
    simp [ByteArray.push]

theorem aconvert_good {b : Nat} {src dst : TypeId} {x v : AV} {a : Value} {ws : List W} (H : HeapOK w S φ s.h n) (hb : Fr φ s.h b ∧ n ≤ n') (hn : b < n')
    (e : (aconvert P b src dst x).run s = some (v, ws)) (rx : Rel w S φ x a) : Good P w S φ s n' (convert src dst a) v ws := by
  unfold aconvert at e
  split at e
  · rename_i k i
    split at e
    · rename_i kd ks hd hs
      obtain ⟨rfl, rfl⟩ := val_some e
      cases rx
      refine .pure H (by omega) ?_ .int
      simp [convert, run_underlying (tInt_ok hd), run_underlying (tInt_ok hs), Result.andThen, Conv.intToInt]
    · cases e
  · rename_i l
    split at e
    · rename_i hh
      simp only [Bool.and_eq_true] at hh
      obtain ⟨rfl, rfl⟩ := val_some e
      cases rx
      refine .pure H (by omega) ?_ .str
      simp [convert, run_underlying (tStr_ok hh.1), run_underlying (tStr_ok hh.2), Result.andThen]
    · split at e
      · rename_i el _ _ hs hd
        split at e
        · rename_i hk
          simp only [run_ret, Option.some.injEq, Prod.mk.injEq] at e
          obtain ⟨rfl, rfl⟩ := e
          cases rx
          obtain ⟨cap, hcap, hrun⟩ : ∃ cap, l.length ≤ cap ∧ (convert src dst (.string ⟨l.toArray⟩)).run P w = .ok (.slice (some ⟨w.heap.size, 0, none⟩) l.length cap)
              (w.drew.alloc (.cells (bytesRow ⟨l.toArray⟩ cap) el ((bytesRow ⟨l.toArray⟩ cap).size, (bytesRow ⟨l.toArray⟩ cap).size + 1))) :=
            ⟨_, Nat.le_add_right _ _, run_bytes_of_string w src dst el ⟨l.toArray⟩ (tStr_ok ‹_›) (tSl_ok hd).1 (tInt_ok hk)⟩
          have hrow : RowRel w S 1 (encB l) (bytesRow ⟨l.toArray⟩ cap) := by
            refine ⟨fun y hy => ?_, fun i j hi hj => ?_⟩
            · simp only [encB, List.mem_map] at hy
              obtain ⟨q, _, rfl⟩ := hy
              rfl
            · simp only [encB, List.length_map] at hi
              simp only [encB, List.getElem_map, List.length_singleton] at hj
              have hj0 : j = 0 := by omega
              subst hj0
              refine ⟨.int .u8 (l[i].toNat : Nat), ?_, rfl, by simp only [encB, List.getElem_map, List.getElem_singleton]; exact .int⟩
              simp only [bytesRow, Nat.mul_one, Nat.add_zero]
              rw [Array.getElem?_append_left (by simpa using hi)]
              simp [hi]
          have hsz : (bytesRow ⟨l.toArray⟩ cap).size = cap * 1 := by
            simp only [bytesRow, Array.size_append, Array.size_map, Array.size_replicate, List.size_toArray, bsize]; omega
          obtain ⟨φ', k1, k2, k3⟩ := H.newRow b hb hn 1 cap (encB l) _ el ((bytesRow ⟨l.toArray⟩ cap).size, (bytesRow ⟨l.toArray⟩ cap).size + 1) hsz (by simpa [encB] using hcap) hrow
            (fun off h1 h2 => by dsimp only at h2; omega)
            (w.drew.alloc (.cells (bytesRow ⟨l.toArray⟩ cap) el ((bytesRow ⟨l.toArray⟩ cap).size, (bytesRow ⟨l.toArray⟩ cap).size + 1))) rfl rfl rfl rfl
          refine ⟨HW_one _ _, _, _, S, φ', hrun, k1, k2, ?_⟩
          have := Rel.row (w := w.drew.alloc (.cells (bytesRow ⟨l.toArray⟩ cap) el ((bytesRow ⟨l.toArray⟩ cap).size, (bytesRow ⟨l.toArray⟩ cap).size + 1))) (S := S) (off := 0) (len := l.length) (o := 0) k3 (by omega) (.inl (by simp))
          simpa using this
        · cases e
      · cases e
  · split at e
    · rename_i el _ _ hs hd
      split at e
      · rename_i hk
        obtain ⟨ys, e1, e2⟩ := bind_some e
        split at e2
        · rename_i l hl
          obtain ⟨rfl, rfl⟩ := val_some e2
          obtain ⟨ns, rfl, rfl⟩ := bytesOf_ints hl
          obtain ⟨p, c, vs, rfl, h1, h2, h3⟩ := content_good H e1 rx
          refine .pure (x := .string ⟨(ns.map fun k => UInt8.ofNat k.toNat).toArray⟩) H (by omega) ?_ .str
          rw [run_convert_bytes_string w src dst el p _ c (tSl_ok hs).1 (tInt_ok hk) (tStr_ok hd)]
          cases p with
          | none =>
            have := h3 rfl
            have hns : ns = [] := by simpa using this
            subst hns
            rfl
          | some pa =>
            obtain ⟨bb, off, rfl, hc⟩ := h2 _ rfl
            have hvs : vs = ns.map (Value.int .u8) := by
              apply List.ext_getElem?
              intro i
              have hlen : vs.length = ns.length := by simpa using h1.len
              by_cases hi : i < ns.length
              · obtain ⟨u, q1, q2⟩ := h1.rel i 0 (by simpa using hi) (by simp)
                rw [Nat.mul_one, Nat.add_zero] at q1
                rw [q1]
                simp only [List.getElem_map, List.getElem_cons_zero] at q2
                cases q2
                simp [hi]
              · rw [List.getElem?_eq_none (by omega), List.getElem?_eq_none (by simp; omega)]
            have hld := run_loadCells_at (P := P) hc
            rw [hvs] at hld
            rw [List.length_map] at hld
            rw [List.length_map, run_bytesToString w _ _ _ ns hld, fold_push]
            rfl
        · cases e2
      · cases e
    · cases e

end Go.Ab
namespace Go.Ab
open Go
variable [Glob]

variable {P : Program} {w : World} {S : Nat → Prop} {φ : Pm} {s : AS} {n n' : Nat}

theorem rowRel_splice {m off k : Nat} {xs ys : List (List AV)} {cs : Array Value} {vs : List Value} (h : RowRel w S m xs cs) (hc : Cont w S m ys vs) (hk : k ≤ ys.length) (hl : off + k ≤ xs.length)
    (hcs : xs.length * m ≤ cs.size) : RowRel w S m (xs.take off ++ ys.take k ++ xs.drop (off + k)) (setA cs (off * m) (vs.take (k * m))) := by
  have hvl : (vs.take (k * m)).length = k * m := by rw [List.length_take, hc.len]; exact Nat.min_eq_left (Nat.mul_le_mul_right _ hk)
  have hbnd : off * m + k * m ≤ cs.size := by
    rw [← Nat.add_mul]; exact Nat.le_trans (Nat.mul_le_mul_right _ hl) hcs
  have htl : (xs.take off).length = off := by rw [List.length_take]; omega
  have htk : (ys.take k).length = k := by rw [List.length_take]; omega
  refine ⟨fun l hl' => ?_, fun i j hi hj => ?_⟩
  · rcases List.mem_append.1 hl' with h' | h'
    · rcases List.mem_append.1 h' with h'' | h''
      · exact h.1 l (List.mem_of_mem_take h'')
      · exact hc.sz l (List.mem_of_mem_take h'')
    · exact h.1 l (List.mem_of_mem_drop h')
  · have hlen : (xs.take off ++ ys.take k ++ xs.drop (off + k)).length = xs.length := by
      simp only [List.length_append, htl, htk, List.length_drop]; omega
    have hi' : i < xs.length := by rw [← hlen]; exact hi
    rw [setA_get _ _ _ _ (by rw [hvl]; exact hbnd), hvl]
    by_cases h1 : i < off
    · have e1 : (xs.take off ++ ys.take k ++ xs.drop (off + k))[i] = xs[i] := by
        rw [List.getElem_append_left (by simp only [List.length_append]; omega), List.getElem_append_left (by omega), List.getElem_take]
      have hj' : j < (xs[i]).length := by rw [← e1]; exact hj
      have hjm : j < m := by rw [← h.1 _ (List.getElem_mem hi')]; exact hj'
      obtain ⟨v, q1, q2, q3⟩ := h.2 i j hi' hj'
      rw [if_neg (by have := idx_lt h1 hjm; omega)]
      exact ⟨v, q1, q2, by simpa only [e1] using q3⟩
    · by_cases h2 : i < off + k
      · have hik : i - off < k := by omega
        have e1 : (xs.take off ++ ys.take k ++ xs.drop (off + k))[i] = ys[i - off]'(by omega) := by
          rw [List.getElem_append_left (by simp only [List.length_append]; omega), List.getElem_append_right (by omega), List.getElem_take]
          simp only [htl]
        have hj' : j < (ys[i - off]'(by omega)).length := by rw [← e1]; exact hj
        have hjm : j < m := by rw [← hc.sz _ (List.getElem_mem (show i - off < ys.length by omega))]; exact hj'
        obtain ⟨v, q1, q2⟩ := hc.rel (i - off) j (by omega) hj'
        have e2 : i * m = off * m + (i - off) * m := by rw [← Nat.add_mul]; congr 1; omega
        have e3 := idx_lt hik hjm
        rw [if_pos (by omega)]
        have e4 : i * m + j - off * m = (i - off) * m + j := by omega
        rw [e4, List.getElem?_take, if_pos e3]
        exact ⟨v, q1, hc.one v (List.mem_of_getElem? q1), by simpa only [e1] using q2⟩
      · have e1 : (xs.take off ++ ys.take k ++ xs.drop (off + k))[i] = xs[i] := by
          rw [List.getElem_append_right (by simp only [List.length_append]; omega), List.getElem_drop]
          congr 1
          simp only [List.length_append, htl, htk]; omega
        have hj' : j < (xs[i]).length := by rw [← e1]; exact hj
        obtain ⟨v, q1, q2, q3⟩ := h.2 i j hi' hj'
        rw [if_neg]
        · exact ⟨v, q1, q2, by simpa only [e1] using q3⟩
        · rintro ⟨_, p2⟩
          have : (off + k) * m ≤ i * m := Nat.mul_le_mul_right _ (by omega)
          rw [Nat.add_mul] at this
          omega

theorem headD_get (l : List AV) (d : AV) (h : 0 < l.length) : l.headD d = l[0] := by
  match l, h with
  | q :: _, _ => rfl

theorem take_min (ys : List (List AV)) (len : Nat) : ys.take len = ys.take (min ys.length len) := by
  rw [List.take_eq_take_iff]; omega

theorem copy_run {t e : TypeId} {m : Nat} {gg : Bool} {ys : List (List AV)} {c : Value} {vs : List Value} {b o len cap : Nat} {ts : List TypeId} {ty : TypeId} {cs : Array Value}
    (hsl : tSl P t = some (e, m, gg)) (hnew : Adds w P m ys c vs) (hc : Cont w S m ys vs) (hr : RowAt w b cs) (hb : o + min ys.length len * m ≤ cs.size) :
    ∃ w', (Builtin.copy_ (t :: ts).toArray ty #[.slice (some ⟨b, o, none⟩) len cap, c]).run P w = .ok (.int .i64 ((min ys.length len : Nat) : Int)) w' ∧
      RowAt w' b (setA cs o (vs.take (min ys.length len * m))) ∧ Stored w w' b := by
  obtain ⟨hu, hm, _⟩ := tSl_ok hsl
  have hvl : (vs.take (min ys.length len * m)).length = min ys.length len * m := by
    rw [List.length_take, hc.len]; exact Nat.min_eq_left (Nat.mul_le_mul_right _ (Nat.min_le_left _ _))
  obtain ⟨w', e1, e2, e3⟩ := run_storeCells_row (P := P) (vs.take (min ys.length len * m)) w o 0 cs hr (by rw [hvl]; simpa using hb) (fun v hv => hc.one v (List.mem_of_mem_take hv))
  refine ⟨w', ?_, by simpa using e2, e3⟩
  have hf := hnew.first (min ys.length len) (Nat.min_le_left _ _)
  simp only [Builtin.copy_, List.getElem?_toArray, List.getElem?_cons_zero, List.getElem?_cons_succ, Sem.run_bind, Result.andThen, run_underlying hu, run_sizeOf hm, Sem.run_pure, hnew.len]
  have e5 : ∀ a b : Nat, Nat.min a b = min a b := fun _ _ => rfl
  rw [e5, hf]
  simp only [e1, goInt]

theorem copy_zero {t e : TypeId} {m : Nat} {gg : Bool} {ys : List (List AV)} {c : Value} {vs : List Value} {base : Option Addr} {cap : Nat} {ts : List TypeId} {ty : TypeId}
    (hsl : tSl P t = some (e, m, gg)) (hnew : Adds w P m ys c vs) :
    (Builtin.copy_ (t :: ts).toArray ty #[.slice base 0 cap, c]).run P w = .ok (.int .i64 ((min ys.length 0 : Nat) : Int)) w := by
  obtain ⟨hu, hm, _⟩ := tSl_ok hsl
  have hf := hnew.first 0 (Nat.zero_le _)
  simp only [Nat.zero_mul, List.take_zero] at hf
  have e5 : ∀ a b : Nat, Nat.min a b = min a b := fun _ _ => rfl
  simp only [Builtin.copy_, List.getElem?_toArray, List.getElem?_cons_zero, List.getElem?_cons_succ, Sem.run_bind, Result.andThen, run_underlying hu, run_sizeOf hm, hnew.len]
  rw [e5, Nat.min_zero, hf]
  cases base <;> simp [goInt, storeCells]

theorem acopy_good {t : TypeId} {x y v : AV} {a c : Value} {ws : List W} {ts : List TypeId} {ty : TypeId} (H : HeapOK w S φ s.h n) (hn : n ≤ n')
    (e : (acopy P t x y).run s = some (v, ws)) (rx : Rel w S φ x a) (ry : Rel w S φ y c) : Good P w S φ s n' (Builtin.copy_ (t :: ts).toArray ty #[a, c]) v ws := by
  unfold acopy at e
  split at e
  case h_2 => cases e
  rename_i el m gg hsl
  obtain ⟨ys, e1, e2⟩ := bind_some e
  clear e
  obtain ⟨vs, c1, c2⟩ := addend_good (P := P) H e1 ry
  split at e2
  · rename_i id g off len
    simp only [RM.run] at e2
    split at e2
    · rename_i sz g' xs hi
      obtain ⟨⟨h1, h2, h3⟩, e'⟩ := guardA_some e2
      clear e2
      subst h1; subst h2
      simp only [run_ret, Option.some.injEq, Prod.mk.injEq] at e'
      obtain ⟨rfl, rfl⟩ := e'
      have ho := H.obj id
      rw [hi] at ho
      obtain ⟨_, ⟨hq, hxs⟩ | ⟨b', cap', cs, hq, hr, hs, hc, hrel⟩⟩ := ho
      · subst hxs
        cases rx with
        | row hp _ _ => rw [hq] at hp; cases hp
        | rownil hp =>
          have e3 : upd s.h id (.row sz g (([] : List (List AV)).take 0 ++ ys.take 0 ++ ([] : List (List AV)).drop (0 + min ys.length 0))) = s.h := by
            funext j
            by_cases hj : j = id
            · subst hj; rw [upd_same, hi]; simp
            · rw [upd_ne _ _ hj]
          refine ⟨HW_one _ _, _, w, S, φ, copy_zero hsl c2, ?_, ?_, .int⟩
          · show HeapOK w S φ (upd s.h id _) n'
            rw [e3]; exact (H.congr rfl rfl rfl rfl hn).1
          · show Step w S φ s.h w S φ (upd s.h id _)
            rw [e3]; exact Step.refl _ _ _ _
      · cases rx with
        | rownil hp => rw [hq] at hp; cases hp
        | row hp hl ho' =>
          rename_i o
          rw [hq] at hp; cases hp
          have hk : off + min ys.length len ≤ xs.length := by omega
          have hcs : xs.length * sz ≤ cs.size := by rw [hs]; exact Nat.mul_le_mul_right _ hc
          rcases ho' with rfl | ⟨hoff, hpos⟩
          · have hb : off * sz + min ys.length len * sz ≤ cs.size := by rw [← Nat.add_mul]; exact Nat.le_trans (Nat.mul_le_mul_right _ hk) hcs
            obtain ⟨w', r1, r2, r3⟩ := copy_run (ts := ts) (ty := ty) (len := len) (cap := cap' - off) hsl c2 c1 hr hb
            have hrow := rowRel_splice (off := off) (k := min ys.length len) hrel c1 (Nat.min_le_left _ _) hk hcs
            obtain ⟨φ', k1, k2, k3⟩ := H.setRow id hi g (xs.take off ++ ys.take len ++ xs.drop (off + min ys.length len)) b' cap' w' _ (.inl ⟨rfl, hq⟩) r2 (by rw [setA_size]; exact hs)
              (by simp only [List.length_append, List.length_take, List.length_drop]; omega) (fun k hk _ => r3.keep k hk) (by rw [r3.size]; exact Nat.le_refl _) r3.os r3.tape r3.out
              (by rw [take_min ys]; exact hrow)
            exact ⟨HW_one _ _, _, w', S, φ', r1, (k1.congr rfl rfl rfl rfl hn).1, k2, .int⟩
          · have h0 : len = 0 := by omega
            subst h0
            have e3 : upd s.h id (.row sz g (xs.take off ++ ys.take 0 ++ xs.drop (off + min ys.length 0))) = s.h := by
              funext j
              by_cases hj : j = id
              · subst hj; rw [upd_same, hi]; simp
              · rw [upd_ne _ _ hj]
            refine ⟨HW_one _ _, _, w, S, φ, copy_zero hsl c2, ?_, ?_, .int⟩
            · show HeapOK w S φ (upd s.h id _) n'
              rw [e3]; exact (H.congr rfl rfl rfl rfl hn).1
            · show Step w S φ s.h w S φ (upd s.h id _)
              rw [e3]; exact Step.refl _ _ _ _
    · cases e2
  · rename_i id off len cap
    simp only [RM.run] at e2
    split at e2
    · rename_i cs hi
      obtain ⟨⟨h1, h2⟩, e'⟩ := guardA_some e2
      clear e2
      subst h1
      simp only [run_ret, Option.some.injEq, Prod.mk.injEq] at e'
      obtain ⟨rfl, rfl⟩ := e'
      have ho := H.obj id
      rw [hi] at ho
      obtain ⟨b, us, q1, q2, q3, q4⟩ := ho
      cases rx with
      | bsl hp =>
        rw [q1] at hp; cases hp
        have hk : min ys.length len ≤ ys.length := Nat.min_le_left _ _
        obtain ⟨w', r1, r2, r3⟩ := copy_run (ts := ts) (ty := ty) (len := len) (o := off) (cap := cap) hsl c2 c1 q2 (by rw [Nat.mul_one]; omega)
        have hvl : (vs.take (min ys.length len * 1)).length = min ys.length len := by
          rw [List.length_take, c1.len, Nat.mul_one, Nat.mul_one]; omega
        have hlen : (cs.take off ++ ((ys.take len).map fun y => y.headD .bot) ++ cs.drop (off + min ys.length len)).length = cs.length := by
          simp only [List.length_append, List.length_take, List.length_map, List.length_drop]; omega
        have hbox : BoxRel w S φ (cs.take off ++ ((ys.take len).map fun y => y.headD .bot) ++ cs.drop (off + min ys.length len)) (setA us off (vs.take (min ys.length len * 1))) := by
          refine ⟨by rw [hlen, setA_size]; exact q3, fun j h h' => ?_⟩
          have g1 := setA_get (vs.take (min ys.length len * 1)) us off j (by rw [hvl]; omega)
          rw [Array.getElem?_eq_getElem h', hvl] at g1
          rw [hlen] at h
          rw [setA_size] at h'
          by_cases j1 : j < off
          · rw [if_neg (by omega), Array.getElem?_eq_getElem h'] at g1
            rw [Option.some.inj g1, List.getElem_append_left (by simp only [List.length_append, List.length_take, List.length_map]; omega), List.getElem_append_left (by simp; omega), List.getElem_take]
            exact q4 j h h'
          · by_cases j2 : j < off + min ys.length len
            · have hj3 : j - off < ys.length := by omega
              have hsz := c1.sz _ (List.getElem_mem hj3)
              obtain ⟨u, z1, z2⟩ := c1.rel (j - off) 0 hj3 (by omega)
              rw [if_pos (by omega), List.getElem?_take, if_pos (by omega)] at g1
              rw [Nat.mul_one, Nat.add_zero] at z1
              rw [z1] at g1
              rw [Option.some.inj g1, List.getElem_append_left (by simp only [List.length_append, List.length_take, List.length_map]; omega), List.getElem_append_right (by simp; omega)]
              simp only [List.getElem_map, List.getElem_take, List.length_take]
              have e7 : min off cs.length = off := by omega
              simp only [e7]
              have e8 := headD_get (ys[j - off]) .bot (by omega)
              rw [e8]
              exact z2.mono (fun _ _ => rfl) (fun _ h => h) (pm0_le φ)
            · rw [if_neg (by omega), Array.getElem?_eq_getElem h'] at g1
              rw [Option.some.inj g1, List.getElem_append_right (by simp only [List.length_append, List.length_take, List.length_map]; omega), List.getElem_drop]
              have e9 : off + min ys.length len + (j - (cs.take off ++ (ys.take len).map fun y => y.headD .bot).length) = j := by
                simp only [List.length_append, List.length_take, List.length_map]; omega
              simp only [e9]
              exact q4 j h h'
        obtain ⟨k1, k2⟩ := H.setBox id hi q1 w' _ hlen r2 r3.keep r3.size r3.os r3.tape r3.out hbox
        exact ⟨HW_one _ _, _, w', S, φ, r1, (k1.congr rfl rfl rfl rfl hn).1, k2, .int⟩
    · cases e2
  · cases e2

theorem aminmax_good (lt : Int → Int → Bool) (F : Value → Value → Sem Value) (hF : ∀ k a b w, (F (.int k a) (.int k b)).run P w = .ok (.int k (if lt b a then b else a)) w) :
    ∀ (xs : List AV) (vs : List Value) (v : AV), aminmax lt xs = some v → xs.length = vs.length → (∀ j (h : j < xs.length) (h' : j < vs.length), Rel w S φ xs[j] vs[j]) →
      ∃ x, (match vs with | [] => stuck "" | x :: rest => rest.foldlM F x : Sem Value).run P w = .ok x w ∧ Rel w S φ v x
  | [], _, v, e, _, _ => by simp [aminmax] at e
  | [x], vs, v, e, hl, hr => by
    match vs, hl with
    | [y], _ =>
      have r := hr 0 (by simp) (by simp)
      cases x with
      | int k a =>
        simp only [aminmax, Option.some.injEq] at e
        subst e
        exact ⟨y, by simp, r⟩
      | _ => simp [aminmax] at e
  | x :: x' :: xs, vs, v, e, hl, hr => by
    match vs, hl with
    | y :: y' :: vs, hl =>
      have r0 := hr 0 (by simp) (by simp)
      have r1 := hr 1 (by simp) (by simp)
      cases x with
      | int k a =>
        cases x' with
        | int k' b =>
          rw [aminmax] at e
          split at e
          · rename_i hk
            subst hk
            simp only [List.getElem_cons_zero, List.getElem_cons_succ] at r0 r1
            cases r0; cases r1
            obtain ⟨z, z1, z2⟩ := aminmax_good lt F hF (.int k (if lt b a = true then b else a) :: xs) (.int k (if lt b a = true then b else a) :: vs) v e (by simpa using hl)
              (fun j h h' => by
                cases j with
                | zero => exact .int
                | succ j => exact hr (j + 2) (by simpa using h) (by simpa using h'))
            refine ⟨z, ?_, z2⟩
            simp only [List.foldlM_cons, Sem.run_bind, hF, Result.andThen]
            exact z1
          · cases e
        | _ => simp [aminmax] at e
      | _ => cases x' <;> simp [aminmax] at e
termination_by xs => xs.length

end Go.Ab
namespace Go.Ab
open Go
variable [Glob]

variable {P : Program} {w : World} {S : Nat → Prop} {φ : Pm} {s : AS} {n n' : Nat}

theorem aevL_rel {ρ : Operand → Value} (hs : Slots w S φ s.t ρ) : ∀ {xs : List (Nat × Operand)} {vs : List (Nat × AV)}, (aevL xs).run s = some vs →
    vs.length = xs.length ∧ ∀ j (h : j < vs.length) (h' : j < xs.length), vs[j].1 = xs[j].1 ∧ Rel w S φ vs[j].2 (ρ xs[j].2)
  | [], vs, e => by
    simp only [aevL, run_ret, Option.some.injEq] at e
    subst e
    exact ⟨rfl, fun j h => by simp at h⟩
  | (i, x) :: xs, vs, e => by
    rw [aevL] at e
    obtain ⟨v, e1, e⟩ := bind_some e
    obtain ⟨us, e2, e⟩ := bind_some e
    simp only [run_ret, Option.some.injEq] at e
    subst e
    obtain ⟨h1, h2⟩ := aevL_rel hs e2
    refine ⟨by simp [h1], fun j h h' => ?_⟩
    cases j with
    | zero => exact ⟨rfl, aev_rel hs e1⟩
    | succ j => exact h2 j (by simpa using h) (by simpa using h')

/-- cells put into place -/
theorem zipIdx_set (vs : List Value) : ∀ (cs : Array Value) (off k : Nat),
    (vs.zipIdx k).foldl (fun cs (x : Value × Nat) => cs.setIfInBounds (off + x.2) x.1) cs = setA cs (off + k) vs := by
  induction vs with
  | nil => intro cs off k; rfl
  | cons v vs ih =>
    intro cs off k
    rw [List.zipIdx_cons, List.foldl_cons, ih, setA]
    rfl

theorem boxRel_set {cells us : List AV} {cs : Array Value} {vs : List Value} {off : Nat} (h : BoxRel w S φ cells cs) (hl : us.length = vs.length) (hb : off + us.length ≤ cells.length)
    (hr : ∀ j (h : j < us.length) (h' : j < vs.length), Rel w S φ us[j] vs[j]) : BoxRel w S φ (setL cells off us) (setA cs off vs) := by
  have h0 := h.1
  refine ⟨by rw [setL_length, setA_size]; exact h.1, fun j h1 h2 => ?_⟩
  have q1 := setL_get us cells off j hb
  have q2 := setA_get vs cs off j (by omega)
  rw [List.getElem?_eq_getElem h1] at q1
  rw [Array.getElem?_eq_getElem h2] at q2
  rw [setL_length] at h1
  rw [setA_size] at h2
  by_cases hj : off ≤ j ∧ j < off + us.length
  · rw [if_pos hj, List.getElem?_eq_getElem (by omega)] at q1
    rw [if_pos (by omega), List.getElem?_eq_getElem (by omega)] at q2
    rw [Option.some.inj q1, Option.some.inj q2]
    exact hr _ _ _
  · rw [if_neg hj, List.getElem?_eq_getElem h1] at q1
    rw [if_neg (by omega), Array.getElem?_eq_getElem h2] at q2
    rw [Option.some.inj q1, Option.some.inj q2]
    exact h.2 j h1 h2

/-- a value's cells, of whatever the value is, if they are of the size -/
theorem cells_box {x : AV} {v : Value} (hx : x ≠ .bot) (r : Rel w S φ x v) : BoxRel w S φ x.cells v.cells := cells_rel' hx r

theorem afill_rel {pl pl' : Nat → Option (Nat × Nat)} (hp : ∀ i off sz, pl i = some (off, sz) → pl' i = some (off, sz)) : ∀ {ps : List (Nat × AV)} {qs : List (Nat × Value)} {cells out : List AV} {cs : Array Value},
    afill pl cells ps = some out → BoxRel w S φ cells cs → ps.length = qs.length →
    (∀ j (h : j < ps.length) (h' : j < qs.length), ps[j].1 = qs[j].1 ∧ ps[j].2 ≠ .bot ∧ Rel w S φ ps[j].2 qs[j].2) →
    ∃ cs', Instr.fill pl' cs qs = some cs' ∧ BoxRel w S φ out cs'
  | [], qs, cells, out, cs, e, hb, hl, _ => by
    match qs, hl with
    | [], _ =>
      simp only [afill, Option.some.injEq] at e
      subst e
      exact ⟨cs, rfl, hb⟩
  | (i, x) :: ps, qs, cells, out, cs, e, hb, hl, hr => by
    match qs, hl with
    | (i', v) :: qs, hl =>
      obtain ⟨rfl, hx, r⟩ := hr 0 (by simp) (by simp)
      simp only [List.getElem_cons_zero] at hx r
      rw [afill] at e
      split at e
      · cases e
      · rename_i off sz hpl
        split at e
        · rename_i hh
          have hc := cells_box hx r
          have hc0 := hc.1
          have hb0 := hb.1
          have hset := boxRel_set (us := x.cells) (vs := v.cells.toList) (off := off) hb (by simpa using hc.1) (by omega) (fun j h h' => by simpa using hc.2 j h (by simpa using h'))
          obtain ⟨cs', e1, e2⟩ := afill_rel hp e hset (by simpa using hl) (fun j h h' => hr (j + 1) (by simpa using h) (by simpa using h'))
          refine ⟨cs', ?_, e2⟩
          rw [Instr.fill]
          simp only [List.getElem_cons_zero]
          rw [hp _ _ _ hpl]
          simp only []
          rw [if_neg]
          · have := zipIdx_set v.cells.toList cs off 0
            rw [Nat.add_zero] at this
            have e3 : (v.cells.zipIdx.foldl (fun cs (x : Value × Nat) => cs.setIfInBounds (off + x.2) x.1) cs) = setA cs off v.cells.toList := by
              rw [← this, ← Array.foldl_toList, Array.toList_zipIdx]
            rw [← e3] at e1
            exact e1
          · simp only [ne_eq, Bool.or_eq_true, decide_eq_true_eq, not_or, Decidable.not_not]
            omega
        · cases e

theorem tZero_box {e : TypeId} {z : List AV} (hz : tZero P e = some z) : ∃ zv, (zeroValue e).run P w = .ok zv w ∧ BoxRel w S φ z zv.cells := by
  unfold tZero at hz
  cases hi : P.info? e with
  | none => rw [hi] at hz; cases hz
  | some i =>
    have hz' := hz
    obtain ⟨zv, h1, h2, h3⟩ := tZero_ok hi (by unfold tZero; exact hz')
    refine ⟨zv, by simp [zeroValue, typeInfo, hi, h1, Result.andThen], h2, fun j h h' => ?_⟩
    rw [h3 j h h']
    exact ofV1_rel _ _ _ _

theorem known {vs : List (Nat × AV)} (h : vs.all (fun p => !p.2.isBot) = true) : ∀ p, p ∈ vs → p.2 ≠ .bot := fun p hp hb => by
  have := List.all_eq_true.1 h p hp
  rw [hb] at this; cases this

theorem parts_rel {ρ : Operand → Value} (hs : Slots w S φ s.t ρ) {ps : Array (Nat × Operand)} {vs : List (Nat × AV)} (e1 : (aevL ps.toList).run s = some vs) (hk : vs.all (fun p => !p.2.isBot) = true) :
    vs.length = (ps.map fun x => (x.1, ρ x.2)).toList.length ∧ ∀ j (h : j < vs.length) (h' : j < (ps.map fun x => (x.1, ρ x.2)).toList.length),
      vs[j].1 = ((ps.map fun x => (x.1, ρ x.2)).toList[j]).1 ∧ vs[j].2 ≠ .bot ∧ Rel w S φ vs[j].2 ((ps.map fun x => (x.1, ρ x.2)).toList[j]).2 := by
  obtain ⟨l1, l2⟩ := aevL_rel hs e1
  refine ⟨by simpa using l1, fun j h h' => ?_⟩
  obtain ⟨q1, q2⟩ := l2 j h (by omega)
  simp only [Array.toList_map, List.getElem_map]
  exact ⟨q1, known hk _ (List.getElem_mem h), q2⟩

theorem run_places {fs : List Field} {l : List (Nat × Nat)} (h : fs.mapM (fun f => (tSize P f.type).map fun n => (f.offset, n)) = some l) :
    (fs.mapM (fun (f : Field) => do pure (f.offset, ← sizeOf f.type) : Field → Sem (Nat × Nat))).run P w = .ok l w := by
  induction fs generalizing l with
  | nil => simp at h; subst h; simp
  | cons f fs ih =>
    rw [List.mapM_cons] at h
    cases hf : tSize P f.type with
    | none => rw [hf] at h; simp at h
    | some m =>
      rw [hf] at h
      cases hm : fs.mapM (fun f => (tSize P f.type).map fun n => (f.offset, n)) with
      | none => rw [hm] at h; simp at h
      | some l' =>
        rw [hm] at h
        simp at h
        subst h
        rw [List.mapM_cons]
        simp only [Sem.run_bind, run_sizeOf hf, Result.andThen, Sem.run_pure, ih hm]

theorem build_good {ρ : Operand → Value} (hs : Slots w S φ s.t ρ) {t : TypeId} {ps : Array (Nat × Operand)} {vs : List (Nat × AV)} {v : AV} (H : HeapOK w S φ s.h n) (hn : n ≤ n')
    (e1 : (aevL ps.toList).run s = some vs) (hk : vs.all (fun p => !p.2.isBot) = true) (e : abuild P t vs = some v) :
    Good P w S φ s n' (Instr.build t (ps.map fun x => (x.1, ρ x.2))) v [] := by
  obtain ⟨hll, hrel⟩ := parts_rel hs e1 hk
  unfold abuild at e
  split at e
  · cases e
  · rename_i z hz
    obtain ⟨zv, z1, z2⟩ := tZero_box (P := P) (w := w) (S := S) (φ := φ) hz
    split at e
    · rename_i l hl
      cases hf : afill (fun i => l[i]?) z vs with
      | none => rw [hf] at e; cases e
      | some out =>
        rw [hf] at e
        simp only [Option.map_some, Option.some.injEq] at e
        subst e
        unfold tPlaces at hl
        split at hl
        · rename_i fs hu
          have hpl := run_places (w := w) hl
          obtain ⟨cs', f1, f2⟩ := afill_rel (pl' := fun i => l.toArray[i]?) (fun i off sz h => by simpa using h) hf z2 hll hrel
          refine .pure (x := .agg cs') H hn ?_ (.agg f2.1 f2.2)
          simp only [Instr.build, Sem.run_bind, z1, Result.andThen, run_underlying hu]
          rw [Array.mapM_eq_mapM_toList]
          simp only [Sem.run_map, hpl, Result.andThen]
          simp only [List.getElem?_toArray] at f1 ⊢
          rw [f1]
          rfl
        · cases hl
    · split at e
      · rename_i l m g ha
        obtain ⟨el, hu, hm, _⟩ := tArr_ok ha
        cases hf : afill (fun i => some (i * m, m)) z vs with
        | none => rw [hf] at e; cases e
        | some out =>
          rw [hf] at e
          simp only [Option.map_some, Option.some.injEq] at e
          subst e
          obtain ⟨cs', f1, f2⟩ := afill_rel (pl' := fun i => some (i * m, m)) (fun _ _ _ h => h) hf z2 hll hrel
          refine .pure (x := .agg cs') H hn ?_ (.agg f2.1 f2.2)
          simp only [Instr.build, Sem.run_bind, z1, Result.andThen, run_underlying hu, run_sizeOf hm, f1, Sem.run_pure]
      · cases e

end Go.Ab
namespace Go.Ab
open Go
variable [Glob]

variable {P : Program} {w : World} {S : Nat → Prop} {φ : Pm} {s : AS} {n n' : Nat}

theorem flat_get {α : Type} (z : List α) (m : Nat) (hz : z.length = m) : ∀ (n k : Nat), k < n * m → ((List.replicate n z).flatten)[k]? = z[k % m]?
  | 0, k, h => by simp at h
  | n + 1, k, h => by
    rw [List.replicate_succ, List.flatten_cons]
    by_cases hk : k < m
    · rw [List.getElem?_append_left (by omega), Nat.mod_eq_of_lt hk]
    · have h' : k < n * m + m := by have := h; rw [Nat.add_mul, Nat.one_mul] at this; exact this
      rw [List.getElem?_append_right (by omega), hz, flat_get z m hz n (k - m) (by omega)]
      congr 1
      exact (Nat.mod_eq_sub_mod (by omega)).symm

theorem flat_len {α : Type} (z : List α) (m : Nat) (hz : z.length = m) (n : Nat) : ((List.replicate n z).flatten).length = n * m := by
  rw [List.length_flatten]; simp [hz]

theorem chunks_len (m : Nat) : ∀ (n : Nat) (cs : List AV), (chunks m n cs).length = n
  | 0, _ => rfl
  | n + 1, cs => by simp [chunks, chunks_len m n]
theorem chunks_get (m : Nat) : ∀ (n : Nat) (cs : List AV) (i : Nat) (h : i < (chunks m n cs).length), (chunks m n cs)[i] = (cs.drop (i * m)).take m
  | 0, _, i, h => by simp [chunks] at h
  | n + 1, cs, i, h => by
    cases i with
    | zero => simp [chunks]
    | succ i =>
      simp only [chunks, List.getElem_cons_succ]
      rw [chunks_get m n (cs.drop m) i (by simpa [chunks] using h), List.drop_drop]
      congr 2
      rw [Nat.add_mul]; omega

/-- a new row's zero cells -/
theorem zeros_box {z : List AV} {zv : Value} {m k : Nat} (hz : BoxRel w S φ z zv.cells) (hm : z.length = m) :
    BoxRel w S φ ((List.replicate k z).flatten) ((Array.range (k * m)).map (zv.cells[· % zv.cells.size]!)) := by
  have hs : zv.cells.size = m := by rw [← hz.1]; exact hm
  refine ⟨by rw [flat_len z m hm]; simp, fun j h h' => ?_⟩
  rw [flat_len z m hm] at h
  have hmp : 0 < m := by
    rcases Nat.eq_zero_or_pos m with h0 | h0
    · subst h0; simp at h
    · exact h0
  have hj : j % m < m := Nat.mod_lt _ hmp
  have e1 := flat_get z m hm k j h
  rw [List.getElem?_eq_getElem (by rw [flat_len z m hm]; exact h), List.getElem?_eq_getElem (by omega)] at e1
  rw [Option.some.inj e1]
  simp only [Array.getElem_map, Array.getElem_range, hs]
  rw [getElem!_pos zv.cells (j % m) (by omega)]
  exact hz.2 _ _ _

theorem app_vf_dead {ws : List W} : ∀ {s : AS} {b : Nat}, (∀ u, u ∈ ws → VF s.h u) → s.h b = .dead → (s.app ws).h b = .dead := by
  induction ws with
  | nil => intro s b _ h; exact h
  | cons u ws ih =>
    intro s b hv hb
    obtain ⟨i, sz, g, xs, rfl, hi⟩ := hv u (by simp)
    refine ih (s := s.app1 (.h i (.frow sz g xs))) (fun u hu => VF.after hi (hv u (by simp [hu]))) ?_
    show upd s.h i _ b = _
    by_cases e : b = i
    · subst e; rcases hi with hi | hi <;> rw [hi] at hb <;> cases hb
    · rw [upd_ne _ _ e]; exact hb

theorem buildSlice_good {ρ : Operand → Value} (hs : Slots w S φ s.t ρ) {b : Nat} {t e : TypeId} {m len : Nat} {g : Bool} {ps : Array (Nat × Operand)} {vs : List (Nat × AV)} {z cs ys : List AV} {ws : List W}
    (H : HeapOK w S φ s.h n) (hb : Fr φ s.h b ∧ n ≤ n') (hn : b < n') (e1 : (aevL ps.toList).run s = some vs) (hk : vs.all (fun p => !p.2.isBot) = true) (hsl : tSl P t = some (e, m, g)) (hz : tZero P e = some z)
    (hm : z.length = m) (hbig : len * m ≤ 2 ^ 24) (hf : afill (fun i => some (i * m, m)) ((List.replicate len z).flatten) vs = some cs) (hfr : (frzL cs).run s = some (ys, ws)) :
    Good P w S φ s n' (Instr.buildSlice t len (ps.map fun x => (x.1, ρ x.2))) (.row b 0 0 len) (ws ++ [.h b (.row m 0 (chunks m len ys))]) := by
  obtain ⟨hll, hrel⟩ := parts_rel hs e1 hk
  obtain ⟨hu, hsz, _⟩ := tSl_ok hsl
  obtain ⟨zv, z1, z2⟩ := tZero_box (P := P) (w := w) (S := S) (φ := φ) hz
  have hzs : zv.cells.size = m := by rw [← z2.1]; exact hm
  obtain ⟨cs', f1, f2⟩ := afill_rel (pl' := fun i => some (i * m, m)) (fun _ _ _ h => h) hf (zeros_box z2 hm) hll hrel
  obtain ⟨v1, v2, v3⟩ := frzL_vf hfr
  obtain ⟨S1, H1, T1⟩ := freezeAll H v1
  obtain ⟨q1, q2⟩ := app_frz v1
  have hlen : cs.length = len * m := by
    have hlen' : ∀ {pl : Nat → Option (Nat × Nat)} {ps : List (Nat × AV)} {c o : List AV}, afill pl c ps = some o → o.length = c.length := by
      intro pl ps
      induction ps with
      | nil => intro c o h; simp only [afill, Option.some.injEq] at h; rw [h]
      | cons p ps ih =>
        intro c o h
        rw [afill] at h
        split at h
        · cases h
        · split at h
          · rw [ih h, setL_length]
          · cases h
    rw [hlen' hf, flat_len z m hm]
  obtain ⟨r1, r2⟩ := v3 H1 T1.sub q1 q2 (vs := cs'.toList) (by simpa using f2.1) (fun j h h' => by simpa using f2.2 j h (by simpa using h'))
  have hyl : ys.length = len * m := v2.trans hlen
  have hmul : ∀ i, i < len → i * m + m ≤ len * m := fun i hi => by
    have := Nat.mul_le_mul_right m hi
    rw [Nat.succ_mul] at this; exact this
  have hrow : RowRel w S1 m (chunks m len ys) cs' := by
    refine ⟨fun l hl => ?_, fun i j hi hj => ?_⟩
    · obtain ⟨i, hi, rfl⟩ := List.getElem_of_mem hl
      rw [chunks_get, List.length_take, List.length_drop]
      rw [chunks_len] at hi
      have := hmul i hi
      omega
    · have hi' := hi
      rw [chunks_len] at hi'
      have h0 := hmul i hi'
      have e3 := chunks_get m len ys i hi
      have hj' : j < m := by rw [e3, List.length_take] at hj; omega
      have hk1 : i * m + j < ys.length := by omega
      have hk2 : i * m + j < cs'.toList.length := by have := f2.1; simp; omega
      refine ⟨cs'.toList[i * m + j], by simp, r2 _ (List.getElem_mem _), ?_⟩
      have e4 : (chunks m len ys)[i][j] = ys[i * m + j] := by
        simp only [e3, List.getElem_take, List.getElem_drop]
      rw [e4]
      exact r1 _ hk1 hk2
  have hsz2 : cs'.size = len * m := by have := f2.1; omega
  obtain ⟨φ', k1, k2, k3⟩ := H1.newRow b ⟨⟨app_vf_dead v1 hb.1.1, hb.1.2⟩, hb.2⟩ hn m len (chunks m len ys) cs' e (0, 0) hsz2 (by rw [chunks_len]; exact Nat.le_refl _) hrow (fun off _ h => by omega)
    (w.alloc (.cells cs' e)) rfl rfl rfl rfl
  have happ : (s.app (ws ++ [.h b (.row m 0 (chunks m len ys))])).h = upd (s.app ws).h b (.row m 0 (chunks m len ys)) := by rw [app_append]; rfl
  refine ⟨fun u hu => ?_, .slice (some ⟨w.heap.size, 0, none⟩) len len, _, S1, φ', ?_, by rw [happ]; exact k1, by rw [happ]; exact T1.trans k2, ?_⟩
  · rcases List.mem_append.1 hu with h | h
    · exact VF_HW v1 u h
    · exact HW_one _ _ u h
  · have hz0 : (if len * m = 0 then pure #[] else do let z ← zeroValue e; pure z.cells : Sem (Array Value)).run P w = .ok (if len * m = 0 then #[] else zv.cells) w := by
      split
      · rfl
      · simp [z1, Result.andThen]
    simp only [Instr.buildSlice, Sem.run_bind, run_underlying hu, Result.andThen, run_sizeOf hsz, Sem.run_ite, if_neg (show ¬ len * m > 2 ^ 24 by omega)]
    have hz1 := hz0
    simp only [Sem.run_ite, Sem.run_pure, Sem.run_bind, z1, Result.andThen] at hz1
    by_cases h0 : len * m = 0
    · have e5 : (Array.range (len * m)).map (zv.cells[· % zv.cells.size]!) = (Array.range (len * m)).map ((#[] : Array Value)[· % (#[] : Array Value).size]!) := by rw [h0]; simp
      rw [if_pos h0]
      simp only [Sem.run_pure]
      rw [e5] at f1
      rw [f1]
      simp [newRow]
    · rw [if_neg h0]
      simp only [z1, Sem.run_pure]
      rw [f1]
      simp [newRow]
  · have := Rel.row (w := w.alloc (.cells cs' e)) (S := S1) (off := 0) (len := len) (o := 0) k3 (by omega) (.inl (by simp))
    simpa using this

theorem makeSlice_good {b : Nat} {t e : TypeId} {m by_ : Nat} {g : Bool} {z : List AV} {l c : Int} {k k' : IntKind} (H : HeapOK w S φ s.h n) (hb : Fr φ s.h b ∧ n ≤ n') (hn : b < n') (hsl : tSl P t = some (e, m, g))
    (hz : tZero P e = some z) (hby : tBytes P e = some by_) (hh : l = c ∧ 0 ≤ l ∧ l ≤ 2 ^ 47 ∧ l * by_ ≤ 2 ^ 47 ∧ z.length = m ∧ flatLB z = true) :
    Good P w S φ s n' (Instr.makeSlice t (.int k l) (.int k' c)) (.row b 0 0 l.toNat) [.h b (.row m 0 (List.replicate l.toNat z))] := by
  obtain ⟨rfl, h0, h1, h2, hm, hfl⟩ := hh
  obtain ⟨hu, hsz, _⟩ := tSl_ok hsl
  obtain ⟨i, hi, hib⟩ := tBytes_ok hby
  obtain ⟨zv, z1, z2⟩ := tZero_box (P := P) (w := w) (S := S) (φ := φ) hz
  have hzs : zv.cells.size = m := by rw [← z2.1]; exact hm
  have hcells := zeros_box (k := l.toNat) z2 hm
  generalize hcs : (Array.range (l.toNat * m)).map (zv.cells[· % zv.cells.size]!) = cs' at hcells
  have hcl : cs'.size = l.toNat * m := by rw [← hcs]; simp
  have hrow : RowRel w S m (List.replicate l.toNat z) cs' := by
    refine ⟨fun y hy => by rw [List.eq_of_mem_replicate hy]; exact hm, fun a j ha hj => ?_⟩
    have ha' : a < l.toNat := by simpa using ha
    have e1 : (List.replicate l.toNat z)[a] = z := by simp
    have hj' : j < m := by rw [← hm, ← e1]; exact hj
    have hlt := idx_lt ha' hj'
    have hr := hcells.2 (a * m + j) (by rw [flat_len z m hm]; exact hlt) (by omega)
    have e2 := flat_get z m hm l.toNat (a * m + j) hlt
    have e3 : (a * m + j) % m = j := by rw [Nat.add_comm, Nat.add_mul_mod_self_right, Nat.mod_eq_of_lt hj']
    rw [e3, List.getElem?_eq_getElem (by rw [flat_len z m hm]; exact hlt), List.getElem?_eq_getElem (by omega)] at e2
    rw [Option.some.inj e2] at hr
    have hflj : (z[j]'(by omega)).flat = true := List.all_eq_true.1 hfl _ (List.getElem_mem _)
    refine ⟨cs'[a * m + j]'(by omega), by simp [show a * m + j < cs'.size by omega], flat_one hflj hr, ?_⟩
    simp only [e1]
    exact flat_rel hflj hr
  obtain ⟨φ', k1, k2, k3⟩ := H.newRow b hb hn m l.toNat (List.replicate l.toNat z) cs' e (0, 0) hcl (by simp) hrow (fun off _ h => by omega)
    (w.alloc (.cells cs' e)) rfl rfl rfl rfl
  have hw : IntKind.i64.wrap l = l := by
    rw [IntKind.wrap_i64]; omega
  refine ⟨HW_one _ _, .slice (some ⟨w.heap.size, 0, none⟩) l.toNat l.toNat, _, S, φ', ?_, k1, k2, ?_⟩
  · have hnb : ¬ (l < 0 ∨ 2 ^ 48 < (by_ : Int) * l) := by
      rw [Int.mul_comm]; omega
    have hz0 : ¬ ((decide (l < 0) || decide ((i.bytes : Int) * l > 2 ^ 48)) || decide (l < 0) || decide (l > l)) = true := by
      rw [hib]
      simp only [Bool.or_eq_true, decide_eq_true_eq, gt_iff_lt, Int.lt_irrefl, or_false, not_or]
      rw [not_or] at hnb
      exact ⟨hnb, hnb.1⟩
    simp only [Instr.makeSlice, Sem.run_bind, run_underlying hu, Result.andThen, asInt, asIntOf, Sem.run_pure, typeInfo, run_program, hi, hw, run_sizeOf hsz, run_askRoom, Sem.run_ite]
    rw [if_neg hz0]
    simp only [z1]
    by_cases h00 : l.toNat * m = 0
    · rw [if_pos h00]
      have e5 : (Array.range (l.toNat * m)).map ((#[] : Array Value)[· % (#[] : Array Value).size]!) = cs' := by rw [← hcs, h00]; simp
      rw [e5]
      simp [newRow]
    · rw [if_neg h00, hcs]
      simp [newRow]
  · have := Rel.row (w := w.alloc (.cells cs' e)) (S := S) (off := 0) (len := l.toNat) (o := 0) k3 (by omega) (.inl (by simp))
    simpa using this

end Go.Ab
