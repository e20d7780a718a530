/- '==' of structs and arrays that hold whole numbers alone: as their cells are. -/
import Derived.Test.YtbnhmahkgeaajaaVsOps3
namespace Go.Proofs.Ytbnhmahkgeaajaa
namespace VS

def eqV : List Value → List Value → Option Bool
  | [], [] => some true
  | .int k a :: r, .int k' b :: s => if k = k' then (eqV r s).map fun t => (a == b) && t else none
  | _, _ => none

theorem eqV_append {x1 x2 y1 y2 : List Value} (h : x1.length = y1.length) : eqV (x1 ++ x2) (y1 ++ y2) = (eqV x1 y1).bind fun a => (eqV x2 y2).map fun b => a && b := by
  induction x1 generalizing y1 with
  | nil => cases y1 with
    | nil => simp [eqV]
    | cons => simp at h
  | cons x r ih => cases y1 with
    | nil => simp at h
    | cons y s =>
      have ih' := ih (y1 := s) (by simpa using h)
      simp only [List.cons_append]
      cases x <;> cases y <;> simp only [eqV, Option.bind_none]
      rename_i k a k' b
      split
      · rw [ih']
        cases eqV r s with
        | none => simp
        | some v => cases eqV x2 y2 <;> simp [Bool.and_assoc]
      · simp

theorem eqV_append_some {x1 x2 y1 y2 : List Value} {b : Bool} (h : x1.length = y1.length) (he : eqV (x1 ++ x2) (y1 ++ y2) = some b) : ∃ c d, eqV x1 y1 = some c ∧ eqV x2 y2 = some d ∧ b = (c && d) := by
  rw [eqV_append h] at he
  cases h1 : eqV x1 y1 with
  | none => rw [h1] at he; simp at he
  | some c =>
    cases h2 : eqV x2 y2 with
    | none => rw [h1, h2] at he; simp at he
    | some d => rw [h1, h2] at he; simp at he; exact ⟨c, d, rfl, rfl, he.symm⟩

section
variable {P : Program}

def valOf (P : Program) (t : TypeId) (cx : List Value) : Value :=
  match P.underlying t with
  | some (.struct _) | some (.array _ _) => .agg cx.toArray
  | _ => cx.headD undef

theorem sized_inv {t : TypeId} {n : Option Nat} {k : Nat} (h : sized P t n = some k) : n = some k ∧ ∃ i, P.info? t = some i ∧ i.size = k := by
  unfold sized at h
  split at h
  · rename_i m i hi
    split at h
    · rename_i he; cases h; exact ⟨rfl, i, hi, he⟩
    · cases h
  · cases h

theorem part_val {d n : Nat} {t : TypeId} (h : intsOnly P d t = some n) (xs : Array Value) (off : Nat) (hle : off + n ≤ xs.size) (w : World) :
    (part t xs off).run P w = .ok (valOf P t ((xs.toList.drop off).take n)) w := by
  cases d with
  | zero => simp [intsOnly] at h
  | succ d =>
    simp only [intsOnly] at h
    split at h
    · rename_i k hu
      obtain ⟨hn, i, hi, hs⟩ := sized_inv h
      cases hn
      have hlt : off < xs.size := by omega
      have hA : (isAgg t).run P w = .ok false w := by simp [isAgg, run_underlying hu]
      have e : valOf P t ((xs.toList.drop off).take 1) = xs[off] := by
        unfold valOf
        rw [hu]
        simp [List.take_one, List.head?_drop, hlt]
      simp [part, hA, hlt, e]
    · rename_i fs hu
      split at h
      · obtain ⟨_, i, hi, hs⟩ := sized_inv h
        have hA : (isAgg t).run P w = .ok true w := by simp [isAgg, run_underlying hu]
        have e : valOf P t ((xs.toList.drop off).take n) = .agg (xs.extract off (off + n)) := by
          unfold valOf; rw [hu]
          simp only [Value.agg.injEq]
          apply Array.ext'
          simp [List.take_drop]
        simp [part, hA, run_sizeOf' hi, hs, e]
      · cases h
    · rename_i m e hu
      obtain ⟨_, i, hi, hs⟩ := sized_inv h
      have hA : (isAgg t).run P w = .ok true w := by simp [isAgg, run_underlying hu]
      have e : valOf P t ((xs.toList.drop off).take n) = .agg (xs.extract off (off + n)) := by
        unfold valOf; rw [hu]
        simp only [Value.agg.injEq]
        apply Array.ext'
        simp [List.take_drop]
      simp [part, hA, run_sizeOf' hi, hs, e]
    · cases h

theorem eqArray (d : Nat) (len : Nat) (e t : TypeId) (n : Nat) (xs ys : Array Value) (w : World) (ht : P.underlying t = some (.array len e)) {i : TypeInfo} (hi : P.info? e = some i) (hn : i.size = n) (bs : Nat → Bool)
    (hb : ∀ j, j < len → ∃ u v, (part e xs (j * n)).run P w = .ok u w ∧ (part e ys (j * n)).run P w = .ok v w ∧ (Op.equalIn d e u v).run P w = .ok (bs j) w) :
    (Op.equalIn (d + 1) t (.agg xs) (.agg ys)).run P w = .ok ((List.range len).all bs) w := by
  simp only [Op.equalIn, Sem.run_bind, run_underlying ht, Result.andThen_ok, run_sizeOf' hi, hn]
  rw [Std.Legacy.Range.forIn_eq_forIn_range']
  simp only [Std.Legacy.Range.size, Nat.sub_zero, Nat.add_sub_cancel, Nat.div_one]
  rw [← List.range_eq_range']
  have key : ∀ (l : List Nat), (∀ j ∈ l, j < len) →
      ((forIn l ((none, ()) : Option Bool × Unit) fun i (_ : Option Bool × Unit) => do
        let a ← part e xs (i * n)
        let b ← part e ys (i * n)
        let r ← Op.equalIn d e a b
        if (!r) = true then pure (ForInStep.done ((some false, ()) : Option Bool × Unit)) else pure (ForInStep.yield (none, ())) : Sem (Option Bool × Unit))).run P w =
      .ok (if l.all bs then (none, ()) else (some false, ())) w := by
    intro l hl
    induction l with
    | nil => simp
    | cons j r ih =>
      obtain ⟨u, v, h1, h2, h3⟩ := hb j (hl j (by simp))
      simp only [List.forIn_cons, Sem.run_bind, h1, Result.andThen_ok, h2, h3, Sem.run_ite]
      cases hbj : bs j
      · simp [hbj]
      · simp only [Bool.not_true, Bool.false_eq_true, if_false, Sem.run_pure, Result.andThen_ok]
        rw [ih fun k hk => hl k (by simp [hk])]
        simp [hbj]
  have := key (List.range len) (fun j hj => List.mem_range.1 hj)
  rw [this]
  cases (List.range len).all bs <;> simp

theorem eqV_range (n : Nat) : ∀ (len : Nat) (cx cy : List Value) (b : Bool), cx.length = len * n → cy.length = len * n → eqV cx cy = some b →
    ∃ bs : Nat → Bool, (∀ j, j < len → eqV ((cx.drop (j * n)).take n) ((cy.drop (j * n)).take n) = some (bs j)) ∧ (List.range len).all bs = b
  | 0, cx, cy, b, h1, h2, he => by
    have e1 : cx = [] := List.eq_nil_of_length_eq_zero (by simpa using h1)
    have e2 : cy = [] := List.eq_nil_of_length_eq_zero (by simpa using h2)
    subst e1; subst e2
    simp only [eqV, Option.some.injEq] at he; subst he
    exact ⟨fun _ => true, fun j hj => by omega, rfl⟩
  | len + 1, cx, cy, b, h1, h2, he => by
    have hx : cx = cx.take (len * n) ++ cx.drop (len * n) := (List.take_append_drop _ _).symm
    have hy : cy = cy.take (len * n) ++ cy.drop (len * n) := (List.take_append_drop _ _).symm
    have hle : len * n ≤ (len + 1) * n := Nat.mul_le_mul_right _ (by omega)
    rw [Nat.succ_mul] at h1 h2
    rw [hx, hy] at he
    obtain ⟨c, d, e1, e2, rfl⟩ := eqV_append_some (by simp; omega) he
    obtain ⟨bs, hb1, hb2⟩ := eqV_range n len (cx.take (len * n)) (cy.take (len * n)) c (by simp; omega) (by simp; omega) e1
    refine ⟨fun j => if j = len then d else bs j, fun j hj => ?_, ?_⟩
    · by_cases hj' : j = len
      · subst hj'
        simp only [if_true]
        rw [List.take_of_length_le (by simp; omega), List.take_of_length_le (by simp; omega)]
        exact e2
      · simp only [if_neg hj']
        have hlt : j < len := by omega
        have := hb1 j hlt
        have hm : j * n + n ≤ len * n := by rw [← Nat.succ_mul]; exact Nat.mul_le_mul_right _ hlt
        rw [List.drop_take, List.drop_take, List.take_take, List.take_take, Nat.min_eq_left (by omega)] at this
        exact this
    · rw [List.range_succ, List.all_append]
      have : (List.range len).all (fun j => if j = len then d else bs j) = (List.range len).all bs := by
        rw [Bool.eq_iff_iff, List.all_eq_true, List.all_eq_true]
        constructor <;> intro h j hj <;> have h1 := h j hj <;> have h2 := List.mem_range.1 hj <;> have h3 : ¬ j = len := by omega
        · simpa [h3] using h1
        · simpa [h3] using h1
      simp [this, hb2]

theorem eq_ints : ∀ (d : Nat) (t : TypeId) (n : Nat) (cx cy : List Value) (b : Bool) (w : World), intsOnly P d t = some n → cx.length = n → cy.length = n → eqV cx cy = some b →
    ∀ D, d ≤ D → (Op.equalIn D t (valOf P t cx) (valOf P t cy)).run P w = .ok b w
  | 0, t, n, cx, cy, b, w, h, _, _, _, _, _ => by simp [intsOnly] at h
  | d + 1, t, n, cx, cy, b, w, h, h1, h2, he, D, hD => by
    obtain ⟨D, rfl⟩ : ∃ E, D = E + 1 := ⟨D - 1, by omega⟩
    simp only [intsOnly] at h
    split at h
    · rename_i k hu
      obtain ⟨hn, _⟩ := sized_inv h
      cases hn
      obtain ⟨x, rfl⟩ := List.length_eq_one_iff.1 h1
      obtain ⟨y, rfl⟩ := List.length_eq_one_iff.1 h2
      cases x <;> cases y <;> simp only [eqV] at he <;> try (cases he; done)
      rename_i k1 a k2 c
      split at he
      · rename_i hk; subst hk
        simp at he; subst he
        have e : ∀ v, valOf P t [v] = v := fun v => by unfold valOf; rw [hu]; rfl
        rw [e, e]
        exact run_equalIn_int w D t k1 k a c hu
      · cases he
    · rename_i fs hu
      split at h
      · rename_i hst
        obtain ⟨hn, _⟩ := sized_inv h
        have e : ∀ c : List Value, valOf P t c = .agg c.toArray := fun c => by unfold valOf; rw [hu]
        have hf : P.fieldsOf t = fs := by simp [Program.fieldsOf, hu]
        rw [e, e, run_equalIn_struct w D t _ _ (by rw [hf]; exact hu) hst, hf]
        have key : ∀ (l : List Field) (o m : Nat) (b : Bool), fieldsInts (intsOnly P d) l o = some m → m = n → eqV (cx.drop o) (cy.drop o) = some b → o ≤ n →
            (Op.eqFields D cx.toArray cy.toArray l).run P w = .ok b w := by
          intro l
          induction l with
          | nil =>
            intro o m b hm hmn hb ho
            simp only [fieldsInts, Option.some.injEq] at hm
            have e1 : cx.drop o = [] := List.drop_eq_nil_of_le (by omega)
            have e2 : cy.drop o = [] := List.drop_eq_nil_of_le (by omega)
            rw [e1, e2] at hb
            simp only [eqV, Option.some.injEq] at hb; subst hb
            rfl
          | cons f r ih =>
            intro o m b hm hmn hb ho
            simp only [fieldsInts] at hm
            split at hm
            · rename_i k hk
              split at hm
              · rename_i hc
                obtain ⟨hoff, hname⟩ := hc
                have hmono : ∀ (l : List Field) (o m : Nat), fieldsInts (intsOnly P d) l o = some m → o ≤ m := by
                  intro l
                  induction l with
                  | nil => intro o m h; simp only [fieldsInts, Option.some.injEq] at h; omega
                  | cons g s ih2 =>
                    intro o m h
                    simp only [fieldsInts] at h
                    split at h
                    · split at h
                      · have := ih2 _ _ h; omega
                      · cases h
                    · cases h
                have hle := hmono _ _ _ hm
                have hx : cx.drop o = (cx.drop o).take k ++ cx.drop (o + k) := by rw [← List.drop_drop]; exact (List.take_append_drop _ _).symm
                have hy : cy.drop o = (cy.drop o).take k ++ cy.drop (o + k) := by rw [← List.drop_drop]; exact (List.take_append_drop _ _).symm
                rw [hx, hy] at hb
                obtain ⟨c1, d1, e1, e2, rfl⟩ := eqV_append_some (by simp; omega) hb
                have p1 := part_val hk cx.toArray o (by simp; omega) w
                have p2 := part_val hk cy.toArray o (by simp; omega) w
                have p3 := eq_ints d f.type k _ _ c1 w hk (by simp; omega) (by simp; omega) e1 D (by omega)
                simp only [Op.eqFields, if_pos hname, hoff, Sem.run_bind, p1, Result.andThen_ok, p2, p3, Sem.run_ite]
                cases c1
                · simp
                · simp only [Bool.not_true, Bool.false_eq_true, if_false, Bool.true_and]
                  exact ih (o + k) m d1 hm hmn e2 (by omega)
              · cases hm
            · cases hm
        exact key fs.toList 0 n b hn rfl (by simpa using he) (Nat.zero_le _)
      · cases h
    · rename_i m e hu
      obtain ⟨hn, _⟩ := sized_inv h
      rw [Option.map_eq_some_iff] at hn
      obtain ⟨k, hk, rfl⟩ := hn
      have e' : ∀ c : List Value, valOf P t c = .agg c.toArray := fun c => by unfold valOf; rw [hu]
      rw [e', e']
      obtain ⟨bs, hb1, hb2⟩ := eqV_range k m cx cy b h1 h2 he
      have hik : ∃ i, P.info? e = some i ∧ i.size = k := by
        cases d with
        | zero => simp [intsOnly] at hk
        | succ d =>
          simp only [intsOnly] at hk
          split at hk
          · exact (sized_inv hk).2
          · split at hk
            · exact (sized_inv hk).2
            · cases hk
          · exact (sized_inv hk).2
          · cases hk
      obtain ⟨i, hi, his⟩ := hik
      rw [← hb2]
      refine eqArray D m e t k _ _ w hu hi his bs fun j hj => ?_
      have hm : j * k + k ≤ m * k := by rw [← Nat.succ_mul]; exact Nat.mul_le_mul_right _ hj
      exact ⟨_, _, part_val hk cx.toArray (j * k) (by simp; omega) w, part_val hk cy.toArray (j * k) (by simp; omega) w,
        eq_ints d e k _ _ (bs j) w hk (by simp; omega) (by simp; omega) (hb1 j hj) D (by omega)⟩
    · cases h

end

end VS
end Go.Proofs.Ytbnhmahkgeaajaa
