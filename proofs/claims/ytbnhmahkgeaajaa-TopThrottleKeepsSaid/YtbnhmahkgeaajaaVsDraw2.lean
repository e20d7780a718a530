/- The theorem on lists of operations whose order is left open. -/
import Derived.Test.YtbnhmahkgeaajaaVsDraw
namespace Go.Proofs.Ytbnhmahkgeaajaa
namespace VS

def Agree (fr fr' : Fr) (l : List Nat) : Prop := ∀ s ∈ l, look fr.s s = look fr'.s s

theorem Agree.left {fr fr' : Fr} {a b : List Nat} (h : Agree fr fr' (a ++ b)) : Agree fr fr' a := fun s hs => h s (List.mem_append_left _ hs)
theorem Agree.right {fr fr' : Fr} {a b : List Nat} (h : Agree fr fr' (a ++ b)) : Agree fr fr' b := fun s hs => h s (List.mem_append_right _ hs)

theorem evX_congr {fr fr' : Fr} {x : SX} (h : Agree fr fr' (xSlots x)) : evX fr x = evX fr' x := by
  cases x with
  | t i => exact h i (by simp [xSlots])
  | c a => rfl

theorem evXs_congr {fr fr' : Fr} : ∀ {l : List SX}, Agree fr fr' (l.flatMap xSlots) → evXs fr l = evXs fr' l
  | [], _ => rfl
  | x :: r, h => by
    rw [List.flatMap_cons] at h
    simp only [evXs, evX_congr h.left, evXs_congr h.right]

theorem fillP_congr {fr fr' : Fr} : ∀ {l : List (Nat × Nat × SX)} {cs : List AV}, Agree fr fr' (l.flatMap fun p => xSlots p.2.2) → fillP fr cs l = fillP fr' cs l
  | [], _, _ => rfl
  | (off, size, x) :: r, cs, h => by
    rw [List.flatMap_cons] at h
    simp only [fillP]
    rw [evX_congr h.left]
    cases evX fr' x with
    | none => rfl
    | some a => simp only; split <;> first | exact fillP_congr h.right | rfl

theorem bnd_congr {fr fr' : Fr} {o : Option SX} {d n : Nat} (h : Agree fr fr' (oSlots o)) : bnd fr d o n = bnd fr' d o n := by
  cases o with
  | none => rfl
  | some x => simp only [bnd, evX_congr (show Agree fr fr' (xSlots x) from h)]

theorem evOp_congr {C : CallF} {fr fr' : Fr} {st : St} {op : SOp} (h : Agree fr fr' (opSlots op)) : evOp C fr st op = evOp C fr' st op := by
  cases op <;> simp only [opSlots] at h <;> simp only [evOp]
  case mv x => rw [evX_congr h]
  case pick c a b => rw [evX_congr h.left.left, evX_congr h.left.right, evX_congr h.right]
  case box x => rw [evX_congr h]
  case build z ps => rw [fillP_congr h]
  case bslice z n ps => rw [fillP_congr h]
  case load k a => rw [evX_congr h]
  case store k a x => rw [evX_congr h.left, evX_congr h.right]
  case nilck x => rw [evX_congr h]
  case bin op q x y => rw [evX_congr h.left, evX_congr h.right]
  case un op x => rw [evX_congr h]
  case conv k x => rw [evX_congr h]
  case tostr x => rw [evX_congr h]
  case s2ap n x => rw [evX_congr h]
  case mkifc t x => rw [evX_congr h]
  case mkfn f l => rw [evXs_congr h]
  case mkslice z b x y => rw [evX_congr h.left, evX_congr h.right]
  case slice sz x lo hi =>
    rw [evX_congr h.left.left]
    cases evX fr' x with
    | none => rfl
    | some a =>
      have e1 := fun d n => bnd_congr (d := d) (n := n) h.left.right
      have e2 := fun d n => bnd_congr (d := d) (n := n) h.right
      simp only [opSlice, e1, e2]
  case arrslice n sz x lo hi =>
    have e1 := fun d n => bnd_congr (d := d) (n := n) h.left.right
    have e2 := fun d n => bnd_congr (d := d) (n := n) h.right
    simp only [evX_congr h.left.left, e1, e2]
  case faddr off x => rw [evX_congr h]
  case field off k x => rw [evX_congr h]
  case iaddr sz arr x i => rw [evX_congr h.left, evX_congr h.right]
  case index n sz k x i => rw [evX_congr h.left, evX_congr h.right]
  case extract x i => rw [evX_congr h]
  case call f l => rw [evX_congr h.left, evXs_congr h.right]
  case append sz b x y => rw [evX_congr h.left, evX_congr h.right]
  case len x => rw [evX_congr h]
  case minmax m x y => rw [evX_congr h.left, evX_congr h.right]
  case tassert t ok z x => rw [evX_congr h]
  case panic x => rw [evX_congr h]
  case defer f => rw [evX_congr h]

theorem wants_congr {fr fr' : Fr} {g : Option (Nat × Bool)} (h : Agree fr fr' (match g with | some (s, _) => [s] | none => [])) : wants fr g = wants fr' g := by
  cases g with
  | none => rfl
  | some p =>
    obtain ⟨s, w⟩ := p
    simp only [wants, h s (by simp)]

theorem mem_ins {k i : Nat} : ∀ {l : List Nat}, k ∈ ins i l → k = i ∨ k ∈ l
  | [], h => by simpa [ins] using h
  | j :: r, h => by
    simp only [ins] at h
    split at h
    · simpa using h
    · split at h
      · exact .inr h
      · rcases List.mem_cons.1 h with h | h
        · exact .inr (by simp [h])
        · exact (mem_ins h).imp id (fun h => List.mem_cons_of_mem _ h)

theorem mem_uni {k : Nat} : ∀ {a l : List Nat}, k ∈ uni a l → k ∈ a ∨ k ∈ l
  | [], _, h => .inr h
  | i :: r, l, h => by
    simp only [uni] at h
    rcases mem_uni h with h | h
    · exact .inl (List.mem_cons_of_mem _ h)
    · exact (mem_ins h).imp (fun h => by simp [h]) id

theorem mem_ancOf {acc : List (List Nat)} {k : Nat} : ∀ {es : List Edge}, k ∈ ancOf acc es → ∃ e ∈ es, Region.binds .any e = true ∧ (k = e.on ∨ k ∈ acc.getD e.on [])
  | [], h => by simp [ancOf] at h
  | e :: r, h => by
    simp only [ancOf] at h
    split at h
    · rename_i hb
      rcases mem_ins h with h | h
      · exact ⟨e, List.mem_cons_self .., hb, .inl h⟩
      · rcases mem_uni h with h | h
        · exact ⟨e, List.mem_cons_self .., hb, .inr h⟩
        · obtain ⟨x, h1, h2⟩ := mem_ancOf h
          exact ⟨x, List.mem_cons_of_mem _ h1, h2⟩
    · obtain ⟨x, h1, h2⟩ := mem_ancOf h
      exact ⟨x, List.mem_cons_of_mem _ h1, h2⟩

/-- What the edges say of who comes before whom. -/
theorem ancs_get (l : List Oper) : ∀ (acc : List (List Nat)), (l.foldl (fun acc o => acc ++ [ancOf acc o.after.toList]) acc).length = acc.length + l.length ∧
    ∀ j, j < acc.length → (l.foldl (fun acc o => acc ++ [ancOf acc o.after.toList]) acc)[j]? = acc[j]? := by
  induction l with
  | nil => intro acc; exact ⟨by simp, fun _ _ => rfl⟩
  | cons o r ih =>
    intro acc
    obtain ⟨h1, h2⟩ := ih (acc ++ [ancOf acc o.after.toList])
    refine ⟨by rw [List.foldl_cons, h1]; simp; omega, fun j hj => ?_⟩
    rw [List.foldl_cons, h2 j (by simp; omega), List.getElem?_append_left hj]

theorem ancs_mem {l : List Oper} {j k : Nat} {o : Oper} (ho : l[j]? = some o) (hlt : ∀ (i : Nat) (p : Oper), l[i]? = some p → ∀ e ∈ p.after, Region.binds .any e = true → e.on < i) (hk : k ∈ (ancs l).getD j []) :
    ∃ e ∈ o.after, Region.binds .any e = true ∧ (k = e.on ∨ k ∈ (ancs l).getD e.on []) := by
  have key : ∀ n, n ≤ l.length → (∀ (j : Nat) (o : Oper), j < n → l[j]? = some o → ∀ k ∈ (ancs (l.take n)).getD j [], ∃ e ∈ o.after, Region.binds .any e = true ∧ (k = e.on ∨ k ∈ (ancs (l.take n)).getD e.on [])) := by
    intro n
    induction n with
    | zero => intro _ j o hj; omega
    | succ n ih =>
      intro hn j o' hj hjo k hk
      have hln : l[n]? = some l[n] := by simp
      have htk : l.take (n + 1) = l.take n ++ [l[n]] := by rw [List.take_succ_eq_append_getElem (by omega)]
      generalize hp : l[n] = p at htk hln
      have ha1 : ancs (l.take n ++ [p]) = ancs (l.take n) ++ [ancOf (ancs (l.take n)) p.after.toList] := by simp [ancs, List.foldl_append]
      have hlen : (ancs (l.take n)).length = n := by have := (ancs_get (l.take n) []).1; simp [ancs] at this ⊢; omega
      rw [htk, ha1] at hk ⊢
      have lift : ∀ i, i < n → (ancs (l.take n) ++ [ancOf (ancs (l.take n)) p.after.toList]).getD i [] = (ancs (l.take n)).getD i [] := by
        intro i hi
        simp only [List.getD_eq_getElem?_getD]
        rw [List.getElem?_append_left (by omega)]
      rcases Nat.lt_or_ge j n with h | h
      · rw [lift j h] at hk
        obtain ⟨e, he, hb, hor⟩ := ih (by omega) j o' h hjo k hk
        have hej := hlt j o' hjo e he hb
        refine ⟨e, he, hb, hor.imp id fun hm => ?_⟩
        rw [lift e.on (by omega)]; exact hm
      · have hje : j = n := by omega
        subst hje
        rw [hln] at hjo
        obtain rfl : p = o' := by simpa using hjo
        simp only [List.getD_eq_getElem?_getD] at hk
        rw [List.getElem?_append_right (by omega), hlen] at hk
        simp only [Nat.sub_self, List.getElem?_cons_zero, Option.getD_some] at hk
        obtain ⟨e, he, hb, hor⟩ := mem_ancOf hk
        have hem : e ∈ p.after := by simpa using he
        have hej := hlt _ p hln e hem hb
        refine ⟨e, hem, hb, ?_⟩
        rw [lift e.on hej]
        exact hor
  have := key l.length (Nat.le_refl _) j o (List.getElem?_eq_some_iff.1 ho).1 ho k
  rw [List.take_length] at this
  exact this hk

theorem ancs_lt {l : List Oper} (hlt : ∀ (i : Nat) (p : Oper), l[i]? = some p → ∀ e ∈ p.after, Region.binds .any e = true → e.on < i) : ∀ (j : Nat), ∀ k ∈ (ancs l).getD j [], j < l.length → k < j := by
  intro j
  induction j using Nat.strongRecOn with
  | _ j ih =>
    intro k hk hj
    have ho : l[j]? = some l[j] := by simp [hj]
    obtain ⟨e, he, hb, hor⟩ := ancs_mem ho hlt hk
    have h1 := hlt j _ ho e he hb
    rcases hor with rfl | hm
    · exact h1
    · have := ih e.on h1 k hm (by omega); omega

theorem ancs_closed {l : List Oper} (hlt : ∀ (i : Nat) (p : Oper), l[i]? = some p → ∀ e ∈ p.after, Region.binds .any e = true → e.on < i) {D : Nat → Bool} (hD : ∀ (i : Nat) (p : Oper), l[i]? = some p → D i = true → ∀ e ∈ p.after, Region.binds .any e = true → D e.on = true) :
    ∀ (j : Nat), j < l.length → D j = true → ∀ k ∈ (ancs l).getD j [], D k = true := by
  intro j
  induction j using Nat.strongRecOn with
  | _ j ih =>
    intro hj hDj k hk
    have ho : l[j]? = some l[j] := by simp [hj]
    obtain ⟨e, he, hb, hor⟩ := ancs_mem ho hlt hk
    have h1 := hlt j _ ho e he hb
    have h2 := hD j _ ho hDj e he hb
    rcases hor with rfl | hm
    · exact h2
    · exact ih e.on h1 (by omega) h2 k hm

end VS
end Go.Proofs.Ytbnhmahkgeaajaa
