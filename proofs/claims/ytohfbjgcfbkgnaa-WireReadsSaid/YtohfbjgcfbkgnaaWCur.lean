/- The cursor: what a reader's call leaves as it was. -/
import Derived.Test.YtohfbjgcfbkgnaaWNumber
namespace Go.Proofs.Ytohfbjgcfbkgnaa
namespace VS

structure Cur (b : Nat) (st st' : St) : Prop where
  other : ∀ j, j ≠ b → j < st.H.length → st'.H[j]? = st.H[j]?
  len : st.H.length ≤ st'.H.length
  rows : Rows.Le st st'

theorem Cur.refl (b : Nat) (st : St) : Cur b st st := ⟨fun _ _ _ => rfl, Nat.le_refl _, Rows.Le.refl _⟩
theorem Cur.trans {b : Nat} {s t u : St} (h : Cur b s t) (k : Cur b t u) : Cur b s u :=
  ⟨fun j h1 h2 => (k.other j h1 (Nat.lt_of_lt_of_le h2 h.len)).trans (h.other j h1 h2), Nat.le_trans h.len k.len, h.rows.trans k.rows⟩
theorem Cur.alloc {b : Nat} {st : St} {m : List HB} : Cur b st { H := st.H ++ m, F := st.F } :=
  ⟨fun j _ h2 => by show (st.H ++ m)[j]? = _; rw [List.getElem?_append_left h2], by simp, fun _ _ h => h⟩
theorem Cur.set {b : Nat} {s st : St} {x : HB} (h : Cur b s st) : Cur b s { H := st.H.set b x, F := st.F } :=
  ⟨fun j h1 h2 => by show (st.H.set b x)[j]? = _; rw [List.getElem?_set_ne (Ne.symm h1)]; exact h.other j h1 h2, by simpa using h.len, h.rows⟩
theorem Cur.setNew {b j : Nat} {s st : St} {x : HB} (h : Cur b s st) (hj : s.H.length ≤ j) : Cur b s { H := st.H.set j x, F := st.F } :=
  ⟨fun i h1 h2 => by show (st.H.set j x)[i]? = _; rw [List.getElem?_set_ne (by omega)]; exact h.other i h1 h2, by simpa using h.len, h.rows⟩
theorem Cur.sameH {b : Nat} {s st st' : St} (h : Cur b s st) (hH : st'.H = st.H) (hr : Rows.Le s st') : Cur b s st' :=
  ⟨fun j h1 h2 => by rw [hH]; exact h.other j h1 h2, by rw [hH]; exact h.len, hr⟩

def At (b : Nat) (st : St) (l : List Int) : Prop := ∃ x, st.H[b]? = some { cells := [x], fz := false } ∧ IsB x l

theorem At.lt {b : Nat} {st : St} {l : List Int} (h : At b st l) : b < st.H.length := by
  obtain ⟨x, h, _⟩ := h
  exact (List.getElem?_eq_some_iff.1 h).1
theorem At.alloc {b : Nat} {st : St} {l : List Int} {m : List HB} {F : List (Nat × Nat)} (h : At b st l) : At b { H := st.H ++ m, F := F } l := by
  have hlt := h.lt
  obtain ⟨x, h, hx⟩ := h
  exact ⟨x, by show (st.H ++ m)[b]? = _; rw [List.getElem?_append_left hlt]; exact h, hx⟩
theorem At.setNe {b j : Nat} {st : St} {l : List Int} {x : HB} (h : At b st l) (hj : j ≠ b) : At b { H := st.H.set j x, F := st.F } l := by
  obtain ⟨y, h, hy⟩ := h
  exact ⟨y, by show (st.H.set j x)[b]? = _; rw [List.getElem?_set_ne hj]; exact h, hy⟩
theorem At.sameH {b : Nat} {st st' : St} {l : List Int} (h : At b st l) (hH : st'.H = st.H) : At b st' l := by
  obtain ⟨y, h, hy⟩ := h
  exact ⟨y, by rw [hH]; exact h, hy⟩

/-- A slice that was begun here. -/
inductive AppN (f0 : Nat) (st : St) (sz : Nat) : AV → List AV → Nat → Prop where
  | nil : AppN f0 st sz (.v (.slice none 0 0)) [] 0
  | own {cs : List AV} {n r e : Nat} : f0 ≤ r → cs.length = n * sz → st.F[r]? = some (e, sz) → AppN f0 st sz (.sl cs n (.own r e)) cs n

theorem AppN.app {f0 : Nat} {st : St} {sz : Nat} {x : AV} {cs : List AV} {n : Nat} (h : AppN f0 st sz x cs n) : App st sz x cs n := by
  cases h with
  | nil => exact .nil
  | own _ h1 h2 => exact .own h1 h2
theorem AppN.later {f0 : Nat} {st st' : St} {sz : Nat} {x : AV} {cs : List AV} {n : Nat} (h : AppN f0 st sz x cs n) (hr : Rows.Le st st') : AppN f0 st' sz x cs n := by
  cases h with
  | nil => exact .nil
  | own h0 h1 h2 => exact .own h0 h1 (hr _ _ h2)

theorem Rows.Le.length {s t : St} (h : Rows.Le s t) : s.F.length ≤ t.F.length := by
  rcases Nat.eq_zero_or_pos s.F.length with h0 | h0
  · omega
  · have : s.F[s.F.length - 1]? = some s.F[s.F.length - 1] := by simp
    have := (List.getElem?_eq_some_iff.1 (h _ _ this)).1
    omega

theorem appN_append {s st : St} {sz bytes : Nat} {x y : AV} {cs ds : List AV} {n m : Nat} (hs : Rows.Le s st) (hx : AppN s.F.length st sz x cs n) (hy : IsL sz y ds m) (hm0 : 0 < m) (hsz : 0 < sz) (hb : (n + m) * bytes ≤ most47) (hm : n + m ≤ 1099511627776) :
    ∃ z st', opAppend st sz bytes x y = some (z, st') ∧ AppN s.F.length st' sz z (cs ++ ds) (n + m) ∧ st'.H = st.H ∧ Rows.Le s st' := by
  have hmax : ∀ k, k ≤ n + m → k ≤ maxLen := fun k hk => by simp only [maxLen]; omega
  have hsrc : srcOf st y sz = some (ds, m) := by
    cases hy with
    | nil => rfl
    | sl ht hl => simp [srcOf, ht]
  have hlen := hy.cells
  have hb2 : m * bytes ≤ most47 := Nat.le_trans (Nat.mul_le_mul_right _ (by omega)) hb
  have h0 : ¬ m = 0 := by omega
  have hfl := hs.length
  unfold opAppend
  rw [hsrc]
  cases hx with
  | nil =>
    refine ⟨.sl ds m (.own st.F.length ds.length), { st with F := st.F ++ [(ds.length, sz)] }, by simp [hlen, hsz, h0, hb2, hmax m (by omega)], ?_, rfl, fun i p hp => ?_⟩
    · simp only [List.nil_append, Nat.zero_add]
      exact .own hfl hlen (by simp)
    · have := hs i p hp
      show (st.F ++ _)[i]? = _
      rw [List.getElem?_append_left (List.getElem?_eq_some_iff.1 this).1]; exact this
  | own hr h hF =>
    rename_i r e
    have hlt := (List.getElem?_eq_some_iff.1 hF).1
    refine ⟨.sl (cs ++ ds) (n + m) (.own r (e + ds.length)), { st with F := st.F.set r (e + ds.length, sz) }, by simp [hlen, hsz, h0, hb, hmax (n + m) (by omega), h, hF], .own hr (by simp [h, hlen, Nat.add_mul]) (by simp [hlt]), rfl, fun i p hp => ?_⟩
    have hi := (List.getElem?_eq_some_iff.1 hp).1
    show (st.F.set r _)[i]? = _
    rw [List.getElem?_set_ne (by omega)]; exact hs i p hp

/-- A reader: what it answers; what it leaves. -/
def Rd {α : Type} (f : FuncId) (R : List Int → Except Int (α × List Int)) (rep : St → α → AV → Prop) (bad : AV → Prop) : Prop :=
  ∀ (b : Nat) (st : St) (l : List Int), At b st l → Byt l → l.length ≤ 1099511627776 →
    (∀ a r, R l = .ok (a, r) → ∃ v st', callL T f [.ptr b 0] st = some (.ret (.tup [v, .v (.int .i64 0)]), st') ∧ At b st' r ∧ Byt r ∧ r.length ≤ l.length ∧ Cur b st st' ∧ rep st' a v) ∧
    (∀ e, R l = .error e → e ≠ 0 ∧ ∃ v st', callL T f [.ptr b 0] st = some (.ret (.tup [v, .v (.int .i64 e)]), st') ∧ Cur b st st' ∧ bad v)

theorem numS_ok : ∀ (k i : Nat) (n : Int) (l : List Int) (m : Int) (r : List Int), 0 ≤ n → Byt l → numS k i n l = .ok (m, r) → 0 ≤ m ∧ m ≤ 9007199254740991 ∧ ∃ p, l = p ++ r
  | 0, _, _, _, _, _, _, _, h => by simp [numS] at h
  | k + 1, i, n, [], m, r, _, _, h => by simp [numS] at h
  | k + 1, i, n, b :: t, m, r, h0, hb, h => by
    have hp : (0 : Int) ≤ b % 128 * 128 ^ i := Int.mul_nonneg (by omega) (by have : (0 : Int) < 128 ^ i := Int.pow_pos (by omega); omega)
    simp only [numS] at h
    generalize b % 128 * 128 ^ i = q at h hp
    split at h
    · obtain ⟨h1, h2, p, rfl⟩ := numS_ok k (i + 1) _ t m r (by omega) (fun x hx => hb x (by simp [hx])) h
      exact ⟨h1, h2, b :: p, rfl⟩
    · split at h
      · cases h
      · rename_i hn
        cases h
        exact ⟨by omega, by omega, [b], rfl⟩

theorem num_ok {l r : List Int} {n : Int} (hb : Byt l) (h : num l = .ok (n, r)) : 0 ≤ n ∧ n ≤ 9007199254740991 ∧ ∃ p, l = p ++ r := numS_ok 8 0 0 l n r (by omega) hb h

theorem numS_err : ∀ (k i : Nat) (n : Int) (l : List Int) (e : Int), numS k i n l = .error e → e = 3 ∨ e = 10
  | 0, _, _, _, _, h => by simp [numS] at h; omega
  | k + 1, i, n, [], _, h => by simp [numS] at h; omega
  | k + 1, i, n, b :: t, e, h => by
    simp only [numS] at h
    split at h
    · exact numS_err _ _ _ _ _ h
    · split at h
      · cases h; exact .inl rfl
      · cases h

theorem Byt.right {p r : List Int} (h : Byt (p ++ r)) : Byt r := fun b hb => h b (by simp [hb])

/-- (*cursor).number -/
theorem number : Rd 61 num (fun _ n v => v = .v (.int .i64 n)) (fun v => v = .v (.int .i64 0)) := by
  intro b st l hat hb hlen
  obtain ⟨x, hH, hx⟩ := id hat
  have h := numLoop61 hH hx hb hlen 8 0 0 rfl (by omega) (by omega) (by omega)
  rw [List.drop_zero] at h
  have hc : ∀ o, runL T (.loop [0, 4, 7] s61b0) { s := [(0, .ptr b 0), (4, .v (.int .i64 0)), (7, .v (.int .i64 (0 : Nat)))], d := [] } st = o → callL T 61 [.ptr b 0] st = endR [.tmp 2, .tmp 3] (thenR (blockR 0 o) (seqK T [] (.seq [2, 3] (.region [⟨(some 2), none, (.mv (.c (.v (.int .i64 0))))⟩, ⟨(some 3), none, (.mv (.c (.v (.int .i64 3))))⟩] false) .ret))) := by
    intro o ho
    rw [call_whole T61 (.inl rfl) rfl]
    have hu := loop_use ho
    simp [inner_eq, s61, -runL_seq', -runL_cond']
    simp only [runL_seq', runL_region]
    simp
    rw [hu _ (by simp)]
  refine ⟨fun n r hn => ?_, fun e he => ?_⟩
  · change numS 8 0 0 l = .ok (n, r) at hn
    rw [hn] at h
    obtain ⟨y, hy, ho⟩ := h
    obtain ⟨_, _, p, hp⟩ := num_ok hb hn
    have hlt := hat.lt
    refine ⟨_, { H := st.H.set b { cells := [y], fz := false }, F := st.F }, ?_, ⟨y, by simp [hlt], hy⟩, ?_, ?_, (Cur.refl b st).set, rfl⟩
    · rw [hc _ ho]
      simp
    · rw [hp] at hb; exact hb.right
    · rw [hp]; simp
  · change numS 8 0 0 l = .error e at he
    have h3 := numS_err _ _ _ _ _ he
    rw [he] at h
    refine ⟨by omega, _, st, ?_, Cur.refl b st, rfl⟩
    rcases h with ho | ⟨rfl, fr', ho, hfr⟩
    · rw [hc _ ho]
      simp
    · rw [hc _ ho]
      simp [hfr]

end VS
end Go.Proofs.Ytohfbjgcfbkgnaa
