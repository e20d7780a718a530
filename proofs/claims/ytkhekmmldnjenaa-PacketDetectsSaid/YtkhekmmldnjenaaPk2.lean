/- All fields are read. -/
import Derived.Test.YtkhekmmldnjenaaPk1
namespace Go.Proofs.Ytkhekmmldnjenaa
namespace VS

/-- What a field holds. -/
inductive Dt where
  | i (n : Int)
  | x (l : List (Int × Int))
  | b (l : List Int)
  | w (l : List Int)
/-- A field's kind. -/
inductive Fk where
  | i | x | b | w
def Fk.fn : Fk → FuncId
  | .i => 72 | .x => 74 | .b => 76 | .w => 81
def Fk.rd : Fk → List Int → Except Int (Dt × List Int)
  | .i, l => match num l with
    | .ok (n, r) => .ok (.i n, r)
    | .error e => .error e
  | .x, l => match lists pairR l with
    | .ok (n, r) => .ok (.x n, r)
    | .error e => .error e
  | .b, l => match textR l with
    | .ok (n, r) => .ok (.b n, r)
    | .error e => .error e
  | .w, l => match lists num l with
    | .ok (n, r) => .ok (.w n, r)
    | .error e => .error e
def Dt.Is : Dt → AV → Prop
  | .i n, v => fInt n v
  | .x l, v => fExts l v
  | .b l, v => fBytes l v
  | .w l, v => fInts l v

/-- All fields, one by one. -/
def readAll : List Fk → List Int → Except Int (List Dt × List Int)
  | [], l => .ok ([], l)
  | k :: r, l => match k.rd l with
    | .ok (d, m) => (match readAll r m with
      | .ok (ds, m2) => .ok (d :: ds, m2)
      | .error e => .error e)
    | .error e => .error e

theorem rdK (k : Fk) {st : St} {a b j i : Nat} {x fl : AV} {pc : List AV} {l : List Int} (ha : st.H[a]? = some { cells := [.ptr j 0], fz := false }) (hb : st.H[b]? = some { cells := [.ptr 0 i], fz := false }) (hj : st.H[j]? = some { cells := [x, fl], fz := false }) (h0 : st.H[0]? = some { cells := pc, fz := false })
    (hk : i < pc.length) (hj0 : j ≠ 0) (ha0 : a ≠ 0) (haj : a ≠ j) (hb0 : b ≠ 0) (hbj : b ≠ j) (hx : IsB x l) (hl : Byt l) (hlen : l.length ≤ 1000000) :
    (∀ n r, k.rd l = .ok (n, r) → ∃ v y, n.Is v ∧ IsB y r ∧ Byt r ∧ r.length ≤ l.length ∧ callL T k.fn [.ptr a 0, .ptr b 0] st = some (.ret (.tup []), { H := (st.H.set 0 { cells := pc.set i v, fz := false }).set j { cells := [y, fl], fz := false }, F := st.F })) ∧
    (∀ e, k.rd l = .error e → callL T k.fn [.ptr a 0, .ptr b 0] st = some (.pan (.ifc 102 (.v (.int .i64 e))), st)) := by
  cases k with
  | i =>
    obtain ⟨ok, er⟩ := rd72 ha hb hj h0 hk hj0 ha0 haj hb0 hbj hx hl hlen
    simp only [Fk.rd]
    cases h : num l with
    | ok p => obtain ⟨n, r⟩ := p; exact ⟨fun n' r' h' => (by cases h'; exact ok n r h), fun e h' => (by cases h')⟩
    | error e => exact ⟨fun n' r' h' => (by cases h'), fun e' h' => (by cases h'; exact er e h)⟩
  | x =>
    obtain ⟨ok, er⟩ := rd74 ha hb hj h0 hk hj0 ha0 haj hb0 hbj hx hl hlen
    simp only [Fk.rd]
    cases h : lists pairR l with
    | ok p => obtain ⟨n, r⟩ := p; exact ⟨fun n' r' h' => (by cases h'; exact ok n r h), fun e h' => (by cases h')⟩
    | error e => exact ⟨fun n' r' h' => (by cases h'), fun e' h' => (by cases h'; exact er e h)⟩
  | b =>
    obtain ⟨ok, er⟩ := rd76 ha hb hj h0 hk hj0 ha0 haj hb0 hbj hx hl hlen
    simp only [Fk.rd]
    cases h : textR l with
    | ok p => obtain ⟨n, r⟩ := p; exact ⟨fun n' r' h' => (by cases h'; exact ok n r h), fun e h' => (by cases h')⟩
    | error e => exact ⟨fun n' r' h' => (by cases h'), fun e' h' => (by cases h'; exact er e h)⟩
  | w =>
    obtain ⟨ok, er⟩ := rd81 ha hb hj h0 hk hj0 ha0 haj hb0 hbj hx hl hlen
    simp only [Fk.rd]
    cases h : lists num l with
    | ok p => obtain ⟨n, r⟩ := p; exact ⟨fun n' r' h' => (by cases h'; exact ok n r h), fun e h' => (by cases h')⟩
    | error e => exact ⟨fun n' r' h' => (by cases h'), fun e' h' => (by cases h'; exact er e h)⟩

/-- The memory while fields are read: the value, the error, the reader, what the closures hold. -/
def HD (pc : List AV) (x fl : AV) (cs : List HB) : List HB := { cells := pc, fz := false } :: { cells := [.v (.int .i64 0)], fz := false } :: { cells := [x, fl], fz := false } :: cs
def capsOf (k : Nat) : List HB := (List.range k).flatMap fun i => [{ cells := [.ptr 2 0], fz := false }, { cells := [.ptr 0 i], fz := false }]
def fnsOf (ks : List Fk) : List AV := ks.mapIdx fun i k => .fn k.fn [.ptr (3 + 2 * i) 0, .ptr (4 + 2 * i) 0]

theorem capsOf_succ (k : Nat) : capsOf (k + 1) = capsOf k ++ [{ cells := [.ptr 2 0], fz := false }, { cells := [.ptr 0 k], fz := false }] := by
  unfold capsOf
  rw [List.range_succ, List.flatMap_append]; rfl
theorem capsOf_len : ∀ k : Nat, (capsOf k).length = 2 * k
  | 0 => rfl
  | k + 1 => by rw [capsOf_succ, List.length_append, capsOf_len k]; simp; omega
theorem capsOf_get : ∀ {k i : Nat}, i < k → (capsOf k)[2 * i]? = some { cells := [.ptr 2 0], fz := false } ∧ (capsOf k)[2 * i + 1]? = some { cells := [.ptr 0 i], fz := false }
  | 0, i, h => by omega
  | k + 1, i, h => by
    have hl := capsOf_len k
    rw [capsOf_succ]
    by_cases hi : i < k
    · rw [List.getElem?_append_left (by omega), List.getElem?_append_left (by omega)]
      exact capsOf_get hi
    · have : i = k := by omega
      subst this
      rw [List.getElem?_append_right (by omega), List.getElem?_append_right (by omega), hl]
      simp

def frR (n : Nat) (fl : AV) (i : Nat) : Fr := { s := [(0, .ptr 2 0), (7, fl), (8, .v (.int .i64 n)), (9, .v (.int .i64 i))], d := [] }

theorem stepR {fs : List AV} {n i : Nat} {F : FuncId} {caps : List AV} {st : St} (hi : i < n) (hn : n ≤ 100) (hfs : fs[i]? = some (.fn F caps)) {r : AV} {st' : St} (hc : callL T F caps st = some (.ret r, st')) :
    runL T (.loop [0, 7, 8, 9] s51b0) (frR n (.sl fs n .ptrs) i) st = runL T (.loop [0, 7, 8, 9] s51b0) (frR n (.sl fs n .ptrs) (i + 1)) st' := by
  have h1 : (i : Int) < n := by omega
  have hw : IntKind.wrap .i64 ((i : Int) + 1) = ((i + 1 : Nat) : Int) := by rw [wrap_i64 (by omega) (by omega)]; omega
  unfold frR
  rw [runL_loop]
  generalize hL : SCode.loop [0, 7, 8, 9] s51b0 = L
  simp [s51b0, h1, opLoad_ep, hfs, hc, hw]
  subst hL
  refine loop_from ?_
  simp
theorem stepRp {fs : List AV} {n i : Nat} {F : FuncId} {caps : List AV} {st : St} (hi : i < n) (hfs : fs[i]? = some (.fn F caps)) {r : AV} {st' : St} (hc : callL T F caps st = some (.pan r, st')) :
    ∃ fr', runL T (.loop [0, 7, 8, 9] s51b0) (frR n (.sl fs n .ptrs) i) st = some (.pn r, fr', st') ∧ fr'.d = [] := by
  have h1 : (i : Int) < n := by omega
  unfold frR
  refine ⟨?s, ?a, ?b⟩
  case a =>
    rw [runL_loop]
    simp [s51b0, h1, opLoad_ep, hfs, hc]
    rfl
  case b => rfl
theorem stopR {fs : List AV} {n : Nat} {st : St} : ∃ fr', runL T (.loop [0, 7, 8, 9] s51b0) (frR n (.sl fs n .ptrs) n) st = some (.ex 0, fr', st) ∧ fr'.only [0] = { s := [(0, .ptr 2 0)], d := [] } := by
  unfold frR
  refine ⟨?s, ?a, ?b⟩
  case a =>
    rw [runL_loop]
    simp [s51b0]
    rfl
  case b => simp

/-- Values, one for each. -/
inductive DtL : List Dt → List AV → Prop where
  | nil : DtL [] []
  | cons {d : Dt} {ds : List Dt} {v : AV} {vs : List AV} : d.Is v → DtL ds vs → DtL (d :: ds) (v :: vs)

theorem readLoop (ks : List Fk) (hn : ks.length ≤ 100) (F : List (Nat × Nat)) : ∀ (m i : Nat) (dn rest : List AV) (x : AV) (l : List Int), i + m = ks.length → dn.length = i → rest.length = m → IsB x l → Byt l → l.length ≤ 1000000 →
    (∀ ds r, readAll (ks.drop i) l = .ok (ds, r) → ∃ vs y fr', DtL ds vs ∧ IsB y r ∧ Byt r ∧ r.length ≤ l.length ∧
      runL T (.loop [0, 7, 8, 9] s51b0) (frR ks.length (.sl (fnsOf ks) ks.length .ptrs) i) { H := HD (dn ++ rest) x (.sl (fnsOf ks) ks.length .ptrs) (capsOf ks.length), F := F } = some (.ex 0, fr', { H := HD (dn ++ vs) y (.sl (fnsOf ks) ks.length .ptrs) (capsOf ks.length), F := F }) ∧ fr'.only [0] = { s := [(0, .ptr 2 0)], d := [] }) ∧
    (∀ e, readAll (ks.drop i) l = .error e → ∃ pc y fr', pc.length = ks.length ∧ fr'.d = [] ∧
      runL T (.loop [0, 7, 8, 9] s51b0) (frR ks.length (.sl (fnsOf ks) ks.length .ptrs) i) { H := HD (dn ++ rest) x (.sl (fnsOf ks) ks.length .ptrs) (capsOf ks.length), F := F } = some (.pn (.ifc 102 (.v (.int .i64 e))), fr', { H := HD pc y (.sl (fnsOf ks) ks.length .ptrs) (capsOf ks.length), F := F }))
  | 0, i, dn, rest, x, l, hi, hdn, hrest, hx, hl, hlen => by
    have hd : ks.drop i = [] := List.drop_eq_nil_of_le (by omega)
    have hr0 : rest = [] := List.eq_nil_of_length_eq_zero hrest
    have hik : i = ks.length := by omega
    rw [hd]
    refine ⟨fun ds r h => ?_, fun e h => by simp [readAll] at h⟩
    simp only [readAll, Except.ok.injEq, Prod.mk.injEq] at h
    obtain ⟨rfl, rfl⟩ := h
    obtain ⟨fr', h1, h2⟩ := stopR (fs := fnsOf ks) (n := ks.length) (st := { H := HD (dn ++ rest) x (.sl (fnsOf ks) ks.length .ptrs) (capsOf ks.length), F := F })
    refine ⟨[], x, fr', .nil, hx, hl, Nat.le_refl _, ?_, h2⟩
    rw [hik, h1, hr0]
  | m + 1, i, dn, rest, x, l, hi, hdn, hrest, hx, hl, hlen => by
    have hlt : i < ks.length := by omega
    have hd : ks.drop i = ks[i] :: ks.drop (i + 1) := List.drop_eq_getElem_cons hlt
    obtain ⟨z, rest, rfl⟩ : ∃ z r, rest = z :: r := by
      cases rest with
      | nil => simp at hrest
      | cons z r => exact ⟨z, r, rfl⟩
    obtain ⟨c1, c2⟩ := capsOf_get hlt
    have hfs : (fnsOf ks)[i]? = some (.fn ks[i].fn [.ptr (3 + 2 * i) 0, .ptr (4 + 2 * i) 0]) := by
      simp [fnsOf, hlt]
    generalize hfl : AV.sl (fnsOf ks) ks.length .ptrs = fl at *
    have ha : ({ H := HD (dn ++ z :: rest) x fl (capsOf ks.length), F := F } : St).H[3 + 2 * i]? = some { cells := [.ptr 2 0], fz := false } := by
      show (HD _ _ _ _)[3 + 2 * i]? = _
      unfold HD
      rw [show 3 + 2 * i = 2 * i + 1 + 1 + 1 by omega]
      simpa using c1
    have hb : ({ H := HD (dn ++ z :: rest) x fl (capsOf ks.length), F := F } : St).H[4 + 2 * i]? = some { cells := [.ptr 0 i], fz := false } := by
      show (HD _ _ _ _)[4 + 2 * i]? = _
      unfold HD
      rw [show 4 + 2 * i = (2 * i + 1) + 1 + 1 + 1 by omega]
      simpa using c2
    obtain ⟨ok, er⟩ := rdK ks[i] ha hb (j := 2) (x := x) (fl := fl) (pc := dn ++ z :: rest) rfl rfl (by simp; omega) (by omega) (by omega) (by omega) (by omega) (by omega) hx hl hlen
    rw [hd]
    simp only [readAll]
    cases hk : ks[i].rd l with
    | error e =>
      refine ⟨fun ds r h => by simp at h, fun e' h => ?_⟩
      simp only [Except.error.injEq] at h
      subst h
      obtain ⟨fr', h1, h2⟩ := stepRp hlt hfs (er e hk)
      refine ⟨dn ++ z :: rest, x, fr', by simp at hrest ⊢; omega, h2, ?_⟩
      rw [← hfl]; rw [hfl]
      rw [← hfl] at h1
      rw [hfl] at h1
      exact h1
    | ok p =>
      obtain ⟨d, l2⟩ := p
      obtain ⟨v, y, hv, hy, hyb, hyl, hc⟩ := ok d l2 hk
      have hst : ({ H := (List.set (HD (dn ++ z :: rest) x fl (capsOf ks.length)) 0 { cells := (dn ++ z :: rest).set i v, fz := false }).set 2 { cells := [y, fl], fz := false }, F := F } : St) = { H := HD ((dn ++ [v]) ++ rest) y fl (capsOf ks.length), F := F } := by
        have : (dn ++ z :: rest).set i v = (dn ++ [v]) ++ rest := by
          rw [List.set_append_right _ _ (by omega), hdn, Nat.sub_self, List.set_cons_zero, List.append_assoc]; rfl
        rw [this]; rfl
      have hc' : callL T ks[i].fn [.ptr (3 + 2 * i) 0, .ptr (4 + 2 * i) 0] { H := HD (dn ++ z :: rest) x fl (capsOf ks.length), F := F } = some (.ret (.tup []), { H := HD ((dn ++ [v]) ++ rest) y fl (capsOf ks.length), F := F }) := by rw [hc]; rw [← hst]
      have step := stepR hlt hn hfs hc'
      rw [hfl] at step
      obtain ⟨ok2, er2⟩ := readLoop ks hn F m (i + 1) (dn ++ [v]) rest y l2 (by omega) (by simp [hdn]) (by simpa using hrest) hy hyb (by omega)
      rw [hfl] at ok2 er2
      rw [step]
      cases hr : readAll (ks.drop (i + 1)) l2 with
      | error e =>
        refine ⟨fun ds r h => (by simp [hr] at h), fun e' h => ?_⟩
        simp only [hr, Except.error.injEq] at h
        subst h
        exact er2 e hr
      | ok q =>
        obtain ⟨ds2, r2⟩ := q
        refine ⟨fun ds r h => ?_, fun e' h => (by simp [hr] at h)⟩
        simp only [hr, Except.ok.injEq, Prod.mk.injEq] at h
        obtain ⟨rfl, rfl⟩ := h
        obtain ⟨vs, y2, fr', k1, k2, k3, k4, k5, k6⟩ := ok2 ds2 r2 hr
        refine ⟨v :: vs, y2, fr', .cons hv k1, k2, k3, by omega, ?_, k6⟩
        rw [k5, List.append_assoc]; rfl

/-- All fields, behind which nothing may be left. -/
def readA (ks : List Fk) (l : List Int) : Except Int (List Dt) := match readAll ks l with
  | .ok (ds, r) => if r = [] then .ok ds else .error 3
  | .error e => .error e

/-- (*reader).read -/
theorem read51 (ks : List Fk) (hn : ks.length ≤ 100) (F : List (Nat × Nat)) {pc : List AV} {x : AV} {l : List Int} (hpc : pc.length = ks.length) (hx : IsB x l) (hl : Byt l) (hlen : l.length ≤ 1000000) :
    (∀ ds, readA ks l = .ok ds → ∃ vs y, DtL ds vs ∧ callL T 51 [.ptr 2 0] { H := HD pc x (.sl (fnsOf ks) ks.length .ptrs) (capsOf ks.length), F := F } = some (.ret (.tup []), { H := HD vs y (.sl (fnsOf ks) ks.length .ptrs) (capsOf ks.length), F := F })) ∧
    (∀ e, readA ks l = .error e → ∃ pc' y, pc'.length = ks.length ∧ callL T 51 [.ptr 2 0] { H := HD pc x (.sl (fnsOf ks) ks.length .ptrs) (capsOf ks.length), F := F } = some (.pan (.ifc 102 (.v (.int .i64 e))), { H := HD pc' y (.sl (fnsOf ks) ks.length .ptrs) (capsOf ks.length), F := F })) := by
  obtain ⟨ok, er⟩ := readLoop ks hn F ks.length 0 [] pc x l (by omega) rfl hpc hx hl hlen
  rw [List.drop_zero, List.nil_append] at ok er
  generalize hfl : AV.sl (fnsOf ks) ks.length .ptrs = fl at *
  have hld : opLoad { H := HD pc x fl (capsOf ks.length), F := F } none (.ptr 2 1) = some fl := rfl
  have hlen2 : ∀ st, lenK (some fl) st = some (.ret (.v (.int .i64 ks.length)), st) := fun st => by rw [← hfl]; simp
  rw [call_whole T51 (.inl rfl) rfl]
  unfold readA
  cases hr : readAll ks l with
  | error e =>
    refine ⟨fun ds h => by simp at h, fun e' h => ?_⟩
    simp only [Except.error.injEq] at h
    subst h
    obtain ⟨pc', y, fr', k1, k2, k3⟩ := er e hr
    refine ⟨pc', y, k1, ?_⟩
    have hu := loop_use k3
    obtain ⟨s', d'⟩ := fr'
    simp only at k2
    subst k2
    simp [inner_eq, s51, hld, hlen2]
    rw [hu _ (by simp [frR])]
    simp
  | ok p =>
    obtain ⟨ds, r⟩ := p
    obtain ⟨vs, y, fr', k1, k2, k3, k4, k5, k6⟩ := ok ds r hr
    have hu := loop_use k5
    have hld2 : opLoad { H := HD vs y fl (capsOf ks.length), F := F } none (.ptr 2 0) = some y := rfl
    have hly := k2.isL.len
    by_cases hr0 : r = []
    · simp only [if_pos hr0]
      refine ⟨fun ds' h => ?_, fun e h => by simp at h⟩
      simp only [Except.ok.injEq] at h
      subst h
      refine ⟨vs, y, k1, ?_⟩
      subst hr0
      rw [List.nil_append] at hu
      simp [inner_eq, s51, hld, hlen2]
      rw [hu _ (by simp [frR])]
      simp [k6, hld2, hly]
    · simp only [if_neg hr0]
      refine ⟨fun ds' h => by simp at h, fun e h => ?_⟩
      simp only [Except.error.injEq] at h
      subst h
      have hpos : (0 : Int) < r.length := by
        have := List.length_pos_iff.2 hr0
        omega
      have hd := demand52e (e := 3) (by omega) { H := HD vs y fl (capsOf ks.length), F := F }
      have hvl : vs.length = ks.length := by
        have : ∀ (ks : List Fk) (l : List Int) (ds : List Dt) (r : List Int), readAll ks l = .ok (ds, r) → ds.length = ks.length := by
          intro ks
          induction ks with
          | nil => intro l ds r h; simp only [readAll, Except.ok.injEq, Prod.mk.injEq] at h; rw [← h.1]; rfl
          | cons k t ih =>
            intro l ds r h
            simp only [readAll] at h
            split at h
            · split at h
              · rename_i hq
                cases h
                simp [ih _ _ _ hq]
              · cases h
            · cases h
        have e1 := this _ _ _ _ hr
        have : ∀ {ds : List Dt} {vs : List AV}, DtL ds vs → ds.length = vs.length := by
          intro ds vs h
          induction h with
          | nil => rfl
          | cons _ _ ih => simp [ih]
        rw [← this k1, e1]
      refine ⟨vs, y, hvl, ?_⟩
      rw [List.nil_append] at hu
      simp [inner_eq, s51, hld, hlen2]
      rw [hu _ (by simp [frR])]
      simp [k6, hld2, hly, List.length_pos_iff.2 hr0, hd]

end VS
end Go.Proofs.Ytkhekmmldnjenaa
/- Decode and DecodeMessage of the program. -/
namespace Go.Proofs.Ytkhekmmldnjenaa
namespace VS

def Dt.k : Dt → Fk
  | .i _ => .i | .x _ => .x | .b _ => .b | .w _ => .w
theorem rd_kind {k : Fk} {l r : List Int} {d : Dt} (h : k.rd l = .ok (d, r)) : d.k = k := by
  cases k <;> simp only [Fk.rd] at h <;> split at h <;> cases h <;> rfl
theorem readAll_kind : ∀ {ks : List Fk} {l r : List Int} {ds : List Dt}, readAll ks l = .ok (ds, r) → ds.map Dt.k = ks
  | [], _, _, _, h => by simp only [readAll, Except.ok.injEq, Prod.mk.injEq] at h; rw [← h.1]; rfl
  | k :: t, _, _, _, h => by
    simp only [readAll] at h
    split at h
    · rename_i d m hd
      split at h
      · rename_i hq
        cases h
        simp [readAll_kind hq, rd_kind hd]
      · cases h
    · cases h
theorem readA_kind {ks : List Fk} {l : List Int} {ds : List Dt} (h : readA ks l = .ok ds) : ds.map Dt.k = ks := by
  unfold readA at h
  split at h
  · rename_i hq
    split at h
    · cases h; exact readAll_kind hq
    · cases h
  · cases h

/-- No list is longer than the bytes it is read from may say. -/
def Dt.Small : Dt → Prop
  | .i _ => True
  | .x l => l.length ≤ 65536
  | .b l => l.length ≤ 65536
  | .w l => l.length ≤ 65536
theorem rd_small {k : Fk} {l r : List Int} {d : Dt} (hb : Byt l) (h : k.rd l = .ok (d, r)) : d.Small := by
  cases k <;> simp only [Fk.rd] at h <;> split at h <;> cases h <;> rename_i hd
  · trivial
  · exact (lists_once pairR_once hb hd).2
  · exact (textR_once hb hd).2
  · exact (lists_once (e := enc) (fun l r a h1 h2 => num_once h1 h2) hb hd).2
theorem rd_rest {k : Fk} {l r : List Int} {d : Dt} (hb : Byt l) (h : k.rd l = .ok (d, r)) : Byt r ∧ r.length ≤ l.length := by
  cases k <;> simp only [Fk.rd] at h <;> split at h <;> cases h <;> rename_i hd
  · have e := num_once hb hd
    rw [e] at hb ⊢; exact ⟨hb.right, by rw [List.length_append]; omega⟩
  · have e := (lists_once pairR_once hb hd).1
    rw [e] at hb ⊢; exact ⟨hb.right, by rw [List.length_append]; omega⟩
  · have e := (textR_once hb hd).1
    rw [e] at hb ⊢; exact ⟨hb.right, by rw [List.length_append]; omega⟩
  · have e := (lists_once (e := enc) (fun l r a h1 h2 => num_once h1 h2) hb hd).1
    rw [e] at hb ⊢; exact ⟨hb.right, by rw [List.length_append]; omega⟩
theorem readAll_small : ∀ {ks : List Fk} {l r : List Int} {ds : List Dt}, Byt l → readAll ks l = .ok (ds, r) → ∀ d ∈ ds, d.Small
  | [], _, _, _, _, h => by simp only [readAll, Except.ok.injEq, Prod.mk.injEq] at h; rw [← h.1]; simp
  | k :: t, _, _, _, hb, h => by
    simp only [readAll] at h
    split at h
    · rename_i d m hd
      split at h
      · rename_i hq
        cases h
        intro d' hd'
        rcases List.mem_cons.1 hd' with rfl | hd'
        · exact rd_small hb hd
        · exact readAll_small (rd_rest hb hd).1 hq d' hd'
      · cases h
    · cases h
theorem readA_small {ks : List Fk} {l : List Int} {ds : List Dt} (hb : Byt l) (h : readA ks l = .ok ds) : ∀ d ∈ ds, d.Small := by
  unfold readA at h
  split at h
  · rename_i hq
    split at h
    · cases h; exact readAll_small hb hq
    · cases h
  · cases h

def kp : List Fk := [.i, .i, .i, .i, .i, .x, .b]
def km : List Fk := [.i, .i, .i, .i, .i, .i, .w, .b]

/-- The fields of what is encoded, or the error. -/
def decR (ks : List Fk) (l : List Int) : Except Int (List Dt) := match openE l with
  | .ok b => readA ks b
  | .error e => .error e

def pkOf : List Dt → Pk
  | [.i a, .i b, .i c, .i d, .i e, .x xs, .b bs] => { kind := a, ses := b, seq := c, ack := d, cre := e, sel := .v (.slice none 0 0), pay := .v (.slice none 0 0), xs := xs, bs := bs }
  | _ => { kind := 0, ses := 0, seq := 0, ack := 0, cre := 0, sel := .v (.slice none 0 0), pay := .v (.slice none 0 0), xs := [], bs := [] }
def msOf : List Dt → Ms
  | [.i a, .i b, .i c, .i d, .i e, .i f, .w ns, .b bs] => { kind := a, frm := b, to := c, num := d, val := e, epo := f, lst := .v (.slice none 0 0), bod := .v (.slice none 0 0), ns := ns, bs := bs }
  | _ => { kind := 0, frm := 0, to := 0, num := 0, val := 0, epo := 0, lst := .v (.slice none 0 0), bod := .v (.slice none 0 0), ns := [], bs := [] }

/-- The same content. -/
structure Pk.Eq (p q : Pk) : Prop where
  kind : p.kind = q.kind
  ses : p.ses = q.ses
  seq : p.seq = q.seq
  ack : p.ack = q.ack
  cre : p.cre = q.cre
  xs : p.xs = q.xs
  bs : p.bs = q.bs
structure Ms.Eq (p q : Ms) : Prop where
  kind : p.kind = q.kind
  frm : p.frm = q.frm
  to : p.to = q.to
  num : p.num = q.num
  val : p.val = q.val
  epo : p.epo = q.epo
  ns : p.ns = q.ns
  bs : p.bs = q.bs
theorem chk_eq {p q : Pk} (h : p.Eq q) : chk p = chk q := by
  unfold chk
  rw [h.kind, h.ses, h.seq, h.ack, h.cre, h.xs, h.bs]
theorem chkM_eq {p q : Ms} (h : p.Eq q) : chkM p = chkM q := by
  unfold chkM
  rw [h.kind, h.frm, h.to, h.num, h.val, h.epo, h.ns]

/-- The packet and the error. -/
def decP (l : List Int) : Pk × Int := match decR kp l with
  | .ok ds => if chk (pkOf ds) = 0 then (pkOf ds, 0) else (pkOf [], chk (pkOf ds))
  | .error e => (pkOf [], e)
def decM (l : List Int) : Ms × Int := match decR km l with
  | .ok ds => if chkM (msOf ds) = 0 then (msOf ds, 0) else (msOf [], chkM (msOf ds))
  | .error e => (msOf [], e)

theorem shape_p {ds : List Dt} (h : ds.map Dt.k = kp) : ∃ a b c d e xs bs, ds = [.i a, .i b, .i c, .i d, .i e, .x xs, .b bs] := by
  unfold kp at h
  match ds, h with
  | [.i a, .i b, .i c, .i d, .i e, .x xs, .b bs], _ => exact ⟨a, b, c, d, e, xs, bs, rfl⟩
theorem shape_m {ds : List Dt} (h : ds.map Dt.k = km) : ∃ a b c d e f ns bs, ds = [.i a, .i b, .i c, .i d, .i e, .i f, .w ns, .b bs] := by
  unfold km at h
  match ds, h with
  | [.i a, .i b, .i c, .i d, .i e, .i f, .w ns, .b bs], _ => exact ⟨a, b, c, d, e, f, ns, bs, rfl⟩

theorem vals_p {a b c d e : Int} {xs : List (Int × Int)} {bs : List Int} {vs : List AV} (h : DtL [.i a, .i b, .i c, .i d, .i e, .x xs, .b bs] vs) : ∃ p : Pk, p.Fit ∧ vs = gp p ∧ p.Eq (pkOf [.i a, .i b, .i c, .i d, .i e, .x xs, .b bs]) := by
  cases h with | cons h0 h => cases h with | cons h1 h => cases h with | cons h2 h => cases h with | cons h3 h => cases h with | cons h4 h => cases h with | @cons _ _ v5 _ h5 h => cases h with | @cons _ _ v6 _ h6 h =>
  cases h
  cases h0; cases h1; cases h2; cases h3; cases h4
  exact ⟨{ kind := a, ses := b, seq := c, ack := d, cre := e, sel := v5, pay := v6, xs := xs, bs := bs }, ⟨h5, h6.1, h6.2⟩, rfl, ⟨rfl, rfl, rfl, rfl, rfl, rfl, rfl⟩⟩
theorem vals_m {a b c d e f : Int} {ns bs : List Int} {vs : List AV} (h : DtL [.i a, .i b, .i c, .i d, .i e, .i f, .w ns, .b bs] vs) : ∃ p : Ms, p.Fit ∧ vs = gm p ∧ p.Eq (msOf [.i a, .i b, .i c, .i d, .i e, .i f, .w ns, .b bs]) := by
  cases h with | cons h0 h => cases h with | cons h1 h => cases h with | cons h2 h => cases h with | cons h3 h => cases h with | cons h4 h => cases h with | cons h4' h => cases h with | @cons _ _ v5 _ h5 h => cases h with | @cons _ _ v6 _ h6 h =>
  cases h
  cases h0; cases h1; cases h2; cases h3; cases h4; cases h4'
  exact ⟨{ kind := a, frm := b, to := c, num := d, val := e, epo := f, lst := v5, bod := v6, ns := ns, bs := bs }, ⟨h5, h6.1, h6.2⟩, rfl, ⟨rfl, rfl, rfl, rfl, rfl, rfl, rfl, rfl⟩⟩

theorem zp_fit : (pkOf []).Fit := ⟨.nil, .nil, fun b hb => by simp [pkOf] at hb⟩
theorem zm_fit : (msOf []).Fit := ⟨.nil, .nil, fun b hb => by simp [msOf] at hb⟩

theorem catch45n (l : List (Nat × AV)) (st : St) {xs : List AV} (hx : takeRess l st.H [.cell 2 (some 7), .cell 3 none] = some xs) : catchK T l [.cell 2 (some 7), .cell 3 none] 45 [.ptr 0 0, .ptr 1 0] (.v .nilIface) st = some (pack xs, st) := by
  refine catchK_eq (sg := s45) (e := .nx) (fr2 := ?f) T45 rfl rfl rfl ?h (.inl rfl) ?d hx
  case h =>
    simp only [s45]
    simp
    rfl
  case d => rfl
theorem catch45e (l : List (Nat × AV)) {pc : List AV} (hpc : pc.length = 7) (e : Int) (z : AV) (R : List HB) (F : List (Nat × Nat)) {xs : List AV} (hx : takeRess l ({ cells := (gp (pkOf [])), fz := false } :: { cells := [.v (.int .i64 e)], fz := false } :: R) [.cell 2 (some 7), .cell 3 none] = some xs) :
    catchK T l [.cell 2 (some 7), .cell 3 none] 45 [.ptr 0 0, .ptr 1 0] (.ifc 102 (.v (.int .i64 e))) { H := { cells := pc, fz := false } :: { cells := [z], fz := false } :: R, F := F } = some (pack xs, { H := { cells := (gp (pkOf [])), fz := false } :: { cells := [.v (.int .i64 e)], fz := false } :: R, F := F }) := by
  refine catchK_eq (sg := s45) (e := .nx) (fr2 := ?f) T45 rfl rfl rfl ?h (.inl rfl) ?d hx
  case h =>
    have hd : List.drop 7 pc = [] := List.drop_eq_nil_of_le (by omega)
    simp only [s45]
    simp [caught46, opStore, hpc, hd, gp, pkOf]
    rfl
  case d => rfl

/-- packet.Decode -/
theorem dec22 {x : AV} {l : List Int} (hx : IsB x l) (hl : Byt l) (hlen : l.length ≤ 1000000) (st : St) : ∃ q : Pk, q.Fit ∧ q.Eq (decP l).1 ∧ callL T 22 [x] st = some (.ret (.tup [.agg (gp q), .v (.int .i64 (decP l).2)]), st) := by
  obtain ⟨x', hx1, hx2, _⟩ := hx.exps
  rw [call_guard T22 rfl rfl (show expA st [x] = some ([x'], st) by simp [expA, hx1]), innerG_eq]
  obtain ⟨ok, er⟩ := open47 hx2 hl hlen { H := [{ cells := (gp (pkOf [])), fz := false }, { cells := [.v (.int .i64 0)], fz := false }], F := [] }
  have zexp : ∀ s, expL s (gp (pkOf [])) = some ((gp (pkOf [])), s) := fun s => by simp [gp, pkOf, expL, exp0_v]
  have bad : ∀ (pc : List AV) (z : AV) (e : Int) (R : List HB) (F : List (Nat × Nat)) (s : List (Nat × AV)), pc.length = 7 → look s 2 = some (.ptr 0 0) → look s 3 = some (.ptr 1 0) →
      droppedG st (endG T [.cell 2 (some 7), .cell 3 none] (some (.pn (.ifc 102 (.v (.int .i64 e))), { s := s, d := [(45, [.ptr 0 0, .ptr 1 0])] }, { H := { cells := pc, fz := false } :: { cells := [z], fz := false } :: R, F := F }))) = some (.ret (.tup [.agg (gp (pkOf [])), .v (.int .i64 e)]), st) := by
    intro pc z e R F s hpc h2 h3
    have ht : takeRess s ({ cells := (gp (pkOf [])), fz := false } :: { cells := [.v (.int .i64 e)], fz := false } :: R) [.cell 2 (some 7), .cell 3 none] = some [.agg (gp (pkOf [])), .v (.int .i64 e)] := by
      simp [h2, h3, gp, pkOf]
    rw [endG_pn, catch45e s hpc e z R F ht]
    simp [droppedG, expR, expA, exp1, zexp, exp0_v]
  have hdr : decR kp l = match openE l with
    | .ok b => readA kp b
    | .error e => .error e := rfl
  cases ho : openE l with
  | error e =>
    obtain ⟨F', hc⟩ := er e ho
    have hd : decP l = (pkOf [], e) := by unfold decP; rw [hdr, ho]
    refine ⟨pkOf [], zp_fit, by rw [hd]; constructor <;> rfl, ?_⟩
    rw [hd]
    simp only [gp, pkOf] at hc
    simp only [s22]
    simp [St.mt, hc, -endG_pn]
    exact bad _ _ e [] F' _ rfl rfl rfl
  | ok b =>
    obtain ⟨y, F', hc, hyb, hbb, hbl⟩ := ok b ho
    obtain ⟨rok, rer⟩ := read51 kp (by simp [kp]) F' (pc := (gp (pkOf []))) (by simp [gp, kp]) hyb hbb (by omega)
    have hgo : droppedG st (endG T [.cell 2 (some 7), .cell 3 none] (runL T s22.body { s := initFr 0 [x'], d := [] } .mt)) = droppedG st (endG T [.cell 2 (some 7), .cell 3 none] (thenR (runL T (.region [⟨(some 47), none, (.mv (.t 4))⟩, ⟨(some 48), none, (.call (.c (.fn 51 [])) [(.t 47)])⟩] false) { s := [(2, .ptr 0 0), (3, .ptr 1 0), (4, .ptr 2 0)], d := [(45, [.ptr 0 0, .ptr 1 0])] } { H := HD (gp (pkOf [])) y (.sl (fnsOf kp) kp.length .ptrs) (capsOf kp.length), F := F' }) (seqK T [2, 3] (.seq [2, 3] (.region [⟨(some 49), none, (.load (some 7) (.t 2))⟩,
    ⟨(some 50), none, (.call (.c (.fn 13 [])) [(.t 49)])⟩,
    ⟨(some 51), none, (.call (.c (.fn 52 [])) [(.t 50)])⟩] false) (.seq [2, 3] (.region [⟨(some 52), none, (.load (some 7) (.t 2))⟩,
    ⟨none, none, (.store 7 (.t 2) (.t 52))⟩,
    ⟨none, none, (.store 1 (.t 3) (.c (.v (.int .i64 0))))⟩] false) .ret))))) := by
      simp only [gp, pkOf] at hc
      simp only [s22]
      simp [St.mt, hc, mk48, mk49, mk50, opStore, HD, fnsOf, capsOf, kp, Fk.fn, gp, pkOf, List.range_succ]
    have hgo' : droppedG st (endG T s22.res (runL T s22.body { s := initFr 0 [x'], d := [] } .mt)) = _ := hgo
    rw [hgo']
    clear hgo' hgo
    cases hr : readA kp b with
    | error e =>
      obtain ⟨pc', y', hpc', hcall⟩ := rer e hr
      have hd : decP l = (pkOf [], e) := by unfold decP; rw [hdr, ho]; simp only [hr]
      refine ⟨pkOf [], zp_fit, by rw [hd]; constructor <;> rfl, ?_⟩
      rw [hd]
      simp [hcall, -endG_pn]
      exact bad pc' _ e _ F' _ (by simpa [kp] using hpc') rfl rfl
    | ok ds =>
      have hsm := readA_small hbb hr
      obtain ⟨a, b0, c, d, e, xs, bs, rfl⟩ := shape_p (readA_kind hr)
      obtain ⟨vs, y', hvs, hcall⟩ := rok _ hr
      obtain ⟨p, hp, rfl, hpe⟩ := vals_p hvs
      have hxs : p.xs.length ≤ 1000000 := by
        have h1 := hsm (.x xs) (by simp)
        have h2 := hpe.xs
        simp only [pkOf] at h2
        rw [h2]
        have h3 : xs.length ≤ 65536 := h1
        omega
      have hck := check13 hp hxs { H := HD (gp p) y' (.sl (fnsOf kp) kp.length .ptrs) (capsOf kp.length), F := F' }
      have hlo : opLoad { H := HD (gp p) y' (.sl (fnsOf kp) kp.length .ptrs) (capsOf kp.length), F := F' } (some 7) (.ptr 0 0) = some (.agg (gp p)) := by simp [opLoad, HD, gp]
      have hs1 : opStore { H := HD (gp p) y' (.sl (fnsOf kp) kp.length .ptrs) (capsOf kp.length), F := F' } 7 (.ptr 0 0) (.agg (gp p)) = some { H := HD (gp p) y' (.sl (fnsOf kp) kp.length .ptrs) (capsOf kp.length), F := F' } := by simp [opStore, HD, gp]
      have hs2 : opStore { H := HD (gp p) y' (.sl (fnsOf kp) kp.length .ptrs) (capsOf kp.length), F := F' } 1 (.ptr 1 0) (.v (.int .i64 0)) = some { H := HD (gp p) y' (.sl (fnsOf kp) kp.length .ptrs) (capsOf kp.length), F := F' } := by simp [opStore, HD]
      have hce := chk_eq hpe
      by_cases hc0 : chk p = 0
      · have hd : decP l = (pkOf [.i a, .i b0, .i c, .i d, .i e, .x xs, .b bs], 0) := by
          unfold decP; rw [hdr, ho]; simp only [hr]; rw [← hce, if_pos hc0]
        obtain ⟨q, hq, e1, e2, e3, e4, e5, e6, e7, hexp, _⟩ := expL_gp hp st
        obtain ⟨q, hq, e1, e2, e3, e4, e5, e6, e7, hexp, _⟩ := expL_gp hp { H := HD (gp p) y' (.sl (fnsOf kp) kp.length .ptrs) (capsOf kp.length), F := F' }
        refine ⟨q, hq, ?_, ?_⟩
        · rw [hd]
          exact ⟨e1.trans hpe.kind, e2.trans hpe.ses, e3.trans hpe.seq, e4.trans hpe.ack, e5.trans hpe.cre, e6.trans hpe.xs, e7.trans hpe.bs⟩
        · have ht : takeRess [(2, .ptr 0 0), (3, .ptr 1 0)] (HD (gp p) y' (.sl (fnsOf kp) kp.length .ptrs) (capsOf kp.length)) [.cell 2 (some 7), .cell 3 none] = some [.agg (gp p), .v (.int .i64 0)] := by
            simp [HD, gp]
          rw [hd]
          rw [hc0] at hck
          simp [hcall, hlo, hck, demand52, hs1, hs2]
          rw [catch45n _ _ ht]
          simp [droppedG, expR, expA, exp1, hexp, exp0_v]
      · have hd : decP l = (pkOf [], chk p) := by
          unfold decP; rw [hdr, ho]; simp only [hr]; rw [← hce, if_neg hc0]
        refine ⟨pkOf [], zp_fit, by rw [hd]; constructor <;> rfl, ?_⟩
        rw [hd]
        have hdm := demand52e hc0 { H := HD (gp p) y' (.sl (fnsOf kp) kp.length .ptrs) (capsOf kp.length), F := F' }
        simp [hcall, hlo, hck, hdm, -endG_pn]
        exact bad (gp p) _ _ _ F' _ rfl rfl rfl

theorem catch57n (l : List (Nat × AV)) (st : St) {xs : List AV} (hx : takeRess l st.H [.cell 2 (some 8), .cell 3 none] = some xs) : catchK T l [.cell 2 (some 8), .cell 3 none] 57 [.ptr 0 0, .ptr 1 0] (.v .nilIface) st = some (pack xs, st) := by
  refine catchK_eq (sg := s57) (e := .nx) (fr2 := ?f) T57 rfl rfl rfl ?h (.inl rfl) ?d hx
  case h =>
    simp only [s57]
    simp
    rfl
  case d => rfl
theorem catch57e (l : List (Nat × AV)) {pc : List AV} (hpc : pc.length = 8) (e : Int) (z : AV) (R : List HB) (F : List (Nat × Nat)) {xs : List AV} (hx : takeRess l ({ cells := (gm (msOf [])), fz := false } :: { cells := [.v (.int .i64 e)], fz := false } :: R) [.cell 2 (some 8), .cell 3 none] = some xs) :
    catchK T l [.cell 2 (some 8), .cell 3 none] 57 [.ptr 0 0, .ptr 1 0] (.ifc 102 (.v (.int .i64 e))) { H := { cells := pc, fz := false } :: { cells := [z], fz := false } :: R, F := F } = some (pack xs, { H := { cells := (gm (msOf [])), fz := false } :: { cells := [.v (.int .i64 e)], fz := false } :: R, F := F }) := by
  refine catchK_eq (sg := s57) (e := .nx) (fr2 := ?f) T57 rfl rfl rfl ?h (.inl rfl) ?d hx
  case h =>
    have hd : List.drop 8 pc = [] := List.drop_eq_nil_of_le (by omega)
    simp only [s57]
    simp [caught46, opStore, hpc, hd, gm, msOf]
    rfl
  case d => rfl

/-- packet.DecodeMessage -/
theorem dec24 {x : AV} {l : List Int} (hx : IsB x l) (hl : Byt l) (hlen : l.length ≤ 1000000) (st : St) : ∃ q : Ms, q.Fit ∧ q.Eq (decM l).1 ∧ callL T 24 [x] st = some (.ret (.tup [.agg (gm q), .v (.int .i64 (decM l).2)]), st) := by
  obtain ⟨x', hx1, hx2, _⟩ := hx.exps
  rw [call_guard T24 rfl rfl (show expA st [x] = some ([x'], st) by simp [expA, hx1]), innerG_eq]
  obtain ⟨ok, er⟩ := open47 hx2 hl hlen { H := [{ cells := (gm (msOf [])), fz := false }, { cells := [.v (.int .i64 0)], fz := false }], F := [] }
  have zexp : ∀ s, expL s (gm (msOf [])) = some ((gm (msOf [])), s) := fun s => by simp [gm, msOf, expL, exp0_v]
  have bad : ∀ (pc : List AV) (z : AV) (e : Int) (R : List HB) (F : List (Nat × Nat)) (s : List (Nat × AV)), pc.length = 8 → look s 2 = some (.ptr 0 0) → look s 3 = some (.ptr 1 0) →
      droppedG st (endG T [.cell 2 (some 8), .cell 3 none] (some (.pn (.ifc 102 (.v (.int .i64 e))), { s := s, d := [(57, [.ptr 0 0, .ptr 1 0])] }, { H := { cells := pc, fz := false } :: { cells := [z], fz := false } :: R, F := F }))) = some (.ret (.tup [.agg (gm (msOf [])), .v (.int .i64 e)]), st) := by
    intro pc z e R F s hpc h2 h3
    have ht : takeRess s ({ cells := (gm (msOf [])), fz := false } :: { cells := [.v (.int .i64 e)], fz := false } :: R) [.cell 2 (some 8), .cell 3 none] = some [.agg (gm (msOf [])), .v (.int .i64 e)] := by
      simp [h2, h3, gm, msOf]
    rw [endG_pn, catch57e s hpc e z R F ht]
    simp [droppedG, expR, expA, exp1, zexp, exp0_v]
  have hdr : decR km l = match openE l with
    | .ok b => readA km b
    | .error e => .error e := rfl
  cases ho : openE l with
  | error e =>
    obtain ⟨F', hc⟩ := er e ho
    have hd : decM l = (msOf [], e) := by unfold decM; rw [hdr, ho]
    refine ⟨msOf [], zm_fit, by rw [hd]; constructor <;> rfl, ?_⟩
    rw [hd]
    simp only [gm, msOf] at hc
    simp only [s24]
    simp [St.mt, hc, -endG_pn]
    exact bad _ _ e [] F' _ rfl rfl rfl
  | ok b =>
    obtain ⟨y, F', hc, hyb, hbb, hbl⟩ := ok b ho
    obtain ⟨rok, rer⟩ := read51 km (by simp [km]) F' (pc := (gm (msOf []))) (by simp [gm, km]) hyb hbb (by omega)
    have hgo : droppedG st (endG T [.cell 2 (some 8), .cell 3 none] (runL T s24.body { s := initFr 0 [x'], d := [] } .mt)) = droppedG st (endG T [.cell 2 (some 8), .cell 3 none] (thenR (runL T (.region [⟨(some 52), none, (.mv (.t 4))⟩, ⟨(some 53), none, (.call (.c (.fn 51 [])) [(.t 52)])⟩] false) { s := [(2, .ptr 0 0), (3, .ptr 1 0), (4, .ptr 2 0)], d := [(57, [.ptr 0 0, .ptr 1 0])] } { H := HD (gm (msOf [])) y (.sl (fnsOf km) km.length .ptrs) (capsOf km.length), F := F' }) (seqK T [2, 3] (.seq [2, 3] (.region [⟨(some 54), none, (.load (some 8) (.t 2))⟩,
    ⟨(some 55), none, (.call (.c (.fn 59 [])) [(.t 54)])⟩,
    ⟨(some 56), none, (.call (.c (.fn 52 [])) [(.t 55)])⟩] false) (.seq [2, 3] (.region [⟨(some 57), none, (.load (some 8) (.t 2))⟩,
    ⟨none, none, (.store 8 (.t 2) (.t 57))⟩,
    ⟨none, none, (.store 1 (.t 3) (.c (.v (.int .i64 0))))⟩] false) .ret))))) := by
      simp only [gm, msOf] at hc
      simp only [s24]
      simp [St.mt, hc, mk48, mk58, mk50, opStore, HD, fnsOf, capsOf, km, Fk.fn, gm, msOf, List.range_succ]
    have hgo' : droppedG st (endG T s24.res (runL T s24.body { s := initFr 0 [x'], d := [] } .mt)) = _ := hgo
    rw [hgo']
    clear hgo' hgo
    cases hr : readA km b with
    | error e =>
      obtain ⟨pc', y', hpc', hcall⟩ := rer e hr
      have hd : decM l = (msOf [], e) := by unfold decM; rw [hdr, ho]; simp only [hr]
      refine ⟨msOf [], zm_fit, by rw [hd]; constructor <;> rfl, ?_⟩
      rw [hd]
      simp [hcall, -endG_pn]
      exact bad pc' _ e _ F' _ (by simpa [km] using hpc') rfl rfl
    | ok ds =>
      have hsm := readA_small hbb hr
      obtain ⟨a, b0, c, d, e, f, ns, bs, rfl⟩ := shape_m (readA_kind hr)
      obtain ⟨vs, y', hvs, hcall⟩ := rok _ hr
      obtain ⟨p, hp, rfl, hpe⟩ := vals_m hvs
      have hxs : p.ns.length ≤ 1000000 := by
        have h1 := hsm (.w ns) (by simp)
        have h2 := hpe.ns
        simp only [msOf] at h2
        rw [h2]
        have h3 : ns.length ≤ 65536 := h1
        omega
      have hck := check59 hp hxs { H := HD (gm p) y' (.sl (fnsOf km) km.length .ptrs) (capsOf km.length), F := F' }
      have hlo : opLoad { H := HD (gm p) y' (.sl (fnsOf km) km.length .ptrs) (capsOf km.length), F := F' } (some 8) (.ptr 0 0) = some (.agg (gm p)) := by simp [opLoad, HD, gm]
      have hs1 : opStore { H := HD (gm p) y' (.sl (fnsOf km) km.length .ptrs) (capsOf km.length), F := F' } 8 (.ptr 0 0) (.agg (gm p)) = some { H := HD (gm p) y' (.sl (fnsOf km) km.length .ptrs) (capsOf km.length), F := F' } := by simp [opStore, HD, gm]
      have hs2 : opStore { H := HD (gm p) y' (.sl (fnsOf km) km.length .ptrs) (capsOf km.length), F := F' } 1 (.ptr 1 0) (.v (.int .i64 0)) = some { H := HD (gm p) y' (.sl (fnsOf km) km.length .ptrs) (capsOf km.length), F := F' } := by simp [opStore, HD]
      have hce := chkM_eq hpe
      by_cases hc0 : chkM p = 0
      · have hd : decM l = (msOf [.i a, .i b0, .i c, .i d, .i e, .i f, .w ns, .b bs], 0) := by
          unfold decM; rw [hdr, ho]; simp only [hr]; rw [← hce, if_pos hc0]
        obtain ⟨q, hq, e1, e2, e3, e4, e5, e6, e7, e8, hexp, _⟩ := expL_gm hp st
        obtain ⟨q, hq, e1, e2, e3, e4, e5, e6, e7, e8, hexp, _⟩ := expL_gm hp { H := HD (gm p) y' (.sl (fnsOf km) km.length .ptrs) (capsOf km.length), F := F' }
        refine ⟨q, hq, ?_, ?_⟩
        · rw [hd]
          exact ⟨e1.trans hpe.kind, e2.trans hpe.frm, e3.trans hpe.to, e4.trans hpe.num, e5.trans hpe.val, e6.trans hpe.epo, e7.trans hpe.ns, e8.trans hpe.bs⟩
        · have ht : takeRess [(2, .ptr 0 0), (3, .ptr 1 0)] (HD (gm p) y' (.sl (fnsOf km) km.length .ptrs) (capsOf km.length)) [.cell 2 (some 8), .cell 3 none] = some [.agg (gm p), .v (.int .i64 0)] := by
            simp [HD, gm]
          rw [hd]
          rw [hc0] at hck
          simp [hcall, hlo, hck, demand52, hs1, hs2]
          rw [catch57n _ _ ht]
          simp [droppedG, expR, expA, exp1, hexp, exp0_v]
      · have hd : decM l = (msOf [], chkM p) := by
          unfold decM; rw [hdr, ho]; simp only [hr]; rw [← hce, if_neg hc0]
        refine ⟨msOf [], zm_fit, by rw [hd]; constructor <;> rfl, ?_⟩
        rw [hd]
        have hdm := demand52e hc0 { H := HD (gm p) y' (.sl (fnsOf km) km.length .ptrs) (capsOf km.length), F := F' }
        simp [hcall, hlo, hck, hdm, -endG_pn]
        exact bad (gm p) _ _ _ F' _ rfl rfl rfl

end VS
end Go.Proofs.Ytkhekmmldnjenaa
/- The reference's reader of some numbers. -/
namespace Go.Proofs.Ytkhekmmldnjenaa
namespace VS

theorem numsLoop (n : Nat) (hn : n ≤ 1000) : ∀ (k i : Nat) (x out : AV) (l ms : List Int) (st : St), i + k = n → ms.length = i → IsB x l → Byt l → l.length ≤ 1000000 → App st 1 out (ints ms) ms.length →
    (∀ ns r, lst num k l = .ok (ns, r) → ∃ y out' fr' st', runL T (.loop [0, 1, 7, 8] s54b0) { s := [(0, x), (1, .v (.int .i64 n)), (7, out), (8, .v (.int .i64 i))], d := [] } st = some (.ex 0, fr', st') ∧ fr'.only [0, 7] = { s := [(0, y), (7, out')], d := [] } ∧ IsB y r ∧ Byt r ∧ r.length ≤ l.length ∧ App st' 1 out' (ints (ms ++ ns)) (ms ++ ns).length) ∧
    (∀ e, lst num k l = .error e → e ≠ 0 ∧ ∃ st', runL T (.loop [0, 1, 7, 8] s54b0) { s := [(0, x), (1, .v (.int .i64 n)), (7, out), (8, .v (.int .i64 i))], d := [] } st = some (.rt, { s := [(4, .v (.slice none 0 0)), (5, .v (.slice none 0 0)), (6, .v (.int .i64 e))], d := [] }, st'))
  | 0, i, x, out, l, ms, st, hi, hm, hx, hl, hlen, ho => by
    refine ⟨fun ns r h => ?_, fun e h => by simp [lst] at h⟩
    simp only [lst, Except.ok.injEq, Prod.mk.injEq] at h
    obtain ⟨rfl, rfl⟩ := h
    refine ⟨x, out, ?s, st, ?a, ?b, hx, hl, Nat.le_refl _, by simpa using ho⟩
    case a =>
      rw [runL_loop]
      have : ¬ (i : Int) < n := by omega
      simp [s54b0, this]
      rfl
    case b => simp
  | k + 1, i, x, out, l, ms, st, hi, hm, hx, hl, hlen, ho => by
    have h1 : (i : Int) < n := by omega
    have hw : IntKind.wrap .i64 ((i : Int) + 1) = ((i + 1 : Nat) : Int) := by rw [wrap_i64 (by omega) (by omega)]; omega
    obtain ⟨ok, er⟩ := ref35 hx hl (by omega) st
    simp only [lst]
    cases hR : num l with
    | error e =>
      refine ⟨fun ns r h => by simp at h, fun e' h => ?_⟩
      simp only [Except.error.injEq] at h
      subst h
      obtain ⟨he, hc⟩ := er e hR
      refine ⟨he, st, ?_⟩
      rw [runL_loop]
      simp [s54b0, h1, hc, he]
    | ok p =>
      obtain ⟨m, r1⟩ := p
      obtain ⟨v, y, hc, hy, hyb, hyl, hv⟩ := ok m r1 hR
      cases hv
      obtain ⟨z, st1, happ, hA, hH⟩ := app_append (bytes := 8) ho (y := .sl [.v (.int .i64 m)] 1 .full) (ds := [.v (.int .i64 m)]) (m := 1) (.sl (by simp) (by simp)) (by omega) (by simp only [most47]; omega) (by omega)
      have hA' : App st1 1 z (ints (ms ++ [m])) (ms ++ [m]).length := by simpa [ints] using hA
      obtain ⟨ok2, er2⟩ := numsLoop n hn k (i + 1) y z r1 (ms ++ [m]) st1 (by omega) (by simp [hm]) hy hyb (by omega) hA'
      have step : runL T (.loop [0, 1, 7, 8] s54b0) { s := [(0, x), (1, .v (.int .i64 n)), (7, out), (8, .v (.int .i64 i))], d := [] } st = runL T (.loop [0, 1, 7, 8] s54b0) { s := [(0, y), (1, .v (.int .i64 n)), (7, z), (8, .v (.int .i64 (i + 1 : Nat)))], d := [] } st1 := by
        rw [runL_loop]
        generalize hL : SCode.loop [0, 1, 7, 8] s54b0 = L
        simp [s54b0, h1, hc, happ, hw]
        subst hL
        refine loop_from ?_
        simp
      rw [step]
      cases hr : lst num k r1 with
      | error e =>
        refine ⟨fun ns r h => (by simp [hr] at h), fun e' h => ?_⟩
        simp only [hr, Except.error.injEq] at h
        subst h
        exact er2 e hr
      | ok q =>
        obtain ⟨ns2, r2⟩ := q
        refine ⟨fun ns r h => ?_, fun e' h => (by simp [hr] at h)⟩
        simp only [hr, Except.ok.injEq, Prod.mk.injEq] at h
        obtain ⟨rfl, rfl⟩ := h
        obtain ⟨y2, o2, fr', st', k1, k2, k3, k4, k5, k6⟩ := ok2 ns2 r2 hr
        exact ⟨y2, o2, fr', st', k1, k2, k3, k4, by omega, by simpa using k6⟩

/-- ref.numbers -/
theorem numbers54 (n : Nat) (hn : n ≤ 1000) {x : AV} {l : List Int} (hx : IsB x l) (hl : Byt l) (hlen : l.length ≤ 1000000) (st : St) :
    (∀ ns r, lst num n l = .ok (ns, r) → ∃ v y, callL T 54 [x, .v (.int .i64 n)] st = some (.ret (.tup [v, y, .v (.int .i64 0)]), st) ∧ IsL 1 v (ints ns) ns.length ∧ IsB y r ∧ Byt r ∧ r.length ≤ l.length) ∧
    (∀ e, lst num n l = .error e → e ≠ 0 ∧ callL T 54 [x, .v (.int .i64 n)] st = some (.ret (.tup [.v (.slice none 0 0), .v (.slice none 0 0), .v (.int .i64 e)]), st)) := by
  obtain ⟨x', hx1, hx2, _⟩ := hx.exps
  rw [call_plain T54 rfl rfl (show expA st [x, .v (.int .i64 n)] = some ([x', .v (.int .i64 n)], st) by simp [expA, hx1])]
  obtain ⟨ok, er⟩ := numsLoop n hn n 0 x' (.v (.slice none 0 0)) l [] .mt (by omega) rfl hx2 hl hlen .nil
  refine ⟨fun ns r h => ?_, fun e h => ?_⟩
  · obtain ⟨y, out', fr', st', k1, k2, k3, k4, k5, k6⟩ := ok ns r h
    rw [List.nil_append] at k6
    have hu := loop_use k1
    obtain ⟨v, hv1, hv2, _⟩ := k6.isL.exps
    obtain ⟨w, hw1, hw2, _⟩ := k3.exps
    refine ⟨v, w, ?_, hv2, hw2, k4, k5⟩
    simp [inner_eq, s54]
    rw [hu _ (by simp)]
    simp [k2, dropped, expR, expA, hv1, hw1]
  · obtain ⟨he, st', k1⟩ := er e h
    have hu := loop_use k1
    refine ⟨he, ?_⟩
    simp [inner_eq, s54]
    rw [hu _ (by simp)]
    simp [dropped, expR, expA]

theorem readAll_ints (ks : List Fk) : ∀ (k : Nat) (l : List Int), readAll (List.replicate k .i ++ ks) l = match lst num k l with
    | .ok (ns, r) => (match readAll ks r with
      | .ok (ds, r2) => .ok (ns.map Dt.i ++ ds, r2)
      | .error e => .error e)
    | .error e => .error e
  | 0, l => by
    simp only [List.replicate_zero, List.nil_append, lst]
    cases readAll ks l with
    | ok p => obtain ⟨ds, r⟩ := p; rfl
    | error e => rfl
  | k + 1, l => by
    rw [List.replicate_succ, List.cons_append]
    simp only [readAll, Fk.rd, lst]
    cases num l with
    | error e => rfl
    | ok p =>
      obtain ⟨n, r⟩ := p
      simp only [readAll_ints ks k r]
      cases lst num k r with
      | error e => rfl
      | ok q =>
        obtain ⟨ns, r2⟩ := q
        simp only
        cases readAll ks r2 with
        | error e => rfl
        | ok w => obtain ⟨ds, r3⟩ := w; rfl

end VS
end Go.Proofs.Ytkhekmmldnjenaa
/- Decode and DecodeMessage of the reference. -/
namespace Go.Proofs.Ytkhekmmldnjenaa
namespace VS

theorem lst_len {α : Type} {R : List Int → Except Int (α × List Int)} : ∀ {k : Nat} {l r : List Int} {zs : List α}, lst R k l = .ok (zs, r) → zs.length = k
  | 0, _, _, _, h => by simp only [lst, Except.ok.injEq, Prod.mk.injEq] at h; rw [← h.1]; rfl
  | k + 1, _, _, _, h => by
    simp only [lst] at h
    split at h
    · split at h
      · rename_i hq
        cases h
        simp [lst_len hq]
      · cases h
    · cases h
theorem list5 {l : List Int} (h : l.length = 5) : ∃ a b c d e, l = [a, b, c, d, e] := by
  match l, h with
  | [a, b, c, d, e], _ => exact ⟨a, b, c, d, e, rfl⟩
theorem list6 {l : List Int} (h : l.length = 6) : ∃ a b c d e f, l = [a, b, c, d, e, f] := by
  match l, h with
  | [a, b, c, d, e, f], _ => exact ⟨a, b, c, d, e, f, rfl⟩
theorem ints_form {x : AV} {ns : List Int} (h : IsL 1 x (ints ns) ns.length) (hn : 0 < ns.length) : ∃ t, x = .sl (ints ns) ns.length t := by
  generalize hc : ints ns = cs at h
  generalize hk : ns.length = n at h hn
  cases h with
  | nil => omega
  | sl ht hl => exact ⟨_, rfl⟩

/-- ref.Decode -/
theorem dec23 {x : AV} {l : List Int} (hx : IsB x l) (hl : Byt l) (hlen : l.length ≤ 1000000) (st : St) : ∃ q : Pk, q.Fit ∧ q.Eq (decP l).1 ∧ callL T 23 [x] st = some (.ret (.tup [.agg (gp q), .v (.int .i64 (decP l).2)]), st) := by
  obtain ⟨x', hx1, hx2, _⟩ := hx.exps
  rw [call_plain T23 rfl rfl (show expA st [x] = some ([x'], st) by simp [expA, hx1])]
  generalize hs0 : ({ H := [{ cells := (gp (pkOf [])), fz := false }], F := [] } : St) = s0
  obtain ⟨ok, er⟩ := opened53 hx2 hl hlen s0
  have hdr : decR kp l = match openE l with
    | .ok b => readA kp b
    | .error e => .error e := rfl
  cases ho : openE l with
  | error e =>
      obtain ⟨he, hc⟩ := er e ho
      have hd : decP l = (pkOf [], e) := by unfold decP; rw [hdr, ho]
      rw [← hs0] at hc
      simp only [gp, pkOf] at hc
      refine ⟨pkOf [], zp_fit, by rw [hd]; constructor <;> rfl, ?_⟩
      rw [hd]
      simp [inner_eq, s23, St.mt, opStore, hc, he, dropped, expR, expA, exp1, exp0_v, gp, pkOf]
  | ok b =>
    obtain ⟨y, hc, hyb, hbb, hbl⟩ := ok b ho
    have hra := readAll_ints [.x, .b] 5 b
    have hkn : List.replicate 5 Fk.i ++ [.x, .b] = kp := rfl
    rw [hkn] at hra
    obtain ⟨ok1, er1⟩ := numbers54 5 (by omega) hyb hbb (by omega) s0
    cases h1 : lst num 5 b with
    | error e =>
      obtain ⟨he1, hc1⟩ := er1 e h1
      have hd : decP l = (pkOf [], e) := by unfold decP; rw [hdr, ho]; simp only [readA, hra, h1]
      rw [← hs0] at hc hc1
      simp only [gp, pkOf] at hc hc1
      have hcz := hc1
      simp only [Int.cast_ofNat_Int] at hcz
      refine ⟨pkOf [], zp_fit, by rw [hd]; constructor <;> rfl, ?_⟩
      rw [hd]
      simp [inner_eq, s23, St.mt, opStore, hc, hcz, he1, dropped, expR, expA, exp1, exp0_v, gp, pkOf]
    | ok p1 =>
    obtain ⟨ns0, r1⟩ := p1
    obtain ⟨v1, y1, hc1, hv1, hy1, hb1, hl1⟩ := ok1 ns0 r1 h1
    have hl5 := lst_len h1
    obtain ⟨a, b0, c, d, e, rfl⟩ := list5 hl5
    obtain ⟨t1, rfl⟩ := ints_form hv1 (by simp)
    obtain ⟨ok2, er2⟩ := ref41 hy1 hb1 (by omega) s0
    cases h2 : lists pairR r1 with
    | error e =>
      obtain ⟨he2, hc2⟩ := er2 e h2
      have hd : decP l = (pkOf [], e) := by unfold decP; rw [hdr, ho]; simp only [readA, hra, h1, readAll, Fk.rd, h2]
      rw [← hs0] at hc hc1 hc2
      simp only [gp, pkOf] at hc hc1 hc2
      have hcz := hc1
      simp only [Int.cast_ofNat_Int] at hcz
      refine ⟨pkOf [], zp_fit, by rw [hd]; constructor <;> rfl, ?_⟩
      rw [hd]
      simp [inner_eq, s23, St.mt, opStore, hc, hcz, hc2, he2, dropped, expR, expA, exp1, exp0_v, gp, pkOf]
    | ok p2 =>
    obtain ⟨xs, r2⟩ := p2
    obtain ⟨v2, y2, hc2, hy2, hb2, hl2, hv2⟩ := ok2 xs r2 h2
    obtain ⟨ok3, er3⟩ := ref36 hy2 hb2 (by omega) s0
    cases h3 : textR r2 with
    | error e =>
      obtain ⟨he3, hc3⟩ := er3 e h3
      have hd : decP l = (pkOf [], e) := by unfold decP; rw [hdr, ho]; simp only [readA, hra, h1, readAll, Fk.rd, h2, h3]
      rw [← hs0] at hc hc1 hc2 hc3
      simp only [gp, pkOf] at hc hc1 hc2 hc3
      have hcz := hc1
      simp only [Int.cast_ofNat_Int] at hcz
      refine ⟨pkOf [], zp_fit, by rw [hd]; constructor <;> rfl, ?_⟩
      rw [hd]
      simp [inner_eq, s23, St.mt, opStore, hc, hcz, hc2, hc3, he3, dropped, expR, expA, exp1, exp0_v, gp, pkOf]
    | ok p3 =>
    obtain ⟨bs, r3⟩ := p3
    obtain ⟨v3, y3, hc3, hy3, hb3, hl3, hv3⟩ := ok3 bs r3 h3
    have hk3 := hy3.isL.len
    by_cases hr3 : r3 = []
    case neg =>
      have hd : decP l = (pkOf [], 3) := by unfold decP; rw [hdr, ho]; simp only [readA, hra, h1, readAll, Fk.rd, h2, h3, if_neg hr3]
      have hpos := List.length_pos_iff.2 hr3
      rw [← hs0] at hc hc1 hc2 hc3
      simp only [gp, pkOf] at hc hc1 hc2 hc3
      have hcz := hc1
      simp only [Int.cast_ofNat_Int] at hcz
      refine ⟨pkOf [], zp_fit, by rw [hd]; constructor <;> rfl, ?_⟩
      rw [hd]
      simp [inner_eq, s23, St.mt, opStore, hc, hcz, hc2, hc3, hk3, hpos, dropped, expR, expA, exp1, exp0_v, gp, pkOf]
    have hpe : ({ kind := a, ses := b0, seq := c, ack := d, cre := e, sel := v2, pay := v3, xs := xs, bs := bs } : Pk).Eq (pkOf [.i a, .i b0, .i c, .i d, .i e, .x xs, .b bs]) := by constructor <;> rfl
    have hpf : ({ kind := a, ses := b0, seq := c, ack := d, cre := e, sel := v2, pay := v3, xs := xs, bs := bs } : Pk).Fit := ⟨hv2, hv3.1, hv3.2⟩
    generalize hp : ({ kind := a, ses := b0, seq := c, ack := d, cre := e, sel := v2, pay := v3, xs := xs, bs := bs } : Pk) = p at hpe hpf
    have hgp : gp p = [.v (.int .i64 a), .v (.int .i64 b0), .v (.int .i64 c), .v (.int .i64 d), .v (.int .i64 e), v2, v3] := by rw [← hp]; rfl
    have hde : decP l = if chk p = 0 then (pkOf [.i a, .i b0, .i c, .i d, .i e, .x xs, .b bs], 0) else (pkOf [], chk p) := by
      unfold decP; rw [hdr, ho]; simp only [readA, hra, h1, readAll, Fk.rd, h2, h3, if_pos hr3, List.map_cons, List.map_nil, List.cons_append, List.nil_append]
      rw [chk_eq hpe]
    have hxs : p.xs.length ≤ 1000000 := by
      have h4 := (lists_once pairR_once hb1 h2).2
      have h5 := hpe.xs
      simp only [pkOf] at h5
      rw [h5]
      omega
    have hck := check14 hpf hxs { H := [{ cells := (gp (pkOf [])), fz := false }, { cells := gp p, fz := false }], F := [] }
    have o2 := IsL.one1 hv2
    have o3 := hv3.1.one
    obtain ⟨q, hq, e1, e2, e3, e4, e5, e6, e7, hexp, _⟩ := expL_gp hpf { H := [{ cells := gp p, fz := false }, { cells := gp p, fz := false }], F := [] }
    subst hr3
    rw [← hs0] at hc hc1 hc2 hc3
    simp only [gp, pkOf] at hc hc1 hc2 hc3
    have hcz := hc1
    simp only [Int.cast_ofNat_Int] at hcz
    have ci : ∀ a : Int, AV.cells (.v (.int .i64 a)) = [.v (.int .i64 a)] := fun _ => rfl
    have ti : ∀ a : Int, AV.isTup (.v (.int .i64 a)) = false := fun _ => rfl
    rw [hgp] at hck hexp
    simp only [gp, pkOf] at hck
    have fin : ∀ X, dropped st X = dropped st X := fun _ => rfl
    by_cases hc0 : chk p = 0
    · refine ⟨q, hq, ?_, ?_⟩
      · rw [hde, if_pos hc0]; exact ⟨e1.trans hpe.kind, e2.trans hpe.ses, e3.trans hpe.seq, e4.trans hpe.ack, e5.trans hpe.cre, e6.trans hpe.xs, e7.trans hpe.bs⟩
      · rw [hde, if_pos hc0]
        rw [hc0] at hck
        simp [inner_eq, s23, St.mt, opStore, opLoad, opLoad_ep, hc, hcz, ints, hc2, hc3, hk3, hck, -AV.cells, -AV.isTup, o2, o3, ci, ti, cells_agg, tup_agg, dropped, expR, expA, exp1, exp0_v, hexp, -expL]
    · refine ⟨pkOf [], zp_fit, by rw [hde, if_neg hc0]; constructor <;> rfl, ?_⟩
      rw [hde, if_neg hc0]
      simp [inner_eq, s23, St.mt, opStore, opLoad, opLoad_ep, hc, hcz, ints, hc2, hc3, hk3, hck, hc0, -AV.cells, -AV.isTup, o2, o3, ci, ti, cells_agg, tup_agg, dropped, expR, expA, exp1, exp0_v, gp, pkOf]

/-- ref.DecodeMessage -/
theorem dec25 {x : AV} {l : List Int} (hx : IsB x l) (hl : Byt l) (hlen : l.length ≤ 1000000) (st : St) : ∃ q : Ms, q.Fit ∧ q.Eq (decM l).1 ∧ callL T 25 [x] st = some (.ret (.tup [.agg (gm q), .v (.int .i64 (decM l).2)]), st) := by
  obtain ⟨x', hx1, hx2, _⟩ := hx.exps
  rw [call_plain T25 rfl rfl (show expA st [x] = some ([x'], st) by simp [expA, hx1])]
  generalize hs0 : ({ H := [{ cells := (gm (msOf [])), fz := false }], F := [] } : St) = s0
  obtain ⟨ok, er⟩ := opened53 hx2 hl hlen s0
  have hdr : decR km l = match openE l with
    | .ok b => readA km b
    | .error e => .error e := rfl
  cases ho : openE l with
  | error e =>
      obtain ⟨he, hc⟩ := er e ho
      have hd : decM l = (msOf [], e) := by unfold decM; rw [hdr, ho]
      rw [← hs0] at hc
      simp only [gm, msOf] at hc
      refine ⟨msOf [], zm_fit, by rw [hd]; constructor <;> rfl, ?_⟩
      rw [hd]
      simp [inner_eq, s25, St.mt, opStore, hc, he, dropped, expR, expA, exp1, exp0_v, gm, msOf]
  | ok b =>
    obtain ⟨y, hc, hyb, hbb, hbl⟩ := ok b ho
    have hra := readAll_ints [.w, .b] 6 b
    have hkn : List.replicate 6 Fk.i ++ [.w, .b] = km := rfl
    rw [hkn] at hra
    obtain ⟨ok1, er1⟩ := numbers54 6 (by omega) hyb hbb (by omega) s0
    cases h1 : lst num 6 b with
    | error e =>
      obtain ⟨he1, hc1⟩ := er1 e h1
      have hd : decM l = (msOf [], e) := by unfold decM; rw [hdr, ho]; simp only [readA, hra, h1]
      rw [← hs0] at hc hc1
      simp only [gm, msOf] at hc hc1
      have hcz := hc1
      simp only [Int.cast_ofNat_Int] at hcz
      refine ⟨msOf [], zm_fit, by rw [hd]; constructor <;> rfl, ?_⟩
      rw [hd]
      simp [inner_eq, s25, St.mt, opStore, hc, hcz, he1, dropped, expR, expA, exp1, exp0_v, gm, msOf]
    | ok p1 =>
    obtain ⟨ns0, r1⟩ := p1
    obtain ⟨v1, y1, hc1, hv1, hy1, hb1, hl1⟩ := ok1 ns0 r1 h1
    have hl5 := lst_len h1
    obtain ⟨a, b0, c, d, e, f, rfl⟩ := list6 hl5
    obtain ⟨t1, rfl⟩ := ints_form hv1 (by simp)
    obtain ⟨ok2, er2⟩ := ref37 hy1 hb1 (by omega) s0
    cases h2 : lists num r1 with
    | error e =>
      obtain ⟨he2, hc2⟩ := er2 e h2
      have hd : decM l = (msOf [], e) := by unfold decM; rw [hdr, ho]; simp only [readA, hra, h1, readAll, Fk.rd, h2]
      rw [← hs0] at hc hc1 hc2
      simp only [gm, msOf] at hc hc1 hc2
      have hcz := hc1
      simp only [Int.cast_ofNat_Int] at hcz
      refine ⟨msOf [], zm_fit, by rw [hd]; constructor <;> rfl, ?_⟩
      rw [hd]
      simp [inner_eq, s25, St.mt, opStore, hc, hcz, hc2, he2, dropped, expR, expA, exp1, exp0_v, gm, msOf]
    | ok p2 =>
    obtain ⟨xs, r2⟩ := p2
    obtain ⟨v2, y2, hc2, hy2, hb2, hl2, hv2⟩ := ok2 xs r2 h2
    obtain ⟨ok3, er3⟩ := ref36 hy2 hb2 (by omega) s0
    cases h3 : textR r2 with
    | error e =>
      obtain ⟨he3, hc3⟩ := er3 e h3
      have hd : decM l = (msOf [], e) := by unfold decM; rw [hdr, ho]; simp only [readA, hra, h1, readAll, Fk.rd, h2, h3]
      rw [← hs0] at hc hc1 hc2 hc3
      simp only [gm, msOf] at hc hc1 hc2 hc3
      have hcz := hc1
      simp only [Int.cast_ofNat_Int] at hcz
      refine ⟨msOf [], zm_fit, by rw [hd]; constructor <;> rfl, ?_⟩
      rw [hd]
      simp [inner_eq, s25, St.mt, opStore, hc, hcz, hc2, hc3, he3, dropped, expR, expA, exp1, exp0_v, gm, msOf]
    | ok p3 =>
    obtain ⟨bs, r3⟩ := p3
    obtain ⟨v3, y3, hc3, hy3, hb3, hl3, hv3⟩ := ok3 bs r3 h3
    have hk3 := hy3.isL.len
    by_cases hr3 : r3 = []
    case neg =>
      have hd : decM l = (msOf [], 3) := by unfold decM; rw [hdr, ho]; simp only [readA, hra, h1, readAll, Fk.rd, h2, h3, if_neg hr3]
      have hpos := List.length_pos_iff.2 hr3
      rw [← hs0] at hc hc1 hc2 hc3
      simp only [gm, msOf] at hc hc1 hc2 hc3
      have hcz := hc1
      simp only [Int.cast_ofNat_Int] at hcz
      refine ⟨msOf [], zm_fit, by rw [hd]; constructor <;> rfl, ?_⟩
      rw [hd]
      simp [inner_eq, s25, St.mt, opStore, hc, hcz, hc2, hc3, hk3, hpos, dropped, expR, expA, exp1, exp0_v, gm, msOf]
    have hpe : ({ kind := a, frm := b0, to := c, num := d, val := e, epo := f, lst := v2, bod := v3, ns := xs, bs := bs } : Ms).Eq (msOf [.i a, .i b0, .i c, .i d, .i e, .i f, .w xs, .b bs]) := by constructor <;> rfl
    have hpf : ({ kind := a, frm := b0, to := c, num := d, val := e, epo := f, lst := v2, bod := v3, ns := xs, bs := bs } : Ms).Fit := ⟨hv2, hv3.1, hv3.2⟩
    generalize hp : ({ kind := a, frm := b0, to := c, num := d, val := e, epo := f, lst := v2, bod := v3, ns := xs, bs := bs } : Ms) = p at hpe hpf
    have hgp : gm p = [.v (.int .i64 a), .v (.int .i64 b0), .v (.int .i64 c), .v (.int .i64 d), .v (.int .i64 e), .v (.int .i64 f), v2, v3] := by rw [← hp]; rfl
    have hde : decM l = if chkM p = 0 then (msOf [.i a, .i b0, .i c, .i d, .i e, .i f, .w xs, .b bs], 0) else (msOf [], chkM p) := by
      unfold decM; rw [hdr, ho]; simp only [readA, hra, h1, readAll, Fk.rd, h2, h3, if_pos hr3, List.map_cons, List.map_nil, List.cons_append, List.nil_append]
      rw [chkM_eq hpe]
    have hxs : p.ns.length ≤ 1000000 := by
      have h4 := (lists_once (e := enc) (fun l r a h1 h2 => num_once h1 h2) hb1 h2).2
      have h5 := hpe.ns
      simp only [msOf] at h5
      rw [h5]
      omega
    have hck := check61 hpf hxs { H := [{ cells := (gm (msOf [])), fz := false }, { cells := gm p, fz := false }], F := [] }
    have o2 := IsL.one1 hv2
    have o3 := hv3.1.one
    obtain ⟨q, hq, e1, e2, e3, e4, e5, e6, e7, e8, hexp, _⟩ := expL_gm hpf { H := [{ cells := gm p, fz := false }, { cells := gm p, fz := false }], F := [] }
    subst hr3
    rw [← hs0] at hc hc1 hc2 hc3
    simp only [gm, msOf] at hc hc1 hc2 hc3
    have hcz := hc1
    simp only [Int.cast_ofNat_Int] at hcz
    have ci : ∀ a : Int, AV.cells (.v (.int .i64 a)) = [.v (.int .i64 a)] := fun _ => rfl
    have ti : ∀ a : Int, AV.isTup (.v (.int .i64 a)) = false := fun _ => rfl
    rw [hgp] at hck hexp
    simp only [gm, msOf] at hck
    have fin : ∀ X, dropped st X = dropped st X := fun _ => rfl
    by_cases hc0 : chkM p = 0
    · refine ⟨q, hq, ?_, ?_⟩
      · rw [hde, if_pos hc0]; exact ⟨e1.trans hpe.kind, e2.trans hpe.frm, e3.trans hpe.to, e4.trans hpe.num, e5.trans hpe.val, e6.trans hpe.epo, e7.trans hpe.ns, e8.trans hpe.bs⟩
      · rw [hde, if_pos hc0]
        rw [hc0] at hck
        simp [inner_eq, s25, St.mt, opStore, opLoad, opLoad_ep, hc, hcz, ints, hc2, hc3, hk3, hck, -AV.cells, -AV.isTup, o2, o3, ci, ti, cells_agg, tup_agg, dropped, expR, expA, exp1, exp0_v, hexp, -expL]
    · refine ⟨msOf [], zm_fit, by rw [hde, if_neg hc0]; constructor <;> rfl, ?_⟩
      rw [hde, if_neg hc0]
      simp [inner_eq, s25, St.mt, opStore, opLoad, opLoad_ep, hc, hcz, ints, hc2, hc3, hk3, hck, hc0, -AV.cells, -AV.isTup, o2, o3, ci, ti, cells_agg, tup_agg, dropped, expR, expA, exp1, exp0_v, gm, msOf]

end VS
end Go.Proofs.Ytkhekmmldnjenaa
/- Equal packets and messages are said to be equal. -/
namespace Go.Proofs.Ytkhekmmldnjenaa
namespace VS

theorem eq62Loop {α : Type} {g : α → List AV} {l : List α} {ds : List AV} (t u : Tag) (hf : Flat g 2 l ds) (hg : ∀ x ∈ l, (g x).length = 2) (hs : ∀ x ∈ l, sameCells (g x) (g x) = some true) (hlen : l.length ≤ 1000000) : ∀ (k i : Nat) (st : St), i + k = l.length →
    ∃ fr', runL T (.loop [0, 1, 5] s62b0) { s := [(0, .sl ds l.length t), (1, .sl ds l.length u), (5, .v (.int .i64 i))], d := [] } st = some (.ex 0, fr', st) ∧ fr'.only [] = { s := [], d := [] }
  | 0, i, st, hi => by
    refine ⟨?s, ?a, ?b⟩
    case a =>
      rw [runL_loop]
      have : ¬ (i : Int) < l.length := by omega
      simp [s62b0, this]
      rfl
    case b => simp
  | k + 1, i, st, hi => by
    have hlt : i < l.length := by omega
    have hmem : l[i] ∈ l := List.getElem_mem hlt
    have hw : IntKind.wrap .i64 ((i : Int) + 1) = ((i + 1 : Nat) : Int) := by rw [wrap_i64 (by omega) (by omega)]; omega
    have h1 : (i : Int) < l.length := by omega
    have hfl := hf.len
    have h2 : partOf ds (i * 2) (some 2) = some (.agg (g l[i])) := partOf_some (by omega) (hf.at_ i hlt)
    have h3 := hg _ hmem
    have h4 := hs _ hmem
    obtain ⟨fr', hr, hfr⟩ := eq62Loop t u hf hg hs hlen k (i + 1) st (by omega)
    refine ⟨fr', ?_, hfr⟩
    rw [runL_loop]
    generalize hL : SCode.loop [0, 1, 5] s62b0 = L
    simp only [s62b0]
    simp [h1, opLoad_ep, h2, h3, h4, hw, -partOf]
    subst hL
    refine (loop_from ?_).trans hr
    simp

theorem eq62 {α : Type} {g : α → List AV} {l : List α} {ds : List AV} {x y : AV} (hf : Flat g 2 l ds) (hg : ∀ x ∈ l, (g x).length = 2) (hs : ∀ x ∈ l, sameCells (g x) (g x) = some true) (hlen : l.length ≤ 1000000) (hx : IsL 2 x ds l.length) (hy : IsL 2 y ds l.length) (st : St) : callL T 62 [x, y] st = some (.ret (.v (.bool true)), st) := by
  obtain ⟨x', hx1, hx2, _⟩ := hx.exps
  obtain ⟨y', hy1, hy2, _⟩ := hy.exps
  rw [call_plain T62 rfl rfl (expA_cons (hx1 st) (expA_cons (hy1 st) rfl))]
  have k1 := hx2.len
  have k2 := hy2.len
  by_cases h0 : l.length = 0
  · rw [h0] at k1 k2
    simp only [Int.natCast_zero] at k1 k2
    simp [inner_eq, s62, k1, k2]
    rw [runL_loop]
    simp [s62b0, k1, dropped, expR]
  · obtain ⟨t, rfl⟩ := hx2.form2 (by omega)
    obtain ⟨u, rfl⟩ := hy2.form2 (by omega)
    obtain ⟨fr', hr, hfr⟩ := eq62Loop t u hf hg hs hlen l.length 0 .mt (Nat.zero_add _)
    have hu := loop_use hr
    simp [inner_eq, s62]
    rw [hu _ (by simp)]
    simp [hfr, dropped, expR]


theorem same62 {x y : AV} {xs : List (Int × Int)} (hx : IsL 2 x (xs.flatMap gx) xs.length) (hy : IsL 2 y (xs.flatMap gx) xs.length) (hlen : xs.length ≤ 1000000) (st : St) : callL T 62 [x, y] st = some (.ret (.v (.bool true)), st) :=
  eq62 (flat_ext xs) (fun _ _ => rfl) (fun p _ => same_gx p) hlen hx hy st

/-- ref.Same -/
theorem same26 {p q : Pk} (hp : p.Fit) (hq : q.Fit) (he : p.Eq q) (hx : p.xs.length ≤ 1000000) (hb : p.bs.length ≤ 1000000) (st : St) : callL T 26 [.agg (gp p), .agg (gp q)] st = some (.ret (.v (.bool true)), st) := by
  obtain ⟨p', hp', a1, a2, a3, a4, a5, a6, a7, hexp, _⟩ := expL_gp hp st
  obtain ⟨q', hq', b1, b2, b3, b4, b5, b6, b7, hexq, _⟩ := expL_gp hq st
  rw [call_plain T26 rfl rfl (show expA st [.agg (gp p), .agg (gp q)] = some ([.agg (gp p'), .agg (gp q')], st) by simp [expA, exp1, hexp, hexq])]
  have e1 : p'.kind = q'.kind := by rw [a1, b1, he.kind]
  have e2 : p'.ses = q'.ses := by rw [a2, b2, he.ses]
  have e3 : p'.seq = q'.seq := by rw [a3, b3, he.seq]
  have e4 : p'.ack = q'.ack := by rw [a4, b4, he.ack]
  have e5 : p'.cre = q'.cre := by rw [a5, b5, he.cre]
  have e6 : p'.xs = q'.xs := by rw [a6, b6, he.xs]
  have e7 : p'.bs = q'.bs := by rw [a7, b7, he.bs]
  have h6 : ∀ s, callL T 62 [p'.sel, q'.sel] s = some (.ret (.v (.bool true)), s) := fun s => same62 hp'.sel (by rw [e6]; exact hq'.sel) (by rw [a6]; exact hx) s
  have h7 : ∀ s, callL T 63 [p'.pay, q'.pay] s = some (.ret (.v (.bool true)), s) := fun s => by
    rw [eq63 hp'.pay hq'.pay (by rw [a7]; omega), decide_eq_true e7]
  simp [inner_eq, s26, St.mt, gp, opLoad, e1, e2, e3, e4, e5, h6, h7, dropped, expR]

theorem loop27 {ns : List Int} {c d : List AV} (t u : Tag) (hc : c[6]? = some (.sl (ints ns) ns.length t)) (hd : d[6]? = some (.sl (ints ns) ns.length u)) (hlen : ns.length ≤ 1000000) {st : St} (h0 : st.H[0]? = some { cells := c, fz := false }) (h1 : st.H[1]? = some { cells := d, fz := false }) : ∀ (k i : Nat), i + k = ns.length →
    ∃ fr', runL T (.loop [2, 3, 5] s27b0) { s := [(2, .ptr 0 0), (3, .ptr 1 0), (5, .v (.int .i64 i))], d := [] } st = some (.ex 0, fr', st) ∧ fr'.only [2, 3] = { s := [(2, .ptr 0 0), (3, .ptr 1 0)], d := [] }
  | 0, i, hi => by
    have l0 := load1 h0 6
    refine ⟨?s, ?a, ?b⟩
    case a =>
      rw [runL_loop]
      have : ¬ (i : Int) < ns.length := by omega
      simp [s27b0, l0, hc, this]
      rfl
    case b => simp
  | k + 1, i, hi => by
    have hlt : i < ns.length := by omega
    have hw : IntKind.wrap .i64 ((i : Int) + 1) = ((i + 1 : Nat) : Int) := by rw [wrap_i64 (by omega) (by omega)]; omega
    have h2 : (i : Int) < ns.length := by omega
    have hg := ints_get ns i hlt
    have l0 := load1 h0 6
    have l1 := load1 h1 6
    obtain ⟨fr', hr, hfr⟩ := loop27 t u hc hd hlen h0 h1 k (i + 1) (by omega)
    refine ⟨fr', ?_, hfr⟩
    rw [runL_loop]
    generalize hL : SCode.loop [2, 3, 5] s27b0 = L
    simp only [s27b0]
    simp [l0, l1, hc, hd, h2, opLoad_ep, hg, hw]
    subst hL
    refine (loop_from ?_).trans hr
    simp

/-- ref.SameMessage -/
theorem same27 {p q : Ms} (hp : p.Fit) (hq : q.Fit) (he : p.Eq q) (hx : p.ns.length ≤ 1000000) (hb : p.bs.length ≤ 1000000) (st : St) : callL T 27 [.agg (gm p), .agg (gm q)] st = some (.ret (.v (.bool true)), st) := by
  obtain ⟨p', hp', a1, a2, a3, a4, a5, a6, a7, a8, hexp, _⟩ := expL_gm hp st
  obtain ⟨q', hq', b1, b2, b3, b4, b5, b6, b7, b8, hexq, _⟩ := expL_gm hq st
  rw [call_plain T27 rfl rfl (show expA st [.agg (gm p), .agg (gm q)] = some ([.agg (gm p'), .agg (gm q')], st) by simp [expA, exp1, hexp, hexq])]
  have e1 : p'.kind = q'.kind := by rw [a1, b1, he.kind]
  have e2 : p'.frm = q'.frm := by rw [a2, b2, he.frm]
  have e3 : p'.to = q'.to := by rw [a3, b3, he.to]
  have e4 : p'.num = q'.num := by rw [a4, b4, he.num]
  have e5 : p'.val = q'.val := by rw [a5, b5, he.val]
  have e6 : p'.epo = q'.epo := by rw [a6, b6, he.epo]
  have e7 : p'.ns = q'.ns := by rw [a7, b7, he.ns]
  have e8 : p'.bs = q'.bs := by rw [a8, b8, he.bs]
  have h7 : ∀ s, callL T 63 [p'.bod, q'.bod] s = some (.ret (.v (.bool true)), s) := fun s => by
    rw [eq63 hp'.bod hq'.bod (by rw [a8]; omega), decide_eq_true e8]
  have hl1 := hp'.lst
  have hl2 := hq'.lst
  rw [← e7] at hl2
  have n1 := hl1.len
  have n2 := hl2.len
  have hx' : p'.ns.length ≤ 1000000 := by rw [a7]; exact hx
  by_cases h0 : p'.ns.length = 0
  · rw [h0] at n1 n2
    simp only [Int.natCast_zero] at n1 n2
    simp [inner_eq, s27, St.mt, gm, opLoad, n1, n2]
    rw [runL_loop]
    simp [s27b0, opLoad, n1, e1, e2, e3, e4, e5, e6, h7, dropped, expR]
  · obtain ⟨t, ht⟩ := hl1.form2 (by omega)
    obtain ⟨u, hu⟩ := hl2.form2 (by omega)
    obtain ⟨fr', hr, hfr⟩ := loop27 (ns := p'.ns) (c := gm p') (d := gm q') t u (by rw [← ht]; rfl) (by rw [← hu]; rfl) hx' (st := { H := [{ cells := gm p', fz := false }, { cells := gm q', fz := false }], F := [] }) rfl rfl p'.ns.length 0 (by omega)
    have hul := loop_use hr
    simp only [gm] at hul
    simp [inner_eq, s27, St.mt, gm, opLoad, n1, n2]
    rw [hul _ (by simp)]
    simp [hfr, opLoad, e1, e2, e3, e4, e5, e6, h7, dropped, expR]

/-- few -/
theorem few11 {p : Pk} (hp : p.Fit) (st : St) : callL T 11 [.agg (gp p)] st = some (.ret (.v (.bool (decide (p.xs.length ≤ 40 ∧ p.bs.length ≤ 5000)))), st) := by
  obtain ⟨p', hp', a1, a2, a3, a4, a5, a6, a7, hexp, _⟩ := expL_gp hp st
  rw [call_plain T11 rfl rfl (show expA st [.agg (gp p)] = some ([.agg (gp p')], st) by simp [expA, exp1, hexp])]
  have n1 := hp'.sel.len
  have n2 := hp'.pay.isL.len
  rw [a6] at n1
  rw [a7] at n2
  by_cases h1 : (p.xs.length : Int) ≤ 40
  · have h1' : p.xs.length ≤ 40 := by omega
    by_cases h2 : (p.bs.length : Int) ≤ 5000
    · have h2' : p.bs.length ≤ 5000 := by omega
      simp [inner_eq, s11, St.mt, gp, opLoad, n1, n2, h1, h2, h1', h2', dropped, expR]
    · have h2' : ¬ p.bs.length ≤ 5000 := by omega
      simp [inner_eq, s11, St.mt, gp, opLoad, n1, n2, h1, h2, h1', h2', dropped, expR]
  · have h1' : ¬ p.xs.length ≤ 40 := by omega
    simp [inner_eq, s11, St.mt, gp, opLoad, n1, h1, h1', dropped, expR]

/-- fewMessage -/
theorem few28 {p : Ms} (hp : p.Fit) (st : St) : callL T 28 [.agg (gm p)] st = some (.ret (.v (.bool (decide (p.ns.length ≤ 5000 ∧ p.bs.length ≤ 70000)))), st) := by
  obtain ⟨p', hp', a1, a2, a3, a4, a5, a6, a7, a8, hexp, _⟩ := expL_gm hp st
  rw [call_plain T28 rfl rfl (show expA st [.agg (gm p)] = some ([.agg (gm p')], st) by simp [expA, exp1, hexp])]
  have n1 := hp'.lst.len
  have n2 := hp'.bod.isL.len
  rw [a7] at n1
  rw [a8] at n2
  by_cases h1 : (p.ns.length : Int) ≤ 5000
  · have h1' : p.ns.length ≤ 5000 := by omega
    by_cases h2 : (p.bs.length : Int) ≤ 70000
    · have h2' : p.bs.length ≤ 70000 := by omega
      simp [inner_eq, s28, St.mt, gm, opLoad, n1, n2, h1, h2, h1', h2', dropped, expR]
    · have h2' : ¬ p.bs.length ≤ 70000 := by omega
      simp [inner_eq, s28, St.mt, gm, opLoad, n1, n2, h1, h2, h1', h2', dropped, expR]
  · have h1' : ¬ p.ns.length ≤ 5000 := by omega
    simp [inner_eq, s28, St.mt, gm, opLoad, n1, h1, h1', dropped, expR]

end VS
end Go.Proofs.Ytkhekmmldnjenaa
/- Gaps: both functions compute them. -/
namespace Go.Proofs.Ytkhekmmldnjenaa
namespace VS

def gapS : Int → List (Int × Int) → List (Int × Int)
  | _, [] => []
  | e, (s, c) :: r => (e, s - e) :: gapS (s + c) r
def gaps (p : Pk) : List (Int × Int) := if chk p = 0 then gapS p.ack p.xs else []
theorem gapS_len : ∀ (e : Int) (l : List (Int × Int)), (gapS e l).length = l.length
  | _, [] => rfl
  | _, (s, c) :: r => by simp [gapS, gapS_len (s + c) r]

theorem selS_cons {ack e s c : Int} {r : List (Int × Int)} (h : selS ack e ((s, c) :: r) = true) : e < s ∧ 1 ≤ c ∧ s ≤ ack + 64 ∧ c ≤ ack + 64 - s ∧ selS ack (s + c) r = true := by
  simp only [selS] at h
  split at h
  · cases h
  · rename_i hn
    exact ⟨by omega, by omega, by omega, by omega, h⟩

theorem chk_ok {p : Pk} (h : chk p = 0) : 0 ≤ p.kind ∧ p.kind ≤ 2 ∧ timeB p.ses = true ∧ timeB p.seq = true ∧ timeB p.ack = true ∧ 0 ≤ p.cre ∧ p.cre ≤ 64 ∧ selS p.ack p.ack p.xs = true ∧ p.bs.length ≤ 4096 ∧ (0 < p.bs.length → p.kind = 0) := by
  unfold chk at h
  split at h
  · omega
  rename_i h1
  split at h
  · omega
  rename_i h2
  split at h
  · omega
  rename_i h3
  split at h
  · omega
  rename_i h4
  split at h
  · omega
  rename_i h5
  simp only [not_or, Bool.not_eq_false] at h2 h3
  exact ⟨by omega, by omega, h2.1, h2.2.1, h2.2.2.1, by omega, by omega, h3, by omega, fun hp => by
    apply Decidable.byContradiction
    intro hk
    exact h5 ⟨hp, hk⟩⟩

theorem gap_app {st : St} {out : AV} {done : List (Int × Int)} (h : App st 2 out (done.flatMap gx) done.length) (hl : done.length ≤ 1000000) (a b : Int) :
    ∃ z st', opAppend st 2 16 out (.sl [.v (.int .i64 a), .v (.int .i64 b)] 1 .full) = some (z, st') ∧ App st' 2 z ((done ++ [(a, b)]).flatMap gx) (done ++ [(a, b)]).length ∧ st'.H = st.H := by
  obtain ⟨z, st', h1, h2, h3⟩ := app_append (bytes := 16) h (y := .sl [.v (.int .i64 a), .v (.int .i64 b)] 1 .full) (ds := [.v (.int .i64 a), .v (.int .i64 b)]) (m := 1) (.sl (by simp) (by simp)) (by omega) (by simp only [most47]; omega) (by omega)
  exact ⟨z, st', h1, by simpa [gx] using h2, h3⟩

theorem gapLoop16 {xs : List (Int × Int)} {ds : List AV} (t : Tag) (hf : Flat gx 2 xs ds) (ack : Int) (h0 : 0 ≤ ack) (h1 : ack ≤ 1073741824) (hlen : xs.length ≤ 1000000) : ∀ (k i : Nat) (e : Int) (out : AV) (done : List (Int × Int)) (st : St), i + k = xs.length → done.length = i → ack ≤ e → e ≤ ack + 64 → selS ack e (xs.drop i) = true → App st 2 out (done.flatMap gx) done.length →
    ∃ y fr' st', runL T (.loop [3, 4, 19, 20, 21] s16b0) { s := [(3, out), (4, .v (.int .i64 e)), (19, .sl ds xs.length t), (20, .v (.int .i64 xs.length)), (21, .v (.int .i64 i))], d := [] } st = some (.ex 0, fr', st') ∧ fr'.only [3] = { s := [(3, y)], d := [] } ∧ App st' 2 y ((done ++ gapS e (xs.drop i)).flatMap gx) (done ++ gapS e (xs.drop i)).length
  | 0, i, e, out, done, st, hi, hdn, _, _, _, ho => by
    have hd : xs.drop i = [] := List.drop_eq_nil_of_le (by omega)
    refine ⟨out, ?s, st, ?a, ?b, by rw [hd]; simpa [gapS] using ho⟩
    case a =>
      rw [runL_loop]
      have : ¬ (i : Int) < xs.length := by omega
      simp [s16b0, this]
      rfl
    case b => simp
  | k + 1, i, e, out, done, st, hi, hdn, he0, he1, hsel, ho => by
    have hlt : i < xs.length := by omega
    have hd : xs.drop i = xs[i] :: xs.drop (i + 1) := List.drop_eq_getElem_cons hlt
    have hat := hf.at_ i hlt
    have hcs := hf.len
    have h2 : (i : Int) < xs.length := by omega
    have hw : IntKind.wrap .i64 ((i : Int) + 1) = ((i + 1 : Nat) : Int) := by rw [wrap_i64 (by omega) (by omega)]; omega
    have hle : i * 2 + 2 ≤ ds.length := by omega
    generalize hx : xs[i] = x at *
    obtain ⟨s, c⟩ := x
    rw [hd] at hsel ⊢
    obtain ⟨c1, c2, c3, c4, c5⟩ := selS_cons hsel
    have hw2 : IntKind.wrap .i64 (s - e) = s - e := wrap_i64 (by omega) (by omega)
    have hw3 : IntKind.wrap .i64 (s + c) = s + c := wrap_i64 (by omega) (by omega)
    have ho' : App { H := st.H ++ [{ cells := [.v (.int .i64 s), .v (.int .i64 c)], fz := false }], F := st.F } 2 out (done.flatMap gx) done.length := ho.move rfl
    obtain ⟨z, st1, happ, hA, hH⟩ := gap_app ho' (by omega) e (s - e)
    have l0 := load1 (st := st1) (a := st.H.length) (cs := [.v (.int .i64 s), .v (.int .i64 c)]) (f := false) (by rw [hH]; simp) 0
    have l1 := load1 (st := st1) (a := st.H.length) (cs := [.v (.int .i64 s), .v (.int .i64 c)]) (f := false) (by rw [hH]; simp) 1
    have m0 := load1 (st := { H := st.H ++ [{ cells := [.v (.int .i64 s), .v (.int .i64 c)], fz := false }], F := st.F }) (a := st.H.length) (cs := [.v (.int .i64 s), .v (.int .i64 c)]) (f := false) (by simp) 0
    obtain ⟨y, fr', st', hr, hfr, hA'⟩ := gapLoop16 t hf ack h0 h1 hlen k (i + 1) (s + c) z (done ++ [(e, s - e)]) st1 (by omega) (by simp [hdn]) (by omega) (by omega) c5 hA
    refine ⟨y, fr', st', ?_, hfr, by simpa [gapS] using hA'⟩
    have hst : opStore { H := st.H ++ [{ cells := [.v (.int .i64 0), .v (.int .i64 0)], fz := false }], F := st.F } 2 (.ptr st.H.length 0) (.agg [.v (.int .i64 s), .v (.int .i64 c)]) = some { H := st.H ++ [{ cells := [.v (.int .i64 s), .v (.int .i64 c)], fz := false }], F := st.F } := opStore_new rfl rfl
    rw [runL_loop]
    generalize hL : SCode.loop [3, 4, 19, 20, 21] s16b0 = L
    simp only [gx] at hat
    simp only [s16b0]
    simp [h2, opLoad_ep, hle, hat, hst, m0, hw2, happ, l0, l1, hw3, hw]
    subst hL
    refine (loop_from ?_).trans hr
    simp

theorem gapLoop17 {xs : List (Int × Int)} {ds c0 : List AV} (t : Tag) (hf : Flat gx 2 xs ds) (hc0 : c0[5]? = some (.sl ds xs.length t)) (ack : Int) (h0 : 0 ≤ ack) (h1 : ack ≤ 1073741824) (hlen : xs.length ≤ 1000000) : ∀ (k i : Nat) (e : Int) (out : AV) (done : List (Int × Int)) (st : St), st.H = [{ cells := c0, fz := false }] → i + k = xs.length → done.length = i → ack ≤ e → e ≤ ack + 64 → selS ack e (xs.drop i) = true → App st 2 out (done.flatMap gx) done.length →
    ∃ y fr' st', runL T (.loop [1, 3, 4, 5] s17b0) { s := [(1, .ptr 0 0), (3, out), (4, .v (.int .i64 e)), (5, .v (.int .i64 i))], d := [] } st = some (.ex 0, fr', st') ∧ fr'.only [3] = { s := [(3, y)], d := [] } ∧ App st' 2 y ((done ++ gapS e (xs.drop i)).flatMap gx) (done ++ gapS e (xs.drop i)).length
  | 0, i, e, out, done, st, hst, hi, hdn, _, _, _, ho => by
    have hd : xs.drop i = [] := List.drop_eq_nil_of_le (by omega)
    have l5 := load1 (st := st) (a := 0) (cs := c0) (f := false) (by rw [hst]; rfl) 5
    refine ⟨out, ?s, st, ?a, ?b, by rw [hd]; simpa [gapS] using ho⟩
    case a =>
      rw [runL_loop]
      have : ¬ (i : Int) < xs.length := by omega
      simp [s17b0, l5, hc0, this]
      rfl
    case b => simp
  | k + 1, i, e, out, done, st, hst, hi, hdn, he0, he1, hsel, ho => by
    have hlt : i < xs.length := by omega
    have hd : xs.drop i = xs[i] :: xs.drop (i + 1) := List.drop_eq_getElem_cons hlt
    have q0 : ds[i * 2]? = some (.v (.int .i64 xs[i].1)) := by simpa [gx] using hf.fld i 0 hlt (by omega)
    have q1 : ds[i * 2 + 1]? = some (.v (.int .i64 xs[i].2)) := by simpa [gx] using hf.fld i 1 hlt (by omega)
    have h2 : (i : Int) < xs.length := by omega
    have hw : IntKind.wrap .i64 ((i : Int) + 1) = ((i + 1 : Nat) : Int) := by rw [wrap_i64 (by omega) (by omega)]; omega
    generalize hx : xs[i] = x at *
    obtain ⟨s, c⟩ := x
    rw [hd] at hsel ⊢
    obtain ⟨c1, c2, c3, c4, c5⟩ := selS_cons hsel
    have hw2 : IntKind.wrap .i64 (s - e) = s - e := wrap_i64 (by omega) (by omega)
    have hw3 : IntKind.wrap .i64 (s + c) = s + c := wrap_i64 (by omega) (by omega)
    obtain ⟨z, st1, happ, hA, hH⟩ := gap_app ho (by omega) e (s - e)
    have l5 := load1 (st := st) (a := 0) (cs := c0) (f := false) (by rw [hst]; rfl) 5
    have m5 := load1 (st := st1) (a := 0) (cs := c0) (f := false) (by rw [hH, hst]; rfl) 5
    obtain ⟨y, fr', st', hr, hfr, hA'⟩ := gapLoop17 t hf hc0 ack h0 h1 hlen k (i + 1) (s + c) z (done ++ [(e, s - e)]) st1 (hH.trans hst) (by omega) (by simp [hdn]) (by omega) (by omega) c5 hA
    refine ⟨y, fr', st', ?_, hfr, by simpa [gapS] using hA'⟩
    rw [runL_loop]
    generalize hL : SCode.loop [1, 3, 4, 5] s17b0 = L
    simp only [s17b0]
    simp [l5, m5, hc0, h2, opLoad_ep, q0, q1, hw2, happ, hw3, hw]
    subst hL
    refine (loop_from ?_).trans hr
    simp

theorem dropL {sz : Nat} {x : AV} {cs : List AV} {n : Nat} (h : IsL sz x cs n) : ∃ y, (∀ s st, dropped st (some (.ret x, s)) = some (.ret y, st)) ∧ IsL sz y cs n := by
  obtain ⟨y, h1, h2, _⟩ := h.exps
  exact ⟨y, fun s st => by simp [dropped, h.expR, h1], h2⟩

/-- packet.Gaps -/
theorem gaps16 {p : Pk} (h : p.Fit) (hx : p.xs.length ≤ 1000000) (st : St) : ∃ y, callL T 16 [.agg (gp p)] st = some (.ret y, st) ∧ IsL 2 y ((gaps p).flatMap gx) (gaps p).length := by
  obtain ⟨q, hq, e1, e2, e3, e4, e5, e6, e7, hexp, hexp2⟩ := expL_gp h st
  rw [call_plain T16 rfl rfl (show expA st [.agg (gp p)] = some ([.agg (gp q)], st) by simp [expA, exp1, hexp])]
  have hchk : chk q = chk p := by simp only [chk, e1, e2, e3, e4, e5, e6, e7]
  have hx' : q.xs.length ≤ 1000000 := by rw [e6]; exact hx
  have hck := fun s => check13 hq hx' s
  have hn := hq.sel.len
  simp only [gp] at hck
  unfold gaps
  rw [← hchk, ← e4, ← e6]
  by_cases hc : chk q = 0
  · rw [if_pos hc]
    rw [hc] at hck
    obtain ⟨_, _, _, _, ht, _, _, hsel, _, _⟩ := chk_ok hc
    have ht' : 0 ≤ q.ack ∧ q.ack ≤ 1073741824 := by simpa [timeB] using ht
    by_cases h0 : q.xs.length = 0
    · have hnil : q.xs = [] := List.eq_nil_of_length_eq_zero h0
      rw [h0] at hn
      refine ⟨.v (.slice none 0 0), ?_, by rw [hnil]; exact .nil⟩
      simp only [Int.natCast_zero] at hn
      simp [inner_eq, s16, St.mt, gp, opLoad, hck, hn, dropped, expR]
    · obtain ⟨t, ht2⟩ := hq.sel.form2 (by omega)
      obtain ⟨y, fr', s2, hr, hfr, hA⟩ := gapLoop16 t (flat_ext q.xs) q.ack ht'.1 ht'.2 hx' q.xs.length 0 q.ack (.v (.slice none 0 0)) [] { H := [{ cells := gp q, fz := false }], F := [] } (by omega) rfl (by omega) (by omega) hsel .nil
      have hu := loop_use hr
      rw [List.nil_append, List.drop_zero] at hA
      obtain ⟨w, hw1, hw2⟩ := dropL hA.isL
      have hnz : ¬ (q.xs.length : Int) = 0 := by omega
      refine ⟨w, ?_, hw2⟩
      have hne : q.xs ≠ [] := fun h => h0 (by rw [h]; rfl)
      simp only [gp] at hu
      rw [ht2] at hu hck hn
      simp [inner_eq, s16, St.mt, gp, opLoad, ht2, hck, hne]
      rw [hu _ (by simp)]
      simp [hfr, hw1]
  · rw [if_neg hc]
    refine ⟨.v (.slice none 0 0), ?_, .nil⟩
    simp [inner_eq, s16, St.mt, gp, opLoad, hck, hc, dropped, expR]

/-- ref.Gaps -/
theorem gaps17 {p : Pk} (h : p.Fit) (hx : p.xs.length ≤ 1000000) (st : St) : ∃ y, callL T 17 [.agg (gp p)] st = some (.ret y, st) ∧ IsL 2 y ((gaps p).flatMap gx) (gaps p).length := by
  obtain ⟨q, hq, e1, e2, e3, e4, e5, e6, e7, hexp, hexp2⟩ := expL_gp h st
  rw [call_plain T17 rfl rfl (show expA st [.agg (gp p)] = some ([.agg (gp q)], st) by simp [expA, exp1, hexp])]
  have hchk : chk q = chk p := by simp only [chk, e1, e2, e3, e4, e5, e6, e7]
  have hx' : q.xs.length ≤ 1000000 := by rw [e6]; exact hx
  have hck := fun s => check14 hq hx' s
  have hn := hq.sel.len
  simp only [gp] at hck
  unfold gaps
  rw [← hchk, ← e4, ← e6]
  by_cases hc : chk q = 0
  · rw [if_pos hc]
    rw [hc] at hck
    obtain ⟨_, _, _, _, ht, _, _, hsel, _, _⟩ := chk_ok hc
    have ht' : 0 ≤ q.ack ∧ q.ack ≤ 1073741824 := by simpa [timeB] using ht
    by_cases h0 : q.xs.length = 0
    · have hnil : q.xs = [] := List.eq_nil_of_length_eq_zero h0
      rw [h0] at hn
      refine ⟨.v (.slice none 0 0), ?_, by rw [hnil]; exact .nil⟩
      simp only [Int.natCast_zero] at hn
      simp [inner_eq, s17, St.mt, gp, opLoad, hck]
      rw [runL_loop]
      simp [s17b0, opLoad, hn, dropped, expR]
    · obtain ⟨t, ht2⟩ := hq.sel.form2 (by omega)
      obtain ⟨y, fr', s2, hr, hfr, hA⟩ := gapLoop17 t (flat_ext q.xs) (c0 := gp q) (by rw [← ht2]; rfl) q.ack ht'.1 ht'.2 hx' q.xs.length 0 q.ack (.v (.slice none 0 0)) [] { H := [{ cells := gp q, fz := false }], F := [] } rfl (by omega) rfl (by omega) (by omega) hsel .nil
      have hu := loop_use hr
      rw [List.nil_append, List.drop_zero] at hA
      obtain ⟨w, hw1, hw2⟩ := dropL hA.isL
      refine ⟨w, ?_, hw2⟩
      simp only [gp] at hu
      simp [inner_eq, s17, St.mt, gp, opLoad, hck]
      rw [hu _ (by simp)]
      simp [hfr, hw1]
  · rw [if_neg hc]
    refine ⟨.v (.slice none 0 0), ?_, .nil⟩
    simp [inner_eq, s17, St.mt, gp, opLoad, hck, hc, dropped, expR]

end VS
end Go.Proofs.Ytkhekmmldnjenaa
/- What the encodings and the decodings of packets and messages are to each other. -/
namespace Go.Proofs.Ytkhekmmldnjenaa
namespace VS

def Dt.e : Dt → List Int
  | .i n => enc n
  | .x l => enc l.length ++ l.flatMap ex
  | .b l => enc l.length ++ l
  | .w l => enc l.length ++ l.flatMap enc
def Dt.Ok : Dt → Prop
  | .i n => norm n = n
  | .x l => l.length ≤ 65536 ∧ ∀ p ∈ l, norm p.1 = p.1 ∧ norm p.2 = p.2
  | .b l => l.length ≤ 65536
  | .w l => l.length ≤ 65536 ∧ ∀ n ∈ l, norm n = n

theorem map_id' {α : Type} {f : α → α} : ∀ {l : List α}, (∀ x ∈ l, f x = x) → l.map f = l
  | [], _ => rfl
  | x :: r, h => by rw [List.map_cons, h x (by simp), map_id' fun y hy => h y (by simp [hy])]

theorem rd_back {d : Dt} (h : d.Ok) (r : List Int) : d.k.rd (d.e ++ r) = .ok (d, r) := by
  cases d with
  | i n =>
    have h' : norm n = n := h
    simp only [Dt.k, Dt.e, Fk.rd, num_enc, h']
  | x l =>
    obtain ⟨h1, h2⟩ : l.length ≤ 65536 ∧ ∀ p ∈ l, norm p.1 = p.1 ∧ norm p.2 = p.2 := h
    have := lists_back (f := fun p : Int × Int => (norm p.1, norm p.2)) h1 r (fun p _ r => pairR_ex p r)
    rw [map_id' (fun p hp => by rw [(h2 p hp).1, (h2 p hp).2])] at this
    simp only [Dt.k, Dt.e, Fk.rd, this]
  | b l => simp only [Dt.k, Dt.e, Fk.rd, textR_back h]
  | w l =>
    obtain ⟨h1, h2⟩ : l.length ≤ 65536 ∧ ∀ n ∈ l, norm n = n := h
    have := lists_back (f := norm) h1 r (fun p _ r => num_enc p r)
    rw [map_id' h2] at this
    simp only [Dt.k, Dt.e, Fk.rd, this]

theorem readAll_back : ∀ (ds : List Dt) (r : List Int), (∀ d ∈ ds, d.Ok) → readAll (ds.map Dt.k) (ds.flatMap Dt.e ++ r) = .ok (ds, r)
  | [], r, _ => rfl
  | d :: t, r, h => by
    rw [List.map_cons, List.flatMap_cons, List.append_assoc]
    simp only [readAll, rd_back (h d (by simp)), readAll_back t r fun x hx => h x (by simp [hx])]
theorem readA_back {ds : List Dt} (h : ∀ d ∈ ds, d.Ok) : readA (ds.map Dt.k) (ds.flatMap Dt.e) = .ok ds := by
  have := readAll_back ds [] h
  rw [List.append_nil] at this
  simp only [readA, this, if_true]

theorem rd_once {k : Fk} {l r : List Int} {d : Dt} (hb : Byt l) (h : k.rd l = .ok (d, r)) : l = d.e ++ r := by
  cases k <;> simp only [Fk.rd] at h <;> split at h <;> cases h <;> rename_i hd
  · exact num_once hb hd
  · exact (lists_once pairR_once hb hd).1
  · exact (textR_once hb hd).1
  · exact (lists_once (e := enc) (fun l r a h1 h2 => num_once h1 h2) hb hd).1
theorem readAll_once : ∀ {ks : List Fk} {l r : List Int} {ds : List Dt}, Byt l → readAll ks l = .ok (ds, r) → l = ds.flatMap Dt.e ++ r
  | [], _, _, _, _, h => by simp only [readAll, Except.ok.injEq, Prod.mk.injEq] at h; rw [← h.1, ← h.2]; rfl
  | k :: t, _, _, _, hb, h => by
    simp only [readAll] at h
    split at h
    · rename_i d m hd
      split at h
      · rename_i hq
        cases h
        have e1 := rd_once hb hd
        rw [e1] at hb ⊢
        rw [readAll_once hb.right hq, List.flatMap_cons, List.append_assoc]
      · cases h
    · cases h
theorem readA_once {ks : List Fk} {l : List Int} {ds : List Dt} (hb : Byt l) (h : readA ks l = .ok ds) : l = ds.flatMap Dt.e := by
  unfold readA at h
  split at h
  · rename_i hq
    split at h
    · rename_i hr
      cases h
      have := readAll_once hb hq
      rw [hr, List.append_nil] at this
      exact this
    · cases h
  · cases h

def mapD {α : Type} (f : α → Dt) : Except Int (α × List Int) → Except Int (Dt × List Int)
  | .ok (n, r) => .ok (f n, r)
  | .error e => .error e
theorem rd_mi (l : List Int) : Fk.i.rd l = mapD Dt.i (num l) := by
  simp only [Fk.rd]
  cases num l <;> rfl
theorem rd_mx (l : List Int) : Fk.x.rd l = mapD Dt.x (lists pairR l) := by
  simp only [Fk.rd]
  cases lists pairR l <;> rfl
theorem rd_mb (l : List Int) : Fk.b.rd l = mapD Dt.b (textR l) := by
  simp only [Fk.rd]
  cases textR l <;> rfl
theorem rd_mw (l : List Int) : Fk.w.rd l = mapD Dt.w (lists num l) := by
  simp only [Fk.rd]
  cases lists num l <;> rfl

theorem mapD_pre {α : Type} {R : List Int → Except Int (α × List Int)} (f : α → Dt) (hR : Pre R) : Pre (fun l => mapD f (R l)) := by
  intro l1 l2 a r h
  simp only at h ⊢
  cases hq : R (l1 ++ l2) with
  | error e => rw [hq] at h; cases h
  | ok p =>
    obtain ⟨n, r'⟩ := p
    rw [hq] at h
    simp only [mapD, Except.ok.injEq, Prod.mk.injEq] at h
    obtain ⟨rfl, rfl⟩ := h
    rcases hR l1 l2 n r' hq with ⟨r1, h1, h2⟩ | h1
    · exact .inl ⟨r1, by rw [h1]; rfl, h2⟩
    · exact .inr (by rw [h1]; rfl)

theorem textR_pre : Pre textR := by
  intro l1 l2 a r h
  unfold textR at h ⊢
  cases hq : lenR (l1 ++ l2) with
  | error e => rw [hq] at h; cases h
  | ok p =>
    obtain ⟨n, m⟩ := p
    rw [hq] at h
    simp only at h
    split at h
    · cases h
    · rename_i hn
      cases h
      rcases lenR_pre l1 l2 n m hq with ⟨r1, h1, h2⟩ | h1
      · rw [h1]
        simp only
        by_cases hlt : (r1.length : Int) < n
        · rw [if_pos hlt]; exact .inr rfl
        · rw [if_neg hlt]
          subst h2
          refine .inl ⟨r1.drop n.toNat, ?_, ?_⟩
          · rw [List.take_append_of_le_length (by omega)]
          · rw [List.drop_append_of_le_length (by omega)]
      · rw [h1]; exact .inr rfl

theorem rd_pre (k : Fk) : Pre k.rd := by
  cases k
  · rw [show Fk.i.rd = fun l => mapD Dt.i (num l) from funext rd_mi]; exact mapD_pre _ num_pre
  · rw [show Fk.x.rd = fun l => mapD Dt.x (lists pairR l) from funext rd_mx]; exact mapD_pre _ (lists_pre pairR_pre)
  · rw [show Fk.b.rd = fun l => mapD Dt.b (textR l) from funext rd_mb]; exact mapD_pre _ textR_pre
  · rw [show Fk.w.rd = fun l => mapD Dt.w (lists num l) from funext rd_mw]; exact mapD_pre _ (lists_pre num_pre)

/-- Errors are not 0. -/
def Ne0 {α : Type} (R : List Int → Except Int α) : Prop := ∀ l e, R l = .error e → e ≠ 0
theorem num_ne : Ne0 num := fun l e h => by
  have := numS_err 8 0 0 l e h
  omega
theorem lenR_ne : Ne0 lenR := fun l e h => by
  rcases lenR_err h with h | ⟨rfl, _⟩
  · exact num_ne l e h
  · omega
theorem pairR_ne : Ne0 pairR := fun l e h => by
  rcases pairR_err h with h | ⟨a, m, _, h⟩
  · exact num_ne _ e h
  · exact num_ne _ e h
theorem lst_ne {α : Type} {R : List Int → Except Int (α × List Int)} (hR : Ne0 R) : ∀ k, Ne0 (lst R k)
  | 0, l, e, h => by simp [lst] at h
  | k + 1, l, e, h => by
    simp only [lst] at h
    split at h
    · split at h
      · cases h
      · rename_i hq; cases h; exact lst_ne hR k _ _ hq
    · rename_i hq; cases h; exact hR _ _ hq
theorem lists_ne {α : Type} {R : List Int → Except Int (α × List Int)} (hR : Ne0 R) : Ne0 (lists R) := fun l e h => by
  rcases lists_err h with h | ⟨n, m, _, h⟩
  · exact lenR_ne l e h
  · exact lst_ne hR _ _ _ h
theorem textR_ne : Ne0 textR := fun l e h => by
  unfold textR at h
  split at h
  · split at h
    · cases h; omega
    · cases h
  · rename_i hq; cases h; exact lenR_ne _ _ hq
theorem rd_ne (k : Fk) : Ne0 k.rd := fun l e h => by
  cases k <;> simp only [Fk.rd] at h <;> split at h <;> cases h <;> rename_i hd
  · exact num_ne _ _ hd
  · exact lists_ne pairR_ne _ _ hd
  · exact textR_ne _ _ hd
  · exact lists_ne num_ne _ _ hd
theorem readAll_ne : ∀ ks, Ne0 (readAll ks)
  | [], l, e, h => by simp [readAll] at h
  | k :: t, l, e, h => by
    simp only [readAll] at h
    split at h
    · split at h
      · cases h
      · rename_i hq; cases h; exact readAll_ne t _ _ hq
    · rename_i hq; cases h; exact rd_ne k _ _ hq
theorem readA_ne (ks : List Fk) : Ne0 (readA ks) := fun l e h => by
  unfold readA at h
  split at h
  · split at h
    · cases h
    · cases h; omega
  · rename_i hq; cases h; exact readAll_ne _ _ _ hq
theorem openE_ne : Ne0 openE := fun l e h => by
  unfold openE at h
  split at h
  · cases h; omega
  split at h
  · cases h; omega
  split at h
  · cases h
  · cases h; omega
theorem decR_ne (ks : List Fk) : Ne0 (decR ks) := fun l e h => by
  unfold decR at h
  split at h
  · exact readA_ne _ _ _ h
  · rename_i hq; cases h; exact openE_ne _ _ hq

theorem readAll_pre : ∀ (ks : List Fk), Pre (readAll ks)
  | [], l1, l2, a, r, h => by
    simp only [readAll, Except.ok.injEq, Prod.mk.injEq] at h
    obtain ⟨rfl, rfl⟩ := h
    exact .inl ⟨l1, rfl, rfl⟩
  | k :: t, l1, l2, a, r, h => by
    simp only [readAll] at h ⊢
    split at h
    · rename_i d m hd
      split at h
      · rename_i hq
        cases h
        rcases rd_pre k l1 l2 _ _ hd with ⟨r1, h1, rfl⟩ | h1
        · rcases readAll_pre t r1 l2 _ _ hq with ⟨r2, h2, rfl⟩ | h2
          · exact .inl ⟨r2, by rw [h1]; simp only [h2], rfl⟩
          · exact .inr (by rw [h1]; simp only [h2])
        · exact .inr (by rw [h1])
      · cases h
    · cases h

theorem readA_torn {ks : List Fk} {l : List Int} {ds : List Dt} (h : readA ks l = .ok ds) {k : Nat} (hk : k < l.length) : readA ks (l.take k) = .error 10 := by
  unfold readA at h
  split at h
  · rename_i hq
    split at h
    · rename_i hr
      subst hr
      simp only [readA, torn (readAll_pre ks) hq hk]
    · cases h
  · cases h

theorem take_seal (b : List Int) : (sealB b).take ((sealB b).length - 4) = b := by
  rw [sealB_len, Nat.add_sub_cancel, sealB, List.take_left]
theorem openE_seal {b : List Int} (h : (sealB b).length ≤ 65536) : openE (sealB b) = .ok b := by
  have hl := sealB_len b
  unfold openE
  rw [if_neg (by omega), if_neg (by omega), take_seal, if_pos rfl]
theorem openE_once {l b : List Int} (h : openE l = .ok b) : l = sealB b ∧ l.length ≤ 65536 := by
  unfold openE at h
  split at h
  · cases h
  split at h
  · cases h
  split at h
  · rename_i h1 h2 h3
    cases h
    exact ⟨h3.symm, by omega⟩
  · cases h
theorem sealB_inj {a b : List Int} (h : sealB a = sealB b) : a = b := by
  have h1 := take_seal a
  rw [h, take_seal] at h1
  exact h1.symm

theorem sumB_inj {a b : BitVec 32} (h : sumB a = sumB b) : a = b := by
  simp only [sumB, List.cons.injEq, and_true] at h
  obtain ⟨h1, h2, h3, h4⟩ := h
  have ha := a.isLt
  have hb := b.isLt
  simp only [BitVec.toNat_ushiftRight, Nat.shiftRight_eq_div_pow] at h2 h3 h4
  have e8 : (2 : Nat) ^ 8 = 256 := rfl
  have e16 : (2 : Nat) ^ 16 = 65536 := rfl
  have e24 : (2 : Nat) ^ 24 = 16777216 := rfl
  rw [e8] at h2
  rw [e16] at h3
  rw [e24] at h4
  apply BitVec.eq_of_toNat_eq
  omega

/-- One byte changed is noticed. -/
theorem openE_set {b : List Int} (hb : Byt b) (h : (sealB b).length ≤ 65536) {i : Nat} (hi : i < (sealB b).length) {x : Int} (x0 : 0 ≤ x) (x1 : x < 256) (hx : x ≠ (sealB b)[i]) : openE ((sealB b).set i x) = .error 9 := by
  have hl := sealB_len b
  have hl2 : ((sealB b).set i x).length = (sealB b).length := List.length_set ..
  unfold openE
  rw [hl2, if_neg (by omega), if_neg (by omega), if_neg]
  intro he
  have hn : (sealB b).length - 4 = b.length := by omega
  rw [hn] at he
  by_cases hib : i < b.length
  · have e1 : ((sealB b).set i x).take b.length = b.set i x := by
      rw [sealB, List.set_append_left _ _ hib]
      rw [List.take_left' (by simp)]
    rw [e1] at he
    have e2 : (sealB b).set i x = b.set i x ++ sumB (crc b) := by rw [sealB, List.set_append_left _ _ hib]
    rw [e2, sealB] at he
    have e3 := sumB_inj (List.append_cancel_left he)
    have e4 := crc_set hb hib x0 x1 e3
    have e5 : (sealB b)[i] = b[i] := by simp only [sealB]; rw [List.getElem_append_left hib]
    exact hx (e4.trans e5.symm)
  · have e1 : ((sealB b).set i x).take b.length = b := by
      rw [sealB, List.set_append_right _ _ (by omega), List.take_left]
    rw [e1] at he
    have : x = (sealB b)[i] := by
      have h1 : ((sealB b).set i x)[i]? = some x := by simp [hi]
      rw [← he, List.getElem?_eq_getElem hi] at h1
      exact (Option.some.inj h1).symm
    exact hx this

def dsP (p : Pk) : List Dt := [.i p.kind, .i p.ses, .i p.seq, .i p.ack, .i p.cre, .x p.xs, .b p.bs]
def dsM (p : Ms) : List Dt := [.i p.kind, .i p.frm, .i p.to, .i p.num, .i p.val, .i p.epo, .w p.ns, .b p.bs]
theorem bodP_ds (p : Pk) : bodP p = (dsP p).flatMap Dt.e := by simp [bodP, dsP, Dt.e, encs, List.append_assoc]
theorem bodM_ds (p : Ms) : bodM p = (dsM p).flatMap Dt.e := by simp [bodM, dsM, Dt.e, encs, List.append_assoc]
theorem dsP_eq (p : Pk) : p.Eq (pkOf (dsP p)) := ⟨rfl, rfl, rfl, rfl, rfl, rfl, rfl⟩
theorem dsM_eq (p : Ms) : p.Eq (msOf (dsM p)) := ⟨rfl, rfl, rfl, rfl, rfl, rfl, rfl, rfl⟩

theorem selS_norm {ack : Int} (h0 : 0 ≤ ack) (h1 : ack ≤ 1073741824) : ∀ (xs : List (Int × Int)) (e : Int), ack ≤ e → selS ack e xs = true → ∀ p ∈ xs, norm p.1 = p.1 ∧ norm p.2 = p.2
  | [], _, _, _, p, hp => by simp at hp
  | (s, c) :: r, e, he, h, p, hp => by
    obtain ⟨a1, a2, a3, a4, a5⟩ := selS_cons h
    rcases List.mem_cons.1 hp with rfl | hp
    · exact ⟨norm_id (by show (0 : Int) ≤ s; omega) (by show s < _; omega), norm_id (by show (0 : Int) ≤ c; omega) (by show c < _; omega)⟩
    · exact selS_norm h0 h1 r (s + c) (by omega) a5 p hp

theorem timeB_norm {n : Int} (h : timeB n = true) : norm n = n := by
  have : 0 ≤ n ∧ n ≤ 1073741824 := by simpa [timeB] using h
  exact norm_id this.1 (by omega)
theorem numB_norm {n : Int} (h : numB n = true) : norm n = n := by
  have : 0 ≤ n ∧ n ≤ 9007199254740991 := by simpa [numB] using h
  exact norm_id this.1 (by omega)

theorem dsP_ok {p : Pk} (h : chk p = 0) (hx : p.xs.length ≤ 65536) : ∀ d ∈ dsP p, d.Ok := by
  obtain ⟨k0, k1, t1, t2, t3, c0, c1, hs, hb, _⟩ := chk_ok h
  have ht : 0 ≤ p.ack ∧ p.ack ≤ 1073741824 := by simpa [timeB] using t3
  intro d hd
  simp only [dsP, List.mem_cons, List.not_mem_nil, or_false] at hd
  rcases hd with rfl | rfl | rfl | rfl | rfl | rfl | rfl
  · exact norm_id k0 (by omega)
  · exact timeB_norm t1
  · exact timeB_norm t2
  · exact timeB_norm t3
  · exact norm_id c0 (by omega)
  · exact ⟨hx, selS_norm ht.1 ht.2 _ _ (by omega) hs⟩
  · show p.bs.length ≤ 65536
    omega

theorem chkM_ok {p : Ms} (h : chkM p = 0) : 1 ≤ p.kind ∧ p.kind ≤ 26 ∧ timeB p.frm = true ∧ timeB p.to = true ∧ numB p.num = true ∧ numB p.val = true ∧ numB p.epo = true ∧ p.ns.all numB = true ∧ p.ns.length ≤ 4096 := by
  unfold chkM at h
  split at h
  · omega
  rename_i h1
  split at h
  · omega
  rename_i h2
  split at h
  · omega
  simp only [not_or, Bool.not_eq_false] at h2
  exact ⟨by omega, by omega, h2.1, h2.2.1, h2.2.2.1, h2.2.2.2.1, h2.2.2.2.2.1, h2.2.2.2.2.2, by omega⟩

theorem dsM_ok {p : Ms} (h : chkM p = 0) (hb : p.bs.length ≤ 65536) : ∀ d ∈ dsM p, d.Ok := by
  obtain ⟨k0, k1, t1, t2, t3, t4, t5, hs, hn⟩ := chkM_ok h
  intro d hd
  simp only [dsM, List.mem_cons, List.not_mem_nil, or_false] at hd
  rcases hd with rfl | rfl | rfl | rfl | rfl | rfl | rfl | rfl
  · exact norm_id (by omega) (by omega)
  · exact timeB_norm t1
  · exact timeB_norm t2
  · exact numB_norm t3
  · exact numB_norm t4
  · exact numB_norm t5
  · refine ⟨by omega, fun n hn' => numB_norm ?_⟩
    exact List.all_eq_true.1 hs n hn'
  · exact hb

theorem sealP_le {p : Pk} (h : chk p = 0) (hx : p.xs.length ≤ 40) : (sealB (bodP p)).length ≤ 65536 := by
  obtain ⟨k0, k1, t1, t2, t3, c0, c1, hs, hb, _⟩ := chk_ok h
  rw [sealB_len]
  have h1 := encs_le [p.kind, p.ses, p.seq, p.ack, p.cre]
  have h2 := (enc_length (p.xs.length : Int)).2
  have h3 : (p.xs.flatMap ex).length ≤ 18 * p.xs.length := flat_le fun x _ => ex_le x
  have h4 := (enc_length (p.bs.length : Int)).2
  simp only [bodP, List.length_append, List.length_cons, List.length_nil] at h1 ⊢
  omega

/-- Packets are decoded from their encodings. -/
theorem decP_back {p : Pk} (h : chk p = 0) (hx : p.xs.length ≤ 40) : decP (encP p) = (pkOf (dsP p), 0) := by
  have h1 : openE (sealB (bodP p)) = .ok (bodP p) := openE_seal (sealP_le h hx)
  have h2 : readA kp (bodP p) = .ok (dsP p) := by
    rw [bodP_ds]
    exact readA_back (dsP_ok h (by omega))
  have h3 : chk (pkOf (dsP p)) = 0 := by rw [← chk_eq (dsP_eq p)]; exact h
  unfold decP decR
  rw [encP, if_pos h, h1]
  simp only [h2, h3, if_true]

theorem errM_ok {p : Ms} (h : errM p = 0) : chkM p = 0 ∧ (sealB (bodM p)).length ≤ 65536 := by
  unfold errM at h
  split at h
  · rename_i hc
    split at h
    · omega
    · exact ⟨hc, by omega⟩
  · rename_i hc; exact absurd h hc
theorem bodM_bs (p : Ms) : p.bs.length ≤ (sealB (bodM p)).length := by
  rw [sealB_len]
  simp only [bodM, List.length_append]
  omega

theorem decM_back {p : Ms} (h : errM p = 0) : decM (encM p) = (msOf (dsM p), 0) := by
  obtain ⟨hc, hle⟩ := errM_ok h
  have hbs := bodM_bs p
  have h1 : openE (sealB (bodM p)) = .ok (bodM p) := openE_seal hle
  have h2 : readA km (bodM p) = .ok (dsM p) := by
    rw [bodM_ds]
    exact readA_back (dsM_ok hc (by omega))
  have h3 : chkM (msOf (dsM p)) = 0 := by rw [← chkM_eq (dsM_eq p)]; exact hc
  unfold decM decR
  rw [encM, if_pos h, h1]
  simp only [h2, h3, if_true]

theorem Byt.tk' {l : List Int} (h : Byt l) {b : List Int} (he : l = sealB b) : Byt b := by
  rw [he, sealB] at h
  exact fun x hx => h x (by simp [hx])

theorem decR_once {ks : List Fk} {l : List Int} {ds : List Dt} (hb : Byt l) (h : decR ks l = .ok ds) : l = sealB (ds.flatMap Dt.e) ∧ l.length ≤ 65536 ∧ ds.map Dt.k = ks := by
  unfold decR at h
  split at h
  · rename_i b ho
    obtain ⟨hl, hle⟩ := openE_once ho
    have := readA_once (hb.tk' hl) h
    rw [← this]
    exact ⟨hl, hle, readA_kind h⟩
  · cases h

/-- Bytes that are decoded are the encoding of the result. -/
theorem decP_once {l : List Int} (hb : Byt l) (h : (decP l).2 = 0) : chk (decP l).1 = 0 ∧ encP (decP l).1 = l := by
  unfold decP at h ⊢
  cases hr : decR kp l with
  | error e => rw [hr] at h; exact absurd h (decR_ne _ _ _ hr)
  | ok ds =>
    rw [hr] at h
    simp only at h ⊢
    split at h
    · rename_i hc
      rw [if_pos hc]
      simp only
      refine ⟨hc, ?_⟩
      obtain ⟨hl, _, hk⟩ := decR_once hb hr
      obtain ⟨a, b0, c, d, e, xs, bs, rfl⟩ := shape_p hk
      rw [encP, if_pos hc, bodP_ds]
      exact hl.symm
    · rename_i hc
      exact absurd h hc

theorem decM_once {l : List Int} (hb : Byt l) (h : (decM l).2 = 0) : errM (decM l).1 = 0 ∧ encM (decM l).1 = l := by
  unfold decM at h ⊢
  cases hr : decR km l with
  | error e => rw [hr] at h; exact absurd h (decR_ne _ _ _ hr)
  | ok ds =>
    rw [hr] at h
    simp only at h ⊢
    split at h
    · rename_i hc
      rw [if_pos hc]
      simp only
      obtain ⟨hl, hle, hk⟩ := decR_once hb hr
      obtain ⟨a, b0, c, d, e, f, ns, bs, rfl⟩ := shape_m hk
      have e1 : sealB (bodM (msOf [.i a, .i b0, .i c, .i d, .i e, .i f, .w ns, .b bs])) = l := by
        rw [bodM_ds]; exact hl.symm
      have e2 : errM (msOf [.i a, .i b0, .i c, .i d, .i e, .i f, .w ns, .b bs]) = 0 := by
        rw [errM, if_pos hc, e1, if_neg (by omega)]
      exact ⟨e2, by rw [encM, if_pos e2, e1]⟩
    · rename_i hc
      exact absurd h hc

theorem decP_open {l : List Int} {e : Int} (h : openE l = .error e) : (decP l).2 = e := by
  unfold decP decR; rw [h]
theorem decM_open {l : List Int} {e : Int} (h : openE l = .error e) : (decM l).2 = e := by
  unfold decM decR; rw [h]

/-- An encoding without its last byte is refused. -/
theorem decP_cut {p : Pk} (hb : Byt p.bs) (h : chk p = 0) (hx : p.xs.length ≤ 40) : (decP ((encP p).take ((encP p).length - 1))).2 ≠ 0 := by
  intro h0
  have hsl := sealP_le h hx
  have hl := sealB_len (bodP p)
  have e0 : encP p = sealB (bodP p) := by rw [encP, if_pos h]
  have hbyt : Byt (bodP p) := ((encs_byt _).append ((enc_byt _).append (flatMap_byt fun p _ => ex_byt p))).append ((enc_byt _).append hb)
  rw [e0] at h0
  generalize hl' : (sealB (bodP p)).take ((sealB (bodP p)).length - 1) = l' at h0
  have hbl : Byt l' := by rw [← hl']; exact (sealB_byt hbyt).tk _
  unfold decP at h0
  cases hr : decR kp l' with
  | error e => rw [hr] at h0; exact absurd h0 (decR_ne _ _ _ hr)
  | ok ds =>
    unfold decR at hr
    cases ho : openE l' with
    | error e => rw [ho] at hr; cases hr
    | ok b' =>
      rw [ho] at hr
      simp only at hr
      obtain ⟨h1, _⟩ := openE_once ho
      have hlen : l'.length = (bodP p).length + 3 := by rw [← hl', List.length_take]; omega
      have hb' : b' = (bodP p).take ((bodP p).length - 1) := by
        have h2 := take_seal b'
        rw [← h1] at h2
        have h5 : l'.length - 4 = (bodP p).length - 1 := by omega
        rw [h5] at h2
        rw [← h2, ← hl', List.take_take, Nat.min_eq_left (by omega), sealB, List.take_append_of_le_length (by omega)]
      have h3 : readA kp (bodP p) = .ok (dsP p) := by
        rw [bodP_ds]
        exact readA_back (dsP_ok h (by omega))
      have hpos : 0 < (bodP p).length := by
        have := (enc_length p.kind).1
        simp only [bodP, encs, List.flatMap_cons, List.length_append]
        omega
      have h4 := readA_torn h3 (k := (bodP p).length - 1) (by omega)
      rw [← hb', hr] at h4
      cases h4

end VS
end Go.Proofs.Ytkhekmmldnjenaa
/- The examples of the chapter. -/
namespace Go.Proofs.Ytkhekmmldnjenaa
namespace VS

theorem gaps_eq {p q : Pk} (h : p.Eq q) : gaps p = gaps q := by
  unfold gaps
  rw [chk_eq h, h.ack, h.xs]

def p0 (s : AV) (l : List (Int × Int)) : Pk := { kind := 1, ses := 1, seq := 0, ack := 5, cre := 8, sel := s, pay := .v (.slice none 0 0), xs := l, bs := [] }
def m0 (k v : Int) (b : AV) (l : List Int) : Ms := { kind := k, frm := 0, to := 0, num := 0, val := v, epo := 0, lst := .v (.slice none 0 0), bod := b, ns := [], bs := l }

theorem body0 (s : AV) : bodP (p0 s [(7, 2)]) = [1, 1, 0, 5, 8, 1, 7, 2, 0] := by
  simp only [bodP, p0]
  decide +kernel
theorem chk0 (s : AV) : chk (p0 s [(7, 2)]) = 0 := by
  rw [chk_eq (p := p0 s [(7, 2)]) (q := p0 (.v (.slice none 0 0)) [(7, 2)]) ⟨rfl, rfl, rfl, rfl, rfl, rfl, rfl⟩]
  decide +kernel
theorem chk1 (s : AV) : chk (p0 s [(5, 2)]) = 3 := by
  rw [chk_eq (p := p0 s [(5, 2)]) (q := p0 (.v (.slice none 0 0)) [(5, 2)]) ⟨rfl, rfl, rfl, rfl, rfl, rfl, rfl⟩]
  decide +kernel
theorem gaps0 (s : AV) : gaps (p0 s [(7, 2)]) = [(5, 2)] := by
  rw [gaps, if_pos (chk0 s)]
  rfl
theorem err27 (b : AV) : errM (m0 27 0 b []) = 1 := by
  have : chkM (m0 27 0 b []) = 1 := by rw [chkM_eq (p := m0 27 0 b []) (q := m0 27 0 (.v (.slice none 0 0)) []) ⟨rfl, rfl, rfl, rfl, rfl, rfl, rfl, rfl⟩]; decide +kernel
  rw [errM, this]; rfl
theorem errN (b : AV) : errM (m0 1 (-1) b []) = 2 := by
  have : chkM (m0 1 (-1) b []) = 2 := by rw [chkM_eq (p := m0 1 (-1) b []) (q := m0 1 (-1) (.v (.slice none 0 0)) []) ⟨rfl, rfl, rfl, rfl, rfl, rfl, rfl, rfl⟩]; decide +kernel
  rw [errM, this]; rfl
theorem err3 (b : AV) : errM (m0 1 0 b [3]) = 0 := by
  have h1 : chkM (m0 1 0 b [3]) = 0 := by rw [chkM_eq (p := m0 1 0 b [3]) (q := m0 1 0 (.v (.slice none 0 0)) [3]) ⟨rfl, rfl, rfl, rfl, rfl, rfl, rfl, rfl⟩]; decide +kernel
  have h2 : (sealB (bodM (m0 1 0 b [3]))).length ≤ 65536 := by
    have := bodM_le (p := m0 1 0 b [3]) (by simp [m0]) (by simp [m0])
    rw [sealB_len]
    have h3 : (bodM (m0 1 0 b [3])).length = 9 := by simp only [bodM, m0]; decide +kernel
    omega
  rw [errM, if_pos h1, if_neg (by omega)]

theorem p0_fit {s : AV} {l : List (Int × Int)} (h : IsL 2 s (l.flatMap gx) l.length) : (p0 s l).Fit := ⟨h, .nil, fun b hb => by simp [p0] at hb⟩
theorem m0_fit {k v : Int} {b : AV} {l : List Int} (h : IsB b l) (hl : Byt l) : (m0 k v b l).Fit := ⟨.nil, h, hl⟩

theorem awake12 : callL T 12 [] .mt = some (.ret (.v (.bool true)), .mt) := by
  rw [call_plain T12 rfl rfl rfl]
  have f0 : (p0 (.sl [.v (.int .i64 7), .v (.int .i64 2)] 1 .full) [(7, 2)]).Fit := p0_fit (.sl (by simp) (by simp))
  obtain ⟨y, h18, hy⟩ := enc18 f0 (by simp [p0]) (by simp [p0]) { H := [{ cells := gp (p0 (.sl [.v (.int .i64 7), .v (.int .i64 2)] 1 .full) [(7, 2)]), fz := false }], F := [] }
  have hyb : Byt (encP (p0 (.sl [.v (.int .i64 7), .v (.int .i64 2)] 1 .full) [(7, 2)])) := by rw [encP, if_pos (chk0 _)]; exact sealB_byt (bodP_byt f0)
  have hyl : (encP (p0 (.sl [.v (.int .i64 7), .v (.int .i64 2)] 1 .full) [(7, 2)])).length ≤ 1000000 := by
    rw [encP, if_pos (chk0 _)]
    have := sealP_le (p := p0 (.sl [.v (.int .i64 7), .v (.int .i64 2)] 1 .full) [(7, 2)]) (chk0 _) (by simp [p0])
    omega
  rw [chk0] at h18
  have hfr : IsB (.sl (bys [1, 1, 0, 5, 8, 1, 7, 2, 0]) 9 .full) [1, 1, 0, 5, 8, 1, 7, 2, 0] := .sl (by simp)
  have hbf : Byt [1, 1, 0, 5, 8, 1, 7, 2, 0] := by intro b hb; simp at hb; omega
  have h33 := refSum hfr hbf (by simp) { H := [{ cells := gp (p0 (.sl [.v (.int .i64 7), .v (.int .i64 2)] 1 .full) [(7, 2)]), fz := false }], F := [] }
  obtain ⟨q, hq, heq, h22⟩ := dec22 hy hyb hyl { H := [{ cells := gp (p0 (.sl [.v (.int .i64 7), .v (.int .i64 2)] 1 .full) [(7, 2)]), fz := false }], F := [] }
  rw [decP_back (chk0 _) (by simp [p0])] at heq h22
  have heq2 : (p0 (.sl [.v (.int .i64 7), .v (.int .i64 2)] 1 .full) [(7, 2)]).Eq q := by
    have := dsP_eq (p0 (.sl [.v (.int .i64 7), .v (.int .i64 2)] 1 .full) [(7, 2)])
    exact ⟨this.kind.trans heq.kind.symm, this.ses.trans heq.ses.symm, this.seq.trans heq.seq.symm, this.ack.trans heq.ack.symm, this.cre.trans heq.cre.symm, this.xs.trans heq.xs.symm, this.bs.trans heq.bs.symm⟩
  generalize hs1 : ({ H := [{ cells := gp (p0 (.sl [.v (.int .i64 7), .v (.int .i64 2)] 1 .full) [(7, 2)]), fz := false }, { cells := gp q, fz := false }], F := [] } : St) = s1
  obtain ⟨y1, h29a, _⟩ := enc29 (m0_fit (k := 27) (v := 0) (b := .v (.slice none 0 0)) .nil (l := []) (fun b hb => by simp at hb)) (by simp [m0]) (by simp [m0]) s1
  rw [err27] at h29a
  obtain ⟨y2, h29b, _⟩ := enc29 (m0_fit (k := 1) (v := -1) (b := .v (.slice none 0 0)) .nil (l := []) (fun b hb => by simp at hb)) (by simp [m0]) (by simp [m0]) s1
  rw [errN] at h29b
  have hb3 : Byt [3] := fun b hb => by simp at hb; omega
  have f3 : (m0 1 0 (.sl (bys [3]) 1 .full) [3]).Fit := m0_fit (.sl (by simp)) hb3
  obtain ⟨y3, h29c, hy3⟩ := enc29 f3 (by simp [m0]) (by simp [m0]) s1
  rw [err3] at h29c
  have e3 : encM (m0 1 0 (.sl (bys [3]) 1 .full) [3]) = sealB (bodM (m0 1 0 (.sl (bys [3]) 1 .full) [3])) := by rw [encM, if_pos (err3 _)]
  obtain ⟨n, hn, hne, h24⟩ := dec24 hy3 (by rw [e3]; exact sealB_byt (bodM_byt f3)) (by rw [e3]; have := (errM_ok (err3 (.sl (bys [3]) 1 .full))).2; omega) s1
  rw [decM_back (err3 _)] at hne h24
  have hk : n.kind = 1 := hne.kind
  have hbl : n.bs = [3] := hne.bs
  have hbn := hn.bod.isL.len
  rw [hbl] at hbn
  have happ : opAppend { H := [{ cells := gp (p0 (.sl [.v (.int .i64 7), .v (.int .i64 2)] 1 .full) [(7, 2)]), fz := false }, { cells := gp q, fz := false }, { cells := gm n, fz := false }], F := [] } 1 1 (.sl (bys [1, 1, 0, 5, 8, 1, 7, 2, 0]) 9 .full) (.sl (bys (sumB (crc [1, 1, 0, 5, 8, 1, 7, 2, 0]))) 4 .full) = some (.sl (bys ([1, 1, 0, 5, 8, 1, 7, 2, 0] ++ sumB (crc [1, 1, 0, 5, 8, 1, 7, 2, 0]))) 13 (.own 0 13), { H := [{ cells := gp (p0 (.sl [.v (.int .i64 7), .v (.int .i64 2)] 1 .full) [(7, 2)]), fz := false }, { cells := gp q, fz := false }, { cells := gm n, fz := false }], F := [(13, 1)] }) := by
    simp [opAppend, srcOf, sumB, most47, maxLen, bys]
  have h20 := fun s => bytesEqual' hy (IsB.sl (l := sealB [1, 1, 0, 5, 8, 1, 7, 2, 0]) (t := .own 0 13) (by simp)) hyb (sealB_byt hbf) s
  rw [decide_eq_true (by rw [encP, if_pos (chk0 _), body0]), sealB_len] at h20
  simp only [sealB, List.length_cons, List.length_nil] at h20
  have h8 : shrI .u32 ((crc [1, 1, 0, 5, 8, 1, 7, 2, 0]).toNat : Int) 8 = (((crc [1, 1, 0, 5, 8, 1, 7, 2, 0]) >>> 8).toNat : Int) := shrI_u32 _ 8 (by omega)
  have h16 : shrI .u32 ((crc [1, 1, 0, 5, 8, 1, 7, 2, 0]).toNat : Int) 16 = (((crc [1, 1, 0, 5, 8, 1, 7, 2, 0]) >>> 16).toNat : Int) := shrI_u32 _ 16 (by omega)
  have h24s : shrI .u32 ((crc [1, 1, 0, 5, 8, 1, 7, 2, 0]).toNat : Int) 24 = (((crc [1, 1, 0, 5, 8, 1, 7, 2, 0]) >>> 24).toNat : Int) := shrI_u32 _ 24 (by omega)
  have h26 := fun s => same26 f0 hq heq2 (by simp [p0]) (by simp [p0]) s
  generalize hr0 : crc [1, 1, 0, 5, 8, 1, 7, 2, 0] = r0 at *
  obtain ⟨g, h16g, hg⟩ := gaps16 hq (by rw [← heq2.xs]; simp [p0]) { H := [{ cells := gp (p0 (.sl [.v (.int .i64 5), .v (.int .i64 2)] 1 .full) [(7, 2)]), fz := false }, { cells := gp q, fz := false }, { cells := gm n, fz := false }], F := [(13, 1)] }
  rw [← gaps_eq heq2, gaps0] at hg
  have h15 := fun s => eqExts hg (y := .sl [.v (.int .i64 5), .v (.int .i64 2)] 1 .full) (xs := [(5, 2)]) (.sl (by simp) (by simp)) (by simp) s
  have h13 := fun s => check13 (p0_fit (s := .sl [.v (.int .i64 5), .v (.int .i64 2)] 1 .full) (l := [(5, 2)]) (.sl (by simp) (by simp))) (by simp [p0]) s
  rw [chk1] at h13
  have hz : pkOf (dsP (p0 (.sl [.v (.int .i64 7), .v (.int .i64 2)] 1 .full) [(7, 2)])) = pkOf (dsP (p0 (.sl [.v (.int .i64 7), .v (.int .i64 2)] 1 .full) [(7, 2)])) := rfl
  rw [← hs1] at h29a h29b h29c h24
  obtain ⟨qk, qs, qq, qa, qc, qsel, qpay, qxs, qbs⟩ := q
  obtain ⟨nk, nf, nt, nn, nv, ne, nl, nb, nns, nbs⟩ := n
  simp only at hk
  subst hk
  simp only [gp, gm, p0, m0, bys, List.map_cons, List.map_nil, sumB, List.cons_append, List.nil_append, Nat.reduceAdd, Nat.zero_add] at *
  simp only [inner_eq, s12]
  simp [-Int.natCast_emod, -BitVec.toNat_ushiftRight, St.mt, opStore, opLoad, h18, h33, h22, u32, h29a, h29b, h29c, h24, h8, h16, h24s, wrap_u8, happ, h20, h26, hbn, h16g, h15, h13, dropped, expR]

end VS
end Go.Proofs.Ytkhekmmldnjenaa
/- PacketChecks, PacketEncodes, PacketMessages, PacketDecodes, PacketOnce, PacketBack. -/
namespace Go.Proofs.Ytkhekmmldnjenaa
namespace VS

theorem any_state {f : FuncId} {s : SFn} (hT : T f = some s) (hk : s.kind = .plain) (hl : s.np = 0) {a : AV} (h : callL T f [] .mt = some (.ret a, .mt)) (st : St) : callL T f [] st = some (.ret a, st) := by
  rw [call_plain hT hk (by rw [hl]; rfl) (show expA .mt [] = some ([], .mt) from rfl)] at h
  rw [call_plain hT hk (by rw [hl]; rfl) (show expA st [] = some ([], st) from rfl)]
  generalize inner (runL T) s [] .mt = o at h ⊢
  unfold dropped at h ⊢
  split at h
  · rw [Option.map_eq_some_iff] at h ⊢
    obtain ⟨x, hx, h⟩ := h
    exact ⟨x, hx, by cases h; rfl⟩
  · rw [Option.map_eq_some_iff] at h
    obtain ⟨x, hx, h⟩ := h
    cases h
  · cases h

theorem aw (st : St) : callL T 12 [] st = some (.ret (.v (.bool true)), st) := any_state T12 rfl rfl awake12 st

theorem get_app (H L : List HB) (i : Nat) : (H ++ L)[H.length + i]? = L[i]? := by
  rw [List.getElem?_append_right (by omega), Nat.add_sub_cancel_left]
theorem get_app0 (H L : List HB) : (H ++ L)[H.length]? = L[0]? := get_app H L 0
theorem set_app (H L : List HB) (i : Nat) (x : HB) : (H ++ L).set (H.length + i) x = H ++ L.set i x := by
  rw [List.set_append_right _ _ (by omega), Nat.add_sub_cancel_left]
theorem set_app0 (H L : List HB) (x : HB) : (H ++ L).set H.length x = H ++ L.set 0 x := set_app H L 0 x

/-- PacketChecks -/
theorem law3 {p : Pk} (h : p.Fit) : callL T 3 [.agg (gp p)] .mt = some (.ret (.v (.bool true)), .mt) := by
  obtain ⟨q, hq, e1, e2, e3, e4, e5, e6, e7, hexp, hexp2⟩ := expL_gp h .mt
  rw [call_plain T3 rfl rfl (show expA .mt [.agg (gp p)] = some ([.agg (gp q)], .mt) by simp [expA, exp1, hexp])]
  have hf := few11 hq { H := [{ cells := gp q, fz := false }], F := [] }
  by_cases hfew : q.xs.length ≤ 40 ∧ q.bs.length ≤ 5000
  · rw [decide_eq_true hfew] at hf
    have h13 := fun s => check13 hq (by omega) s
    have h14 := fun s => check14 hq (by omega) s
    obtain ⟨a, ha, hal⟩ := gaps16 hq (by omega) { H := [{ cells := gp q, fz := false }], F := [] }
    obtain ⟨b, hb, hbl⟩ := gaps17 hq (by omega) { H := [{ cells := gp q, fz := false }], F := [] }
    have hlen : (gaps q).length ≤ 1000000 := by
      unfold gaps
      split
      · rw [gapS_len]; omega
      · simp
    have h15 := fun s => eqExts hal hbl hlen s
    simp only [gp] at *
    simp [inner_eq, s3, St.mt, opLoad, hf, h13, h14, ha, hb, h15, aw, dropped, expR]
  · rw [decide_eq_false hfew] at hf
    simp only [gp] at *
    simp [inner_eq, s3, St.mt, opLoad, hf, aw, dropped, expR]

theorem encP_byt {p : Pk} (h : p.Fit) : Byt (encP p) := by
  unfold encP
  split
  · exact sealB_byt (bodP_byt h)
  · exact fun b hb => by simp at hb
theorem encM_byt {p : Ms} (h : p.Fit) : Byt (encM p) := by
  unfold encM
  split
  · exact sealB_byt (bodM_byt h)
  · exact fun b hb => by simp at hb
theorem encP_le {p : Pk} (hx : p.xs.length ≤ 1000000) (hb : p.bs.length ≤ 1000000) : (encP p).length ≤ 20000004 := by
  have := bodP_le hx hb
  unfold encP
  split
  · rw [sealB_len]; omega
  · simp
theorem encM_le {p : Ms} (hx : p.ns.length ≤ 1000000) (hb : p.bs.length ≤ 1000000) : (encM p).length ≤ 65536 := by
  unfold encM
  split
  · rename_i h; exact (errM_ok h).2
  · simp

/-- PacketEncodes -/
theorem law4 {p : Pk} (h : p.Fit) : callL T 4 [.agg (gp p)] .mt = some (.ret (.v (.bool true)), .mt) := by
  obtain ⟨q, hq, e1, e2, e3, e4, e5, e6, e7, hexp, hexp2⟩ := expL_gp h .mt
  rw [call_plain T4 rfl rfl (show expA .mt [.agg (gp p)] = some ([.agg (gp q)], .mt) by simp [expA, exp1, hexp])]
  have hf := few11 hq { H := [{ cells := gp q, fz := false }], F := [] }
  by_cases hfew : q.xs.length ≤ 40 ∧ q.bs.length ≤ 5000
  · rw [decide_eq_true hfew] at hf
    obtain ⟨a, ha, hal⟩ := enc18 hq (by omega) (by omega) { H := [{ cells := gp q, fz := false }], F := [] }
    obtain ⟨b, hb, hbl⟩ := enc19 hq (by omega) (by omega) { H := [{ cells := gp q, fz := false }], F := [] }
    have h20 := fun s => bytesEqual' hal hbl (encP_byt hq) (encP_byt hq) s
    simp only [decide_true] at h20
    simp only [gp] at *
    simp [inner_eq, s4, St.mt, opLoad, hf, ha, hb, h20, aw, dropped, expR]
  · rw [decide_eq_false hfew] at hf
    simp only [gp] at *
    simp [inner_eq, s4, St.mt, opLoad, hf, aw, dropped, expR]

/-- PacketMessages -/
theorem law6 {p : Ms} (h : p.Fit) : callL T 6 [.agg (gm p)] .mt = some (.ret (.v (.bool true)), .mt) := by
  obtain ⟨q, hq, e1, e2, e3, e4, e5, e6, e7, e8, hexp, hexp2⟩ := expL_gm h .mt
  rw [call_plain T6 rfl rfl (show expA .mt [.agg (gm p)] = some ([.agg (gm q)], .mt) by simp [expA, exp1, hexp])]
  have hf := few28 hq { H := [{ cells := gm q, fz := false }], F := [] }
  by_cases hfew : q.ns.length ≤ 5000 ∧ q.bs.length ≤ 70000
  · rw [decide_eq_true hfew] at hf
    obtain ⟨a, ha, hal⟩ := enc29 hq (by omega) (by omega) { H := [{ cells := gm q, fz := false }], F := [] }
    obtain ⟨b, hb, hbl⟩ := enc30 hq (by omega) (by omega) { H := [{ cells := gm q, fz := false }], F := [] }
    have h20 := fun s => bytesEqual' hal hbl (encM_byt hq) (encM_byt hq) s
    simp only [decide_true] at h20
    simp only [gm] at *
    simp [inner_eq, s6, St.mt, opLoad, hf, ha, hb, h20, aw, dropped, expR]
  · rw [decide_eq_false hfew] at hf
    simp only [gm] at *
    simp [inner_eq, s6, St.mt, opLoad, hf, aw, dropped, expR]

theorem Pk.Eq.via {p q r : Pk} (h : p.Eq r) (k : q.Eq r) : p.Eq q := ⟨h.kind.trans k.kind.symm, h.ses.trans k.ses.symm, h.seq.trans k.seq.symm, h.ack.trans k.ack.symm, h.cre.trans k.cre.symm, h.xs.trans k.xs.symm, h.bs.trans k.bs.symm⟩
theorem Ms.Eq.via {p q r : Ms} (h : p.Eq r) (k : q.Eq r) : p.Eq q := ⟨h.kind.trans k.kind.symm, h.frm.trans k.frm.symm, h.to.trans k.to.symm, h.num.trans k.num.symm, h.val.trans k.val.symm, h.epo.trans k.epo.symm, h.ns.trans k.ns.symm, h.bs.trans k.bs.symm⟩

theorem decP_small {l : List Int} (hb : Byt l) : (decP l).1.xs.length ≤ 65536 ∧ (decP l).1.bs.length ≤ 65536 := by
  unfold decP
  cases hr : decR kp l with
  | error e => simp [pkOf]
  | ok ds =>
    obtain ⟨hl, _, hk⟩ := decR_once hb hr
    have hs : ∀ d ∈ ds, d.Small := by
      unfold decR at hr
      split at hr
      · rename_i b ho
        exact readA_small (hb.tk' (openE_once ho).1) hr
      · cases hr
    obtain ⟨a, b0, c, d, e, xs, bs, rfl⟩ := shape_p hk
    simp only
    split
    · exact ⟨hs (.x xs) (by simp), hs (.b bs) (by simp)⟩
    · simp [pkOf]
theorem decM_small {l : List Int} (hb : Byt l) : (decM l).1.ns.length ≤ 65536 ∧ (decM l).1.bs.length ≤ 65536 := by
  unfold decM
  cases hr : decR km l with
  | error e => simp [msOf]
  | ok ds =>
    obtain ⟨hl, _, hk⟩ := decR_once hb hr
    have hs : ∀ d ∈ ds, d.Small := by
      unfold decR at hr
      split at hr
      · rename_i b ho
        exact readA_small (hb.tk' (openE_once ho).1) hr
      · cases hr
    obtain ⟨a, b0, c, d, e, f, ns, bs, rfl⟩ := shape_m hk
    simp only
    split
    · exact ⟨hs (.w ns) (by simp), hs (.b bs) (by simp)⟩
    · simp [msOf]

theorem gp_len (p : Pk) : (gp p).length = 7 := rfl
theorem gm_len (p : Ms) : (gm p).length = 8 := rfl

theorem step5 {ls : List AV} {n i : Nat} {x : AV} {l : List Int} (hx : IsB x l) (hl : Byt l) (hlen : l.length ≤ 100000) (hi : i < n) (hn : n ≤ 10) (hg : ls[i]? = some x) (st : St) :
    ∃ st', runL T (.loop [20, 21, 22] s5b0) { s := [(20, .sl ls n .full), (21, .v (.int .i64 n)), (22, .v (.int .i64 i))], d := [] } st = runL T (.loop [20, 21, 22] s5b0) { s := [(20, .sl ls n .full), (21, .v (.int .i64 n)), (22, .v (.int .i64 (i + 1 : Nat)))], d := [] } st' := by
  have h1 : (i : Int) < n := by omega
  have hw : IntKind.wrap .i64 ((i : Int) + 1) = ((i + 1 : Nat) : Int) := by rw [wrap_i64 (by omega) (by omega)]; omega
  have hsp := decP_small hl
  have hsm := decM_small hl
  obtain ⟨p1, f1, k1, c1⟩ := dec22 hx hl (by omega) st
  obtain ⟨p2, f2, k2, c2⟩ := dec23 hx hl (by omega) { H := st.H ++ [{ cells := gp p1, fz := false }], F := st.F }
  obtain ⟨m1, g1, j1, d1⟩ := dec24 hx hl (by omega) { H := st.H ++ [{ cells := gp p1, fz := false }, { cells := gp p2, fz := false }], F := st.F }
  obtain ⟨m2, g2, j2, d2⟩ := dec25 hx hl (by omega) { H := st.H ++ [{ cells := gp p1, fz := false }, { cells := gp p2, fz := false }, { cells := gm m1, fz := false }], F := st.F }
  have h26 := fun s => same26 f1 f2 (k1.via k2) (by rw [k1.xs]; omega) (by rw [k1.bs]; omega) s
  have h27 := fun s => same27 g1 g2 (j1.via j2) (by rw [j1.ns]; omega) (by rw [j1.bs]; omega) s
  have t1 : List.take 7 (gp p1) = gp p1 := rfl
  have t2 : List.take 7 (gp p2) = gp p2 := rfl
  have t3 : List.take 8 (gm m1) = gm m1 := rfl
  have t4 : List.take 8 (gm m2) = gm m2 := rfl
  refine ⟨{ H := st.H ++ [{ cells := gp p1, fz := false }, { cells := gp p2, fz := false }, { cells := gm m1, fz := false }, { cells := gm m2, fz := false }], F := st.F }, ?_⟩
  rw [runL_loop]
  generalize hL : SCode.loop [20, 21, 22] s5b0 = L
  simp only [s5b0]
  simp [h1, opLoad_ep, hg, c1, c2, d1, d2, opStore, opLoad, gp_len, gm_len, get_app, get_app0, set_app, set_app0, h26, h27, t1, t2, t3, t4, hw]
  subst hL
  refine loop_from ?_
  simp

theorem stop5 {ls : List AV} {n : Nat} (st : St) : ∃ fr', runL T (.loop [20, 21, 22] s5b0) { s := [(20, .sl ls n .full), (21, .v (.int .i64 n)), (22, .v (.int .i64 n))], d := [] } st = some (.ex 0, fr', st) ∧ fr'.only [] = { s := [], d := [] } := by
  refine ⟨?s, ?a, ?b⟩
  case a =>
    rw [runL_loop]
    simp [s5b0]
    rfl
  case b => simp

/-- PacketDecodes -/
theorem law5 {x : AV} {l : List Int} (hx : IsB x l) (hl : Byt l) : callL T 5 [x] .mt = some (.ret (.v (.bool true)), .mt) := by
  obtain ⟨x', hx1, hx2, _⟩ := hx.exps
  rw [call_plain T5 rfl rfl (show expA .mt [x] = some ([x'], .mt) by simp [expA, hx1])]
  have hk := hx2.isL.len
  by_cases hlong : (1000 : Int) < l.length
  · simp [inner_eq, s5, hk, hlong, aw, dropped, expR]
  · obtain ⟨y, s1, h21, hy, hH⟩ := sealed21 hx2 hl (by omega) .mt
    obtain ⟨x2, a1, a2, a3⟩ := hx2.exs
    obtain ⟨y2, b1, b2, b3⟩ := hy.isB.exs
    obtain ⟨s2, r1⟩ := step5 (ls := [x2, y2]) (n := 2) (i := 0) a1 hl (by omega) (by omega) (by omega) rfl s1
    obtain ⟨s3, r2⟩ := step5 (ls := [x2, y2]) (n := 2) (i := 1) b1 (sealB_byt hl) (by rw [sealB_len]; omega) (by omega) (by omega) rfl s2
    obtain ⟨fr', r3, r4⟩ := stop5 (ls := [x2, y2]) (n := 2) s3
    have hu := loop_use ((r1.trans r2).trans r3)
    have o1 := hx2.one
    have o2 := hy.isB.one
    have hxl : expL s1 [x', y] = some ([x2, y2], s1) := by simp only [expL, a2, b2]
    simp only [inner_eq, s5]
    simp [hk, hlong, h21, -AV.cells, -AV.isTup, -expL, -exp0, -clean1, o1, o2, hxl]
    rw [hu _ (by simp)]
    simp [r4, aw, dropped, expR]

theorem step8 {ls : List AV} {n i : Nat} {x : AV} {l : List Int} (hx : IsB x l) (hl : Byt l) (hlen : l.length ≤ 100000) (hi : i < n) (hn : n ≤ 10) (hg : ls[i]? = some x) (st : St) :
    ∃ st', runL T (.loop [20, 21, 22] s8b0) { s := [(20, .sl ls n .full), (21, .v (.int .i64 n)), (22, .v (.int .i64 i))], d := [] } st = runL T (.loop [20, 21, 22] s8b0) { s := [(20, .sl ls n .full), (21, .v (.int .i64 n)), (22, .v (.int .i64 (i + 1 : Nat)))], d := [] } st' := by
  have h1 : (i : Int) < n := by omega
  have hw : IntKind.wrap .i64 ((i : Int) + 1) = ((i + 1 : Nat) : Int) := by rw [wrap_i64 (by omega) (by omega)]; omega
  have hsp := decP_small hl
  have hsm := decM_small hl
  obtain ⟨p1, f1, k1, c1⟩ := dec22 hx hl (by omega) st
  obtain ⟨m1, g1, j1, d1⟩ := dec24 hx hl (by omega) { H := st.H ++ [{ cells := gp p1, fz := false }], F := st.F }
  obtain ⟨y1, e1, ey1⟩ := enc18 f1 (by rw [k1.xs]; omega) (by rw [k1.bs]; omega) { H := st.H ++ [{ cells := gp p1, fz := false }], F := st.F }
  obtain ⟨y2, e2, ey2⟩ := enc29 g1 (by rw [j1.ns]; omega) (by rw [j1.bs]; omega) { H := st.H ++ [{ cells := gp p1, fz := false }, { cells := gm m1, fz := false }], F := st.F }
  have t1 : List.take 7 (gp p1) = gp p1 := rfl
  have t3 : List.take 8 (gm m1) = gm m1 := rfl
  have A : (decP l).2 = 0 → chk p1 = 0 ∧ ∀ s, callL T 20 [x, y1] s = some (.ret (.v (.bool true)), s) := fun h => by
    obtain ⟨a1, a2⟩ := decP_once hl h
    have a3 : encP p1 = l := by
      rw [← a2]
      unfold encP
      rw [chk_eq k1]
      have : bodP p1 = bodP (decP l).1 := by simp only [bodP, k1.kind, k1.ses, k1.seq, k1.ack, k1.cre, k1.xs, k1.bs]
      rw [this]
    refine ⟨(chk_eq k1).trans a1, fun s => ?_⟩
    rw [a3] at ey1
    rw [bytesEqual' hx ey1 hl hl]; simp
  have B : (decM l).2 = 0 → errM m1 = 0 ∧ ∀ s, callL T 20 [x, y2] s = some (.ret (.v (.bool true)), s) := fun h => by
    obtain ⟨a1, a2⟩ := decM_once hl h
    have hb : bodM m1 = bodM (decM l).1 := by simp only [bodM, j1.kind, j1.frm, j1.to, j1.num, j1.val, j1.epo, j1.ns, j1.bs]
    have he : errM m1 = errM (decM l).1 := by unfold errM; rw [chkM_eq j1, hb]
    have a3 : encM m1 = l := by
      rw [← a2]
      unfold encM
      rw [he, hb]
    refine ⟨he.trans a1, fun s => ?_⟩
    rw [a3] at ey2
    rw [bytesEqual' hx ey2 hl hl]; simp
  refine ⟨{ H := st.H ++ [{ cells := gp p1, fz := false }, { cells := gm m1, fz := false }], F := st.F }, ?_⟩
  rw [runL_loop]
  generalize hL : SCode.loop [20, 21, 22] s8b0 = L
  by_cases z1 : (decP l).2 = 0
  · obtain ⟨q1, q2⟩ := A z1
    rw [q1] at e1
    rw [z1] at c1
    by_cases z2 : (decM l).2 = 0
    · obtain ⟨q3, q4⟩ := B z2
      rw [q3] at e2
      rw [z2] at d1
      simp only [s8b0]
      simp [h1, opLoad_ep, hg, c1, d1, e1, e2, q2, q4, opStore, opLoad, gp_len, gm_len, get_app, get_app0, set_app, set_app0, t1, t3, hw]
      subst hL
      refine loop_from ?_
      simp
    · simp only [s8b0]
      simp [h1, opLoad_ep, hg, c1, d1, e1, q2, z2, opStore, opLoad, gp_len, gm_len, get_app, get_app0, set_app, set_app0, t1, t3, hw]
      subst hL
      refine loop_from ?_
      simp
  · by_cases z2 : (decM l).2 = 0
    · obtain ⟨q3, q4⟩ := B z2
      rw [q3] at e2
      rw [z2] at d1
      simp only [s8b0]
      simp [h1, opLoad_ep, hg, c1, d1, e2, q4, z1, opStore, opLoad, gp_len, gm_len, get_app, get_app0, set_app, set_app0, t1, t3, hw]
      subst hL
      refine loop_from ?_
      simp
    · simp only [s8b0]
      simp [h1, opLoad_ep, hg, c1, d1, z1, z2, opStore, opLoad, gp_len, gm_len, get_app, get_app0, set_app, set_app0, t1, t3, hw]
      subst hL
      refine loop_from ?_
      simp

theorem stop8 {ls : List AV} {n : Nat} (st : St) : ∃ fr', runL T (.loop [20, 21, 22] s8b0) { s := [(20, .sl ls n .full), (21, .v (.int .i64 n)), (22, .v (.int .i64 n))], d := [] } st = some (.ex 0, fr', st) ∧ fr'.only [] = { s := [], d := [] } := by
  refine ⟨?s, ?a, ?b⟩
  case a =>
    rw [runL_loop]
    simp [s8b0]
    rfl
  case b => simp

/-- PacketOnce -/
theorem law8 {x : AV} {l : List Int} (hx : IsB x l) (hl : Byt l) : callL T 8 [x] .mt = some (.ret (.v (.bool true)), .mt) := by
  obtain ⟨x', hx1, hx2, _⟩ := hx.exps
  rw [call_plain T8 rfl rfl (show expA .mt [x] = some ([x'], .mt) by simp [expA, hx1])]
  have hk := hx2.isL.len
  by_cases hlong : (1000 : Int) < l.length
  · simp [inner_eq, s8, hk, hlong, aw, dropped, expR]
  · obtain ⟨y, s1, h21, hy, hH⟩ := sealed21 hx2 hl (by omega) .mt
    obtain ⟨x2, a1, a2, a3⟩ := hx2.exs
    obtain ⟨y2, b1, b2, b3⟩ := hy.isB.exs
    obtain ⟨s2, r1⟩ := step8 (ls := [x2, y2]) (n := 2) (i := 0) a1 hl (by omega) (by omega) (by omega) rfl s1
    obtain ⟨s3, r2⟩ := step8 (ls := [x2, y2]) (n := 2) (i := 1) b1 (sealB_byt hl) (by rw [sealB_len]; omega) (by omega) (by omega) rfl s2
    obtain ⟨fr', r3, r4⟩ := stop8 (ls := [x2, y2]) (n := 2) s3
    have hu := loop_use ((r1.trans r2).trans r3)
    have o1 := hx2.one
    have o2 := hy.isB.one
    have hxl : expL s1 [x', y] = some ([x2, y2], s1) := by simp only [expL, a2, b2]
    simp only [inner_eq, s8]
    simp [hk, hlong, h21, -AV.cells, -AV.isTup, -expL, -exp0, -clean1, o1, o2, hxl]
    rw [hu _ (by simp)]
    simp [r4, aw, dropped, expR]

end VS
end Go.Proofs.Ytkhekmmldnjenaa
/- PacketBack, PacketGaps. -/
namespace Go.Proofs.Ytkhekmmldnjenaa
namespace VS

/-- PacketBack -/
theorem law7 {p : Pk} {m : Ms} (h : p.Fit) (k : m.Fit) : callL T 7 [.agg (gp p), .agg (gm m)] .mt = some (.ret (.v (.bool true)), .mt) := by
  obtain ⟨q, hq, _, _, _, _, _, _, _, hexp, _⟩ := expL_gp h .mt
  obtain ⟨w, hw, _, _, _, _, _, _, _, _, hexm, _⟩ := expL_gm k .mt
  rw [call_plain T7 rfl rfl (show expA .mt [.agg (gp p), .agg (gm m)] = some ([.agg (gp q), .agg (gm w)], .mt) by simp [expA, exp1, hexp, hexm])]
  have hf := fun s => few11 hq s
  have hg := fun s => few28 hw s
  have r1 : inner (runL T) s7 [.agg (gp q), .agg (gm w)] .mt = some (.ret (.v (.bool true)), (inner (runL T) s7 [.agg (gp q), .agg (gm w)] .mt).elim .mt fun o => o.2) := by
    by_cases f1 : q.xs.length ≤ 40 ∧ q.bs.length ≤ 5000
    · by_cases f2 : w.ns.length ≤ 5000 ∧ w.bs.length ≤ 70000
      · rw [decide_eq_true f1] at hf
        rw [decide_eq_true f2] at hg
        have h13 := fun s => check13 hq (by omega) s
        obtain ⟨a, ha, hal⟩ := enc18 hq (by omega) (by omega) { H := [{ cells := gp q, fz := false }, { cells := gm w, fz := false }], F := [] }
        have hla := hal.isL.len
        have t1 : List.take 7 (gp q) = gp q := rfl
        have t2 : List.take 8 (gm w) = gm w := rfl
        by_cases c1 : chk q = 0
        · rw [c1] at ha h13
          obtain ⟨q2, hq2, e2, d2⟩ := dec22 hal (encP_byt hq) (by have := sealP_le c1 f1.1; rw [encP, if_pos c1]; omega) { H := [{ cells := gp q, fz := false }, { cells := gm w, fz := false }], F := [] }
          rw [decP_back c1 f1.1] at e2 d2
          have h26 := fun s => same26 hq hq2 ((dsP_eq q).via e2) (by omega) (by omega) s
          obtain ⟨b, hb, hbl⟩ := enc29 hw (by omega) (by omega) { H := [{ cells := gp q, fz := false }, { cells := gm w, fz := false }, { cells := gp q2, fz := false }], F := [] }
          have hlb := hbl.isL.len
          have t3 : List.take 7 (gp q2) = gp q2 := rfl
          by_cases c2 : errM w = 0
          · rw [c2] at hb
            obtain ⟨w2, hw2, e3, d3⟩ := dec24 hbl (encM_byt hw) (by have := encM_le (p := w) (by omega) (by omega); omega) { H := [{ cells := gp q, fz := false }, { cells := gm w, fz := false }, { cells := gp q2, fz := false }], F := [] }
            rw [decM_back c2] at e3 d3
            have h27 := fun s => same27 hw hw2 ((dsM_eq w).via e3) (by omega) (by omega) s
            have t4 : List.take 8 (gm w2) = gm w2 := rfl
            simp [inner_eq, s7, St.mt, opLoad, opStore, gp_len, gm_len, hf, hg, ha, h13, d2, h26, hb, d3, h27, aw, t1, t2, t3, t4]
          · have hz : encM w = [] := by rw [encM, if_neg c2]
            rw [hz] at hlb
            simp [inner_eq, s7, St.mt, opLoad, opStore, gp_len, gm_len, hf, hg, ha, h13, d2, h26, hb, c2, hlb, aw, t1, t2, t3]
        · have hz : encP q = [] := by rw [encP, if_neg c1]
          rw [hz] at hla
          obtain ⟨b, hb, hbl⟩ := enc29 hw (by omega) (by omega) { H := [{ cells := gp q, fz := false }, { cells := gm w, fz := false }], F := [] }
          have hlb := hbl.isL.len
          by_cases c2 : errM w = 0
          · rw [c2] at hb
            obtain ⟨w2, hw2, e3, d3⟩ := dec24 hbl (encM_byt hw) (by have := encM_le (p := w) (by omega) (by omega); omega) { H := [{ cells := gp q, fz := false }, { cells := gm w, fz := false }], F := [] }
            rw [decM_back c2] at e3 d3
            have h27 := fun s => same27 hw hw2 ((dsM_eq w).via e3) (by omega) (by omega) s
            have t4 : List.take 8 (gm w2) = gm w2 := rfl
            simp [inner_eq, s7, St.mt, opLoad, opStore, gp_len, gm_len, hf, hg, ha, h13, c1, hla, hb, d3, h27, aw, t1, t2, t4]
          · have hz : encM w = [] := by rw [encM, if_neg c2]
            rw [hz] at hlb
            simp [inner_eq, s7, St.mt, opLoad, opStore, gp_len, gm_len, hf, hg, ha, h13, c1, hla, hb, c2, hlb, aw, t1, t2]
      · rw [decide_eq_true f1] at hf
        rw [decide_eq_false f2] at hg
        have t1 : List.take 7 (gp q) = gp q := rfl
        have t2 : List.take 8 (gm w) = gm w := rfl
        simp [inner_eq, s7, St.mt, opLoad, gp_len, gm_len, hf, hg, aw, t1, t2]
    · rw [decide_eq_false f1] at hf
      have t1 : List.take 7 (gp q) = gp q := rfl
      simp [inner_eq, s7, St.mt, opLoad, gp_len, hf, aw, t1]
  rw [r1]
  simp [dropped, expR]

/-- How many extents hold a number. -/
def cntS (n : Int) : List (Int × Int) → Int
  | [] => 0
  | (s, c) :: r => (if s ≤ n ∧ n - s < c then 1 else 0) + cntS n r
theorem cntS_range (n : Int) : ∀ l : List (Int × Int), 0 ≤ cntS n l ∧ cntS n l ≤ l.length
  | [] => by simp [cntS]
  | (s, c) :: r => by
    have := cntS_range n r
    simp only [cntS, List.length_cons]
    split <;> omega
theorem cntS_app (n : Int) : ∀ l m : List (Int × Int), cntS n (l ++ m) = cntS n l + cntS n m
  | [], m => by simp [cntS]
  | (s, c) :: r, m => by simp only [List.cons_append, cntS, cntS_app n r m]; omega

def MildX (l : List (Int × Int)) : Prop := ∀ p ∈ l, -4611686018427387904 ≤ p.1 ∧ p.1 ≤ 4611686018427387903

theorem loop32 {xs : List (Int × Int)} {ds : List AV} (t : Tag) (hf : Flat gx 2 xs ds) (n : Int) (n0 : -4611686018427387904 ≤ n) (n1 : n ≤ 4611686018427387903) (hm : MildX xs) (hlen : xs.length ≤ 1000000) : ∀ (k i : Nat) (c : Int) (st : St), i + k = xs.length → 0 ≤ c → c ≤ i →
    ∃ fr' st', runL T (.loop [1, 5, 8, 9, 10] s32b0) { s := [(1, .v (.int .i64 n)), (5, .v (.int .i64 c)), (8, .sl ds xs.length t), (9, .v (.int .i64 xs.length)), (10, .v (.int .i64 i))], d := [] } st = some (.ex 0, fr', st') ∧ fr'.only [5] = { s := [(5, .v (.int .i64 (c + cntS n (xs.drop i))))], d := [] }
  | 0, i, c, st, hi, _, _ => by
    have hd : xs.drop i = [] := List.drop_eq_nil_of_le (by omega)
    refine ⟨?s, st, ?a, ?b⟩
    case a =>
      rw [runL_loop]
      have : ¬ (i : Int) < xs.length := by omega
      simp [s32b0, this]
      rfl
    case b => simp [hd, cntS]
  | k + 1, i, c, st, hi, hc0, hc1 => by
    have hlt : i < xs.length := by omega
    have hd : xs.drop i = xs[i] :: xs.drop (i + 1) := List.drop_eq_getElem_cons hlt
    have hat := hf.at_ i hlt
    have hcs := hf.len
    have h2 : (i : Int) < xs.length := by omega
    have hw : IntKind.wrap .i64 ((i : Int) + 1) = ((i + 1 : Nat) : Int) := by rw [wrap_i64 (by omega) (by omega)]; omega
    have hw1 : IntKind.wrap .i64 (c + 1) = c + 1 := wrap_i64 (by omega) (by omega)
    have hle : i * 2 + 2 ≤ ds.length := by omega
    obtain ⟨m0, m1⟩ := hm xs[i] (List.getElem_mem hlt)
    generalize hx : xs[i] = x at *
    obtain ⟨s, d⟩ := x
    have hw2 : IntKind.wrap .i64 (n - s) = n - s := wrap_i64 (by simp only at m0 m1; omega) (by simp only at m0 m1; omega)
    have hst : opStore { H := st.H ++ [{ cells := [.v (.int .i64 0), .v (.int .i64 0)], fz := false }], F := st.F } 2 (.ptr st.H.length 0) (.agg [.v (.int .i64 s), .v (.int .i64 d)]) = some { H := st.H ++ [{ cells := [.v (.int .i64 s), .v (.int .i64 d)], fz := false }], F := st.F } := opStore_new rfl rfl
    have l0 := load1 (st := { H := st.H ++ [{ cells := [.v (.int .i64 s), .v (.int .i64 d)], fz := false }], F := st.F }) (a := st.H.length) (cs := [.v (.int .i64 s), .v (.int .i64 d)]) (f := false) (by simp) 0
    have l1 := load1 (st := { H := st.H ++ [{ cells := [.v (.int .i64 s), .v (.int .i64 d)], fz := false }], F := st.F }) (a := st.H.length) (cs := [.v (.int .i64 s), .v (.int .i64 d)]) (f := false) (by simp) 1
    simp only [gx] at hat
    rw [hd]
    simp only [cntS]
    by_cases c1 : s ≤ n
    · by_cases c2 : n - s < d
      · obtain ⟨fr', st', hr, hfr⟩ := loop32 t hf n n0 n1 hm hlen k (i + 1) (c + 1) { H := st.H ++ [{ cells := [.v (.int .i64 s), .v (.int .i64 d)], fz := false }], F := st.F } (by omega) (by omega) (by omega)
        refine ⟨fr', st', ?_, by rw [hfr, if_pos ⟨c1, c2⟩, Int.add_assoc]⟩
        rw [runL_loop]
        generalize hL : SCode.loop [1, 5, 8, 9, 10] s32b0 = L
        simp only [s32b0]
        simp [h2, opLoad_ep, hle, hat, hst, l0, l1, c1, c2, hw1, hw2, hw]
        subst hL
        refine (loop_from ?_).trans hr
        simp
      · obtain ⟨fr', st', hr, hfr⟩ := loop32 t hf n n0 n1 hm hlen k (i + 1) c { H := st.H ++ [{ cells := [.v (.int .i64 s), .v (.int .i64 d)], fz := false }], F := st.F } (by omega) (by omega) (by omega)
        refine ⟨fr', st', ?_, by rw [hfr, if_neg (by omega), Int.zero_add]⟩
        rw [runL_loop]
        generalize hL : SCode.loop [1, 5, 8, 9, 10] s32b0 = L
        simp only [s32b0]
        simp [h2, opLoad_ep, hle, hat, hst, l0, l1, c1, c2, hw2, hw]
        subst hL
        refine (loop_from ?_).trans hr
        simp
    · obtain ⟨fr', st', hr, hfr⟩ := loop32 t hf n n0 n1 hm hlen k (i + 1) c { H := st.H ++ [{ cells := [.v (.int .i64 s), .v (.int .i64 d)], fz := false }], F := st.F } (by omega) (by omega) (by omega)
      refine ⟨fr', st', ?_, by rw [hfr, if_neg (by omega), Int.zero_add]⟩
      rw [runL_loop]
      generalize hL : SCode.loop [1, 5, 8, 9, 10] s32b0 = L
      simp only [s32b0]
      simp [h2, opLoad_ep, hle, hat, hst, l0, c1, hw]
      subst hL
      refine (loop_from ?_).trans hr
      simp

/-- in -/
theorem in32 {x : AV} {xs : List (Int × Int)} (hx : IsL 2 x (xs.flatMap gx) xs.length) (n : Int) (n0 : -4611686018427387904 ≤ n) (n1 : n ≤ 4611686018427387903) (hm : MildX xs) (hlen : xs.length ≤ 1000000) (st : St) : callL T 32 [x, .v (.int .i64 n)] st = some (.ret (.v (.int .i64 (cntS n xs))), st) := by
  obtain ⟨x', hx1, hx2, _⟩ := hx.exps
  rw [call_plain T32 rfl rfl (show expA st [x, .v (.int .i64 n)] = some ([x', .v (.int .i64 n)], st) by simp [expA, hx1])]
  have hn := hx2.len
  by_cases h0 : xs.length = 0
  · have : xs = [] := List.eq_nil_of_length_eq_zero h0
    subst this
    simp only [List.length_nil, Int.natCast_zero] at hn
    simp [inner_eq, s32, hn]
    rw [runL_loop]
    simp [s32b0, cntS, dropped, expR]
  · obtain ⟨t, rfl⟩ := hx2.form2 (by omega)
    obtain ⟨fr', st', hr, hfr⟩ := loop32 t (flat_ext xs) n n0 n1 hm hlen xs.length 0 0 .mt (by omega) (by omega) (by omega)
    rw [List.drop_zero, Int.zero_add] at hfr
    have hu := loop_use hr
    simp [inner_eq, s32]
    rw [hu _ (by simp)]
    simp [hfr, dropped, expR]

def endS : Int → List (Int × Int) → Int
  | e, [] => e
  | _, (s, c) :: r => endS (s + c) r

theorem selS_bnd {ack : Int} : ∀ {xs : List (Int × Int)} {e : Int}, ack ≤ e → e ≤ ack + 64 → selS ack e xs = true → e ≤ endS e xs ∧ endS e xs ≤ ack + 64 ∧ (∀ p ∈ xs, e < p.1 ∧ p.1 ≤ ack + 64) ∧ (∀ p ∈ gapS e xs, e ≤ p.1 ∧ p.1 ≤ ack + 64)
  | [], e, h0, h1, _ => by simp [endS, gapS]; omega
  | (s, c) :: r, e, h0, h1, h => by
    obtain ⟨a1, a2, a3, a4, a5⟩ := selS_cons h
    obtain ⟨b1, b2, b3, b4⟩ := selS_bnd (by omega) (by omega) a5
    simp only [endS, gapS]
    refine ⟨by omega, b2, fun p hp => ?_, fun p hp => ?_⟩
    · rcases List.mem_cons.1 hp with rfl | hp
      · exact ⟨a1, a3⟩
      · have := b3 p hp; omega
    · rcases List.mem_cons.1 hp with rfl | hp
      · exact ⟨Int.le_refl _, h1⟩
      · have := b4 p hp; omega

theorem selS_pos {ack : Int} : ∀ {xs : List (Int × Int)} {e : Int}, selS ack e xs = true → ∀ p ∈ xs, 1 ≤ p.2
  | [], _, _, p, hp => by simp at hp
  | (s, c) :: r, e, h, p, hp => by
    obtain ⟨a1, a2, a3, a4, a5⟩ := selS_cons h
    rcases List.mem_cons.1 hp with rfl | hp
    · exact a2
    · exact selS_pos a5 p hp

theorem ite01 (P : Prop) [Decidable P] : ((if P then (1 : Int) else 0) = 1 ∧ P) ∨ ((if P then (1 : Int) else 0) = 0 ∧ ¬ P) := by
  by_cases h : P <;> simp [h]

theorem cnt_all {ack : Int} (n : Int) : ∀ {xs : List (Int × Int)} {e : Int}, ack ≤ e → e ≤ ack + 64 → selS ack e xs = true → cntS n xs + cntS n (gapS e xs) = if e ≤ n ∧ n < endS e xs then 1 else 0
  | [], e, _, _, _ => by
    show (0 : Int) + 0 = if e ≤ n ∧ n < e then 1 else 0
    rw [if_neg (by omega)]; rfl
  | (s, c) :: r, e, h0, h1, h => by
    obtain ⟨a1, a2, a3, a4, a5⟩ := selS_cons h
    have ih := cnt_all n (by omega : ack ≤ s + c) (by omega) a5
    have hb := (selS_bnd (by omega : ack ≤ s + c) (by omega) a5).1
    rw [show endS e ((s, c) :: r) = endS (s + c) r from rfl]
    simp only [cntS, gapS]
    have e1 : (if s ≤ n ∧ n - s < c then (1 : Int) else 0) + cntS n r + ((if e ≤ n ∧ n - e < s - e then 1 else 0) + cntS n (gapS (s + c) r)) = (if s ≤ n ∧ n - s < c then (1 : Int) else 0) + (if e ≤ n ∧ n - e < s - e then 1 else 0) + (cntS n r + cntS n (gapS (s + c) r)) := by omega
    rw [e1, ih]
    generalize endS (s + c) r = E at *
    rcases ite01 (s ≤ n ∧ n - s < c) with ⟨q1, k1⟩ | ⟨q1, k1⟩ <;> rcases ite01 (e ≤ n ∧ n - e < s - e) with ⟨q2, k2⟩ | ⟨q2, k2⟩ <;> rcases ite01 (s + c ≤ n ∧ n < E) with ⟨q3, k3⟩ | ⟨q3, k3⟩ <;> rcases ite01 (e ≤ n ∧ n < E) with ⟨q4, k4⟩ | ⟨q4, k4⟩ <;> rw [q1, q2, q3, q4] <;> omega

theorem cnt_low (n : Int) {ack : Int} : ∀ {xs : List (Int × Int)} {e : Int}, ack ≤ e → e ≤ ack + 64 → selS ack e xs = true → n < e → cntS n (gapS e xs) = 0
  | [], e, _, _, _, _ => rfl
  | (s, c) :: r, e, h0, h1, h, hn => by
    obtain ⟨a1, a2, a3, a4, a5⟩ := selS_cons h
    simp only [gapS, cntS]
    rw [if_neg (by omega), cnt_low n (by omega : ack ≤ s + c) (by omega) a5 (by omega)]
    rfl

theorem endS_last : ∀ (xs : List (Int × Int)) (e : Int) (h : 0 < xs.length), endS e xs = (xs[xs.length - 1]'(by omega)).1 + (xs[xs.length - 1]'(by omega)).2
  | [(s, c)], e, _ => rfl
  | (s, c) :: y :: r, e, _ => by
    have := endS_last (y :: r) (s + c) (by simp)
    simp only [endS] at this ⊢
    exact this

theorem loop10 {q : Pk} (hq : q.Fit) (hc : chk q = 0) (hx : q.xs.length ≤ 40) {z : AV} (hz : IsL 2 z ((gapS q.ack q.xs).flatMap gx) (gapS q.ack q.xs).length) {s c : Int} (he : endS q.ack q.xs = s + c) {st : St} (hst : st.H = [{ cells := gp q, fz := false }, { cells := [.v (.int .i64 s), .v (.int .i64 c)], fz := false }]) (hs : q.ack < s ∧ s ≤ q.ack + 64) : ∀ (k : Nat) (n : Int), n + k = s + c + 1 → q.ack - 1 ≤ n →
    ∃ fr', runL T (.loop [1, 3, 4, 5, 6] s10b0) { s := [(1, .ptr 0 0), (3, z), (4, .fn 32 []), (5, .ptr 1 0), (6, .v (.int .i64 n))], d := [] } st = some (.ex 0, fr', st) ∧ fr'.only [1, 3, 4] = { s := [(1, .ptr 0 0), (3, z), (4, .fn 32 [])], d := [] } := by
  obtain ⟨_, _, _, _, ht, _, _, hsel, _, _⟩ := chk_ok hc
  have ht' : 0 ≤ q.ack ∧ q.ack ≤ 1073741824 := by simpa [timeB] using ht
  obtain ⟨b1, b2, b3, b4⟩ := selS_bnd (Int.le_refl _) (by omega) hsel
  rw [he] at b1 b2
  have w1 : IntKind.wrap .i64 (s + c) = s + c := wrap_i64 (by omega) (by omega)
  have p0 := load1 (st := st) (a := 0) (cs := gp q) (f := false) (by rw [hst]; rfl) 3
  have p5 := load1 (st := st) (a := 0) (cs := gp q) (f := false) (by rw [hst]; rfl) 5
  have l0 := load1 (st := st) (a := 1) (cs := [.v (.int .i64 s), .v (.int .i64 c)]) (f := false) (by rw [hst]; rfl) 0
  have l1 := load1 (st := st) (a := 1) (cs := [.v (.int .i64 s), .v (.int .i64 c)]) (f := false) (by rw [hst]; rfl) 1
  have z0 : IntKind.wrap .i64 0 = 0 := by decide
  have z1 : IntKind.wrap .i64 1 = 1 := by decide
  have g3 : (gp q)[3]? = some (.v (.int .i64 q.ack)) := rfl
  have g5 : (gp q)[5]? = some q.sel := rfl
  intro k
  induction k with
  | zero =>
    intro n hn h0
    refine ⟨?s, ?a, ?b⟩
    case a =>
      have : ¬ n ≤ s + c := by omega
      rw [runL_loop]
      simp [s10b0, l0, l1, w1, this]
      rfl
    case b => simp
  | succ k ih =>
    intro n hn h0
    obtain ⟨fr', hr, hfr⟩ := ih (n + 1) (by omega) (by omega)
    refine ⟨fr', ?_, hfr⟩
    have hle : n ≤ s + c := by omega
    have w2 : IntKind.wrap .i64 (n + 1) = n + 1 := wrap_i64 (by omega) (by omega)
    have i1 := in32 hq.sel n (by omega) (by omega) (fun p hp => by have := b3 p hp; omega) (by omega) st
    have i2 := in32 hz n (by omega) (by omega) (fun p hp => by have := b4 p hp; omega) (by rw [gapS_len]; omega) st
    have hcnt := cnt_all n (Int.le_refl q.ack) (by omega) hsel
    rw [he] at hcnt
    have r1 := cntS_range n q.xs
    have r2 := cntS_range n (gapS q.ack q.xs)
    rw [runL_loop]
    generalize hL : SCode.loop [1, 3, 4, 5, 6] s10b0 = L
    simp only [s10b0]
    by_cases c1 : n < q.ack
    · rw [if_neg (by omega)] at hcnt
      simp [l0, l1, w1, hle, p0, g3, p5, g5, c1, i1, i2, z0, z1, hcnt, w2]
      subst hL
      refine (loop_from ?_).trans hr
      simp
    · by_cases c2 : n = s + c
      · rw [if_neg (by omega)] at hcnt
        subst c2
        simp [l0, l1, w1, p0, g3, p5, g5, c1, i1, i2, z0, z1, hcnt, w2]
        subst hL
        refine (loop_from ?_).trans hr
        simp
      · rw [if_pos (by omega)] at hcnt
        simp [l0, l1, w1, hle, p0, g3, p5, g5, c1, i1, i2, z0, z1, hcnt, w2, c2]
        subst hL
        refine (loop_from ?_).trans hr
        simp

/-- PacketGaps -/
theorem law10 {p : Pk} (h : p.Fit) : callL T 10 [.agg (gp p)] .mt = some (.ret (.v (.bool true)), .mt) := by
  obtain ⟨q, hq, _, _, _, _, _, _, _, hexp, _⟩ := expL_gp h .mt
  rw [call_plain T10 rfl rfl (show expA .mt [.agg (gp p)] = some ([.agg (gp q)], .mt) by simp [expA, exp1, hexp])]
  have hf := fun s => few11 hq s
  have t1 : List.take 7 (gp q) = gp q := rfl
  by_cases f1 : q.xs.length ≤ 40 ∧ q.bs.length ≤ 5000
  · rw [decide_eq_true f1] at hf
    have h13 := fun s => check13 hq (by omega) s
    obtain ⟨z, h16, hz⟩ := gaps16 hq (by omega) { H := [{ cells := gp q, fz := false }], F := [] }
    have hzl := hz.len
    by_cases c1 : chk q = 0
    · rw [c1] at h13
      by_cases c2 : q.xs.length = 0
      · have hn := hq.sel.len
        rw [c2] at hn
        simp only [Int.natCast_zero] at hn
        have hg : gaps q = [] := by
          rw [gaps, if_pos c1, List.eq_nil_of_length_eq_zero c2]; rfl
        rw [hg] at hzl
        have aAll : opLoad { H := [{ cells := gp q, fz := false }], F := [] } (some 7) (.ptr 0 0) = some (.agg (gp q)) := by simp [opLoad, gp]
        have aSel : opLoad { H := [{ cells := gp q, fz := false }], F := [] } none (.ptr 0 5) = some q.sel := by simp [opLoad, gp]
        simp [inner_eq, s10, St.mt, aAll, aSel, hf, h13, h16, hn, hzl, aw, dropped, expR]
      · obtain ⟨t, ht⟩ := hq.sel.form2 (by omega)
        rw [gaps, if_pos c1] at hz
        generalize hx : q.xs[q.xs.length - 1]'(by omega) = x
        obtain ⟨s, c⟩ := x
        have he := endS_last q.xs q.ack (by omega)
        rw [hx] at he
        obtain ⟨_, _, _, _, htm, _, _, hsel, _, _⟩ := chk_ok c1
        have ht' : 0 ≤ q.ack ∧ q.ack ≤ 1073741824 := by simpa [timeB] using htm
        obtain ⟨b1, b2, b3, b4⟩ := selS_bnd (Int.le_refl _) (by omega) hsel
        have hs : q.ack < s ∧ s ≤ q.ack + 64 := b3 (s, c) (by rw [← hx]; exact List.getElem_mem _)
        have hcp : 1 ≤ c := selS_pos hsel (s, c) (by rw [← hx]; exact List.getElem_mem _)
        replace he : endS q.ack q.xs = s + c := he
        rw [he] at b1 b2
        obtain ⟨fr', hr, hfr⟩ := loop10 hq c1 f1.1 hz he (st := { H := [{ cells := gp q, fz := false }, { cells := [.v (.int .i64 s), .v (.int .i64 c)], fz := false }], F := [] }) rfl hs (s + c + 2 - q.ack).toNat (q.ack - 1) (by omega) (by omega)
        have hu := loop_use hr
        have hat := (flat_ext q.xs).at_ (q.xs.length - 1) (by omega)
        rw [hx] at hat
        have hfl := (flat_ext q.xs).len
        have hle : (q.xs.length - 1) * 2 + 2 ≤ (q.xs.flatMap gx).length := by omega
        have hpt : partOf (q.xs.flatMap gx) ((q.xs.length - 1) * 2) (some 2) = some (.agg [.v (.int .i64 s), .v (.int .i64 c)]) := partOf_some hle hat
        have w0 : IntKind.wrap .i64 ((q.xs.length : Int) - 1) = ((q.xs.length - 1 : Nat) : Int) := by rw [wrap_i64 (by omega) (by omega)]; omega
        have w1 : IntKind.wrap .i64 (q.ack - 1) = q.ack - 1 := wrap_i64 (by omega) (by omega)
        have i2 := fun st => in32 hz q.ack (by omega) (by omega) (fun p hp => by have := b4 p hp; omega) (by rw [gapS_len]; omega) st
        have hone : cntS q.ack (gapS q.ack q.xs) = 1 := by
          have h1 := cnt_all q.ack (Int.le_refl q.ack) (by omega) hsel
          rw [he, if_pos (by constructor <;> omega)] at h1
          have h2 : cntS q.ack q.xs = 0 := by
            have : ∀ l : List (Int × Int), (∀ p ∈ l, q.ack < p.1) → cntS q.ack l = 0 := by
              intro l
              induction l with
              | nil => intro _; rfl
              | cons a r ih =>
                intro hl
                obtain ⟨u, v⟩ := a
                have := hl (u, v) (by simp)
                simp only at this
                simp only [cntS]
                rw [if_neg (by omega), ih fun p hp => hl p (by simp [hp])]; rfl
            exact this _ fun p hp => (b3 p hp).1
          omega
        have hla := hq.sel.len
        have aSel : ∀ F, opLoad { H := [{ cells := gp q, fz := false }], F := F } none (.ptr 0 5) = some (.sl (q.xs.flatMap gx) q.xs.length t) := fun F => by simp [opLoad, gp, ht]
        have aAck : ∀ F, opLoad { H := [{ cells := gp q, fz := false }, { cells := [.v (.int .i64 s), .v (.int .i64 c)], fz := false }], F := F } none (.ptr 0 3) = some (.v (.int .i64 q.ack)) := fun F => by simp [opLoad, gp]
        have aAll : opLoad { H := [{ cells := gp q, fz := false }], F := [] } (some 7) (.ptr 0 0) = some (.agg (gp q)) := by simp [opLoad, gp]
        have hst : opStore { H := [{ cells := gp q, fz := false }, { cells := [.v (.int .i64 0), .v (.int .i64 0)], fz := false }], F := [] } 2 (.ptr 1 0) (.agg [.v (.int .i64 s), .v (.int .i64 c)]) = some { H := [{ cells := gp q, fz := false }, { cells := [.v (.int .i64 s), .v (.int .i64 c)], fz := false }], F := [] } := by simp [opStore]
        have hnz : ¬ (q.xs.length : Int) = 0 := by omega
        have hne : q.xs ≠ [] := fun h => c2 (by rw [h]; rfl)
        have hlt : ((q.xs.length - 1 : Nat) : Int) < q.xs.length := by omega
        have h0l : (0 : Int) ≤ ((q.xs.length - 1 : Nat) : Int) := by omega
        rw [hone] at i2
        simp only [inner_eq, s10]
        simp [St.mt, hf, h13, h16, aSel, aAll, hne, w0, hlt, opLoad_ep, hpt, hst, aAck, w1, -partOf]
        rw [hu _ (by simp)]
        simp [hfr, aAck, i2, aw, dropped, expR]
    · have hg : gaps q = [] := by rw [gaps, if_neg c1]
      rw [hg] at hzl
      have aAll : opLoad { H := [{ cells := gp q, fz := false }], F := [] } (some 7) (.ptr 0 0) = some (.agg (gp q)) := by simp [opLoad, gp]
      simp [inner_eq, s10, St.mt, aAll, hf, h13, h16, c1, hzl, aw, dropped, expR]
  · rw [decide_eq_false f1] at hf
    simp [inner_eq, s10, St.mt, opLoad, gp_len, hf, aw, t1, dropped, expR]

end VS
end Go.Proofs.Ytkhekmmldnjenaa
/- Packets and messages, read from the row. -/
namespace Go.Proofs.Ytkhekmmldnjenaa
namespace VS

def pkSh : List Sh := [.int .i64, .int .i64, .int .i64, .int .i64, .int .i64, .list [.int .i64, .int .i64], .list [.int .u8]]
def msSh : List Sh := [.int .i64, .int .i64, .int .i64, .int .i64, .int .i64, .int .i64, .list [.int .i64], .list [.int .u8]]

theorem fit_bytes' {a : AV} (h : Fit (.list [.int .u8]) a) : ∃ l, IsB a l ∧ Byt l := fit_bytes (.one h)

theorem fit_pk {x : AV} (h : FitA (.agg pkSh) x) : ∃ p : Pk, x = .agg (gp p) ∧ p.Fit := by
  cases h with
  | agg h =>
    cases h with | @cons _ _ a0 _ h0 h => cases h with | @cons _ _ a1 _ h1 h => cases h with | @cons _ _ a2 _ h2 h => cases h with | @cons _ _ a3 _ h3 h => cases h with | @cons _ _ a4 _ h4 h => cases h with | @cons _ _ a5 _ h5 h => cases h with | @cons _ _ a6 _ h6 h =>
    cases h
    obtain ⟨xs, k5⟩ := fit_exts h5
    obtain ⟨bs, k6, k7⟩ := fit_bytes' h6
    cases h0 with | @int _ n0 _ => cases h1 with | @int _ n1 _ => cases h2 with | @int _ n2 _ => cases h3 with | @int _ n3 _ => cases h4 with | @int _ n4 _ =>
    exact ⟨{ kind := n0, ses := n1, seq := n2, ack := n3, cre := n4, sel := a5, pay := a6, xs := xs, bs := bs }, rfl, ⟨k5, k6, k7⟩⟩

theorem fit_ms {x : AV} (h : FitA (.agg msSh) x) : ∃ p : Ms, x = .agg (gm p) ∧ p.Fit := by
  cases h with
  | agg h =>
    cases h with | @cons _ _ a0 _ h0 h => cases h with | @cons _ _ a1 _ h1 h => cases h with | @cons _ _ a2 _ h2 h => cases h with | @cons _ _ a3 _ h3 h => cases h with | @cons _ _ a4 _ h4 h => cases h with | @cons _ _ b4 _ g4 h => cases h with | @cons _ _ a5 _ h5 h => cases h with | @cons _ _ a6 _ h6 h =>
    cases h
    obtain ⟨ns, k5⟩ := fit_ints h5
    obtain ⟨bs, k6, k7⟩ := fit_bytes' h6
    cases h0 with | @int _ n0 _ => cases h1 with | @int _ n1 _ => cases h2 with | @int _ n2 _ => cases h3 with | @int _ n3 _ => cases h4 with | @int _ n4 _ => cases g4 with | @int _ n5 _ =>
    exact ⟨{ kind := n0, frm := n1, to := n2, num := n3, val := n4, epo := n5, lst := a5, bod := a6, ns := ns, bs := bs }, rfl, ⟨k5, k6, k7⟩⟩

end VS
end Go.Proofs.Ytkhekmmldnjenaa
