/- Extents, writes, texts; read; the public readers. -/
import Derived.Test.YtohfbjgcfbkgnaaWReadL
import Derived.Test.YtohfbjgcfbkgnaaWListsLaw
namespace Go.Proofs.Ytohfbjgcfbkgnaa
namespace VS

def plw (w : Wr) : (Int × Int) × List (List Int) := ((w.vol, w.start), w.secs)
def wrR (l : List Int) : Except Int (((Int × Int) × List (List Int)) × List Int) := match pairR l with
  | .ok (p, r) => (match lists secR r with
    | .ok (d, r2) => .ok ((p, d), r2)
    | .error e => .error e)
  | .error e => .error e
theorem wrR_ok {l r : List Int} {q : (Int × Int) × List (List Int)} (h : wrR l = .ok (q, r)) : ∃ m, pairR l = .ok (q.1, m) ∧ lists secR m = .ok (q.2, r) := by
  unfold wrR at h
  split at h
  · rename_i p m hn
    split at h
    · rename_i d r2 hm; cases h; exact ⟨m, hn, hm⟩
    · cases h
  · cases h
theorem wrR_err {l : List Int} {e : Int} (h : wrR l = .error e) : pairR l = .error e ∨ ∃ p m, pairR l = .ok (p, m) ∧ lists secR m = .error e := by
  unfold wrR at h
  split at h
  · rename_i p m hn
    split at h
    · cases h
    · rename_i hm; cases h; exact .inr ⟨p, m, hn, hm⟩
  · rename_i hn; cases h; exact .inl hn

def textR (l : List Int) : Except Int (List Int × List Int) := match lenR l with
  | .ok (n, r) => if (r.length : Int) < n then .error 10 else .ok (r.take n.toNat, r.drop n.toNat)
  | .error e => .error e

/-- (*cursor).extent -/
theorem extent76 : Rd 76 pairR (fun _ a v => El 2 gx id (fun _ => True) a v) (Bad 2) := by
  intro b st l hat hb hlen
  have hlt := hat.lt
  have hat1 := hat.alloc (m := [{ cells := [.v (.int .i64 0), .v (.int .i64 0)], fz := false }]) (F := st.F)
  obtain ⟨ok, er⟩ := pair85 b _ l hat1 hb hlen
  refine ⟨fun p r h => ?_, fun e h => ?_⟩
  · obtain ⟨st', h1, h2, h3, h4, h5⟩ := ok _ _ h
    have hblk : st'.H[st.H.length]? = some { cells := [.v (.int .i64 0), .v (.int .i64 0)], fz := false } := (h5.other _ (by omega) (by simp)).trans (by simp)
    have hlt2 := (List.getElem?_eq_some_iff.1 hblk).1
    have hst := store_at (k := 2) (l := [.v (.int .i64 p.1), .v (.int .i64 p.2)]) hblk rfl rfl
    refine ⟨.agg (gx p), { H := st'.H.set st.H.length { cells := [.v (.int .i64 p.1), .v (.int .i64 p.2)], fz := false }, F := st'.F }, ?_, h2.setNe (by omega), h3, h4, (Cur.alloc.trans h5).setNew (Nat.le_refl _), ⟨p, gx p, rfl, rfl, rfl, fun st => rfl, trivial⟩⟩
    rw [call_whole T76 (.inl rfl) rfl]
    simp [inner_eq, s76, h1, hst, hlt2, gx]
  · obtain ⟨h0, x, y, st', h1, h5⟩ := er _ h
    have hblk : st'.H[st.H.length]? = some { cells := [.v (.int .i64 0), .v (.int .i64 0)], fz := false } := (h5.other _ (by omega) (by simp)).trans (by simp)
    have hlt2 := (List.getElem?_eq_some_iff.1 hblk).1
    have hst := store_at (k := 2) (l := [.v (.int .i64 x), .v (.int .i64 y)]) hblk rfl rfl
    refine ⟨h0, .agg [.v (.int .i64 x), .v (.int .i64 y)], { H := st'.H.set st.H.length { cells := [.v (.int .i64 x), .v (.int .i64 y)], fz := false }, F := st'.F }, ?_, (Cur.alloc.trans h5).setNew (Nat.le_refl _), _, rfl, rfl⟩
    rw [call_whole T76 (.inl rfl) rfl]
    simp [inner_eq, s76, h1, hst, hlt2]

/-- (*cursor).sectors -/
theorem sectors67 : Rd 67 (lists secR) (Li 8 bys id Sec) nilV := by
  intro b st l hat hb hlen
  obtain ⟨ok, er⟩ := list86 (F := 87) (fun s (hs : Sec s) => by simp [hs.1]) sector87 b st l hat hb hlen
  refine ⟨fun zs r h => ?_, fun e h => ?_⟩
  · obtain ⟨v, st', h1, h2⟩ := ok _ _ h
    refine ⟨v, st', ?_, h2⟩
    rw [call_whole T67 (.inl rfl) rfl]
    simp [inner_eq, s67, h1]
  · obtain ⟨h0, v, st', h1, h2, rfl⟩ := er _ h
    refine ⟨h0, _, st', ?_, h2, rfl⟩
    rw [call_whole T67 (.inl rfl) rfl]
    simp [inner_eq, s67, h1]

theorem IsL.exps {sz : Nat} {x : AV} {cs : List AV} {n : Nat} (h : IsL sz x cs n) : ∃ y, (∀ st, exp1 st x = some (y, st)) ∧ IsL sz y cs n ∧ (∀ st, exp0 st x = some (y, st)) := by
  cases h with
  | nil => exact ⟨_, fun _ => rfl, .nil, fun _ => rfl⟩
  | sl ht hl => exact ⟨.sl cs n .ro, fun st => by simp [exp1, ht], .sl (by simp) hl, fun st => by simp [ht]⟩
theorem IsL.one {sz : Nat} {x : AV} {cs : List AV} {n : Nat} (h : IsL sz x cs n) : x.isTup = false ∧ x.cells = [x] := by
  cases h <;> simp
theorem IsB.exps {x : AV} {l : List Int} (h : IsB x l) : ∃ y, (∀ st, exp1 st x = some (y, st)) ∧ IsB y l ∧ (∀ st, exp0 st x = some (y, st)) := by
  obtain ⟨y, h1, h2, h3⟩ := h.isL.exps
  exact ⟨y, h1, isB_of h2, h3⟩

/-- (*cursor).write -/
theorem write65 : Rd 65 wrR (fun _ a v => El 3 gw plw Wr.Fit a v) (Bad 3) := by
  intro b st l hat hb hlen
  have hlt := hat.lt
  have hat1 := hat.alloc (m := [{ cells := [.v (.int .i64 0), .v (.int .i64 0), .v (.slice none 0 0)], fz := false }]) (F := st.F)
  obtain ⟨ok, er⟩ := pair85 b _ l hat1 hb hlen
  refine ⟨fun q r h => ?_, fun e h => ?_⟩
  · obtain ⟨m, hp, hd⟩ := wrR_ok h
    obtain ⟨st1, h1, h2, h3, h4, h5⟩ := ok _ _ hp
    obtain ⟨v, st', k1, k2, k3, k4, k5, ss, hss, hA, hsec⟩ := (sectors67 b st1 m h2 h3 (by omega)).1 _ _ hd
    have hcur := h5.trans k5
    have hblk : st'.H[st.H.length]? = some { cells := [.v (.int .i64 0), .v (.int .i64 0), .v (.slice none 0 0)], fz := false } := (hcur.other _ (by omega) (by simp)).trans (by simp)
    have hlt2 := (List.getElem?_eq_some_iff.1 hblk).1
    have hst := store_at (k := 3) (l := [.v (.int .i64 q.1.1), .v (.int .i64 q.1.2), v]) hblk rfl rfl
    obtain ⟨y, hy1, hy2, hy3⟩ := hA.isL.exps
    have hv : v.isTup = false ∧ v.cells = [v] := hA.isL.one
    refine ⟨.agg [.v (.int .i64 q.1.1), .v (.int .i64 q.1.2), v], { H := st'.H.set st.H.length { cells := [.v (.int .i64 q.1.1), .v (.int .i64 q.1.2), v], fz := false }, F := st'.F }, ?_, k2.setNe (by omega), k3, by omega, (Cur.alloc.trans hcur).setNew (Nat.le_refl _),
      ⟨⟨q.1.1, q.1.2, y, ss⟩, [.v (.int .i64 q.1.1), .v (.int .i64 q.1.2), v], ?_, rfl, rfl, fun s => expL_cons rfl (expL_cons rfl ?_), ⟨hy2, hsec⟩⟩⟩
    · rw [call_whole T65 (.inl rfl) rfl]
      simp [inner_eq, s65, h1, k1, hst, hlt2, hv.1, hv.2, -AV.cells, -AV.isTup, AV.cells.eq_2, AV.isTup.eq_2]
    · rw [List.map_id] at hss
      simp [plw, hss]
    · simp only [expL, hy3]
  · rcases wrR_err h with hp | ⟨p, m, hp, hd⟩
    · obtain ⟨h0, x, y, st', h1, h5⟩ := er _ hp
      have hblk : st'.H[st.H.length]? = some { cells := [.v (.int .i64 0), .v (.int .i64 0), .v (.slice none 0 0)], fz := false } := (h5.other _ (by omega) (by simp)).trans (by simp)
      have hlt2 := (List.getElem?_eq_some_iff.1 hblk).1
      have hst := store_at (k := 3) (l := [.v (.int .i64 0), .v (.int .i64 0), .v (.slice none 0 0)]) hblk rfl rfl
      refine ⟨h0, .agg [.v (.int .i64 0), .v (.int .i64 0), .v (.slice none 0 0)], { H := st'.H.set st.H.length { cells := [.v (.int .i64 0), .v (.int .i64 0), .v (.slice none 0 0)], fz := false }, F := st'.F }, ?_, (Cur.alloc.trans h5).setNew (Nat.le_refl _), _, rfl, rfl⟩
      rw [call_whole T65 (.inl rfl) rfl]
      simp [inner_eq, s65, h1, h0, hst, hlt2]
    · obtain ⟨st1, h1, h2, h3, h4, h5⟩ := ok _ _ hp
      obtain ⟨h0, v, st', k1, k2, rfl⟩ := (sectors67 b st1 m h2 h3 (by omega)).2 _ hd
      have hcur := h5.trans k2
      have hblk : st'.H[st.H.length]? = some { cells := [.v (.int .i64 0), .v (.int .i64 0), .v (.slice none 0 0)], fz := false } := (hcur.other _ (by omega) (by simp)).trans (by simp)
      have hlt2 := (List.getElem?_eq_some_iff.1 hblk).1
      have hst := store_at (k := 3) (l := [.v (.int .i64 p.1), .v (.int .i64 p.2), .v (.slice none 0 0)]) hblk rfl rfl
      refine ⟨h0, .agg [.v (.int .i64 p.1), .v (.int .i64 p.2), .v (.slice none 0 0)], { H := st'.H.set st.H.length { cells := [.v (.int .i64 p.1), .v (.int .i64 p.2), .v (.slice none 0 0)], fz := false }, F := st'.F }, ?_, (Cur.alloc.trans hcur).setNew (Nat.le_refl _), _, rfl, rfl⟩
      rw [call_whole T65 (.inl rfl) rfl]
      simp [inner_eq, s65, h1, k1, hst, hlt2]

/-- (*cursor).text -/
theorem text72 : Rd 72 textR (fun st a v => ∃ n, App st 1 v (bys a) n ∧ n = a.length ∧ Byt a) nilV := by
  intro b st l hat hb hlen
  obtain ⟨ok, er⟩ := length84 b st l hat hb hlen
  refine ⟨fun a r h => ?_, fun e h => ?_⟩
  · unfold textR at h
    split at h
    · rename_i n m hn
      split at h
      · cases h
      · rename_i hge
        cases h
        obtain ⟨v, st1, h1, h2, h3, h4, h5, rfl⟩ := ok _ _ hn
        obtain ⟨hnum, hle⟩ := lenR_ok hn
        obtain ⟨h0, _⟩ := num_ok hb hnum
        obtain ⟨v, st2, k1, k2, k3, k4⟩ := (bytes88 h2 n.toNat).1 (by omega)
        rw [show ((n.toNat : Nat) : Int) = n by omega] at k1
        obtain ⟨y, st3, c1, c2, c3⟩ := clone k2.isL (by rw [List.length_take]; omega) st2
        have hrw := call_F T27 rfl c1
        refine ⟨y, st3, ?_, k3.sameH c3, h3.drop _, by rw [List.length_drop]; omega, (h5.trans k4).sameH c3 ((h5.trans k4).rows.trans hrw), _, c2, rfl, h3.take _⟩
        rw [call_whole T72 (.inl rfl) rfl]
        simp [inner_eq, s72, h1, k1, c1]
    · cases h
  · unfold textR at h
    split at h
    · rename_i n m hn
      split at h
      · rename_i hlt
        cases h
        obtain ⟨v, st1, h1, h2, h3, h4, h5, rfl⟩ := ok _ _ hn
        obtain ⟨hnum, hle⟩ := lenR_ok hn
        obtain ⟨h0, _⟩ := num_ok hb hnum
        have k1 := (bytes88 h2 n.toNat).2 (by omega)
        rw [show ((n.toNat : Nat) : Int) = n by omega] at k1
        obtain ⟨y, st3, c1, c2, c3⟩ := clone (IsL.nil (sz := 1) (q := none)) (by omega) st1
        have hy : callL T 27 [.v (.slice none 0 0)] st1 = some (.ret (.v (.slice none 0 0)), st1) := by
          rw [call_keep T27 rfl rfl (show expA st1 [.v (.slice none 0 0)] = some ([.v (.slice none 0 0)], st1) from rfl)]
          simp [inner_eq, s27, kept, expR]
        refine ⟨by omega, _, st1, ?_, h5, rfl⟩
        rw [call_whole T72 (.inl rfl) rfl]
        simp [inner_eq, s72, h1, k1, hy]
      · cases h
    · rename_i hn
      cases h
      obtain ⟨h0, v, st', h1, h2, n, rfl⟩ := er _ hn
      refine ⟨h0, _, st', ?_, h2, rfl⟩
      rw [call_whole T72 (.inl rfl) rfl]
      simp [inner_eq, s72, h1, h0]

theorem lists69 : Rd 69 (lists num) (Li 1 gi id (fun _ => True)) nilV := by
  intro b st l hat hb hlen
  obtain ⟨ok, er⟩ := list70 b st l hat hb hlen
  refine ⟨fun zs r h => ?_, fun e h => ?_⟩
  · obtain ⟨v, st', h1, h2⟩ := ok _ _ h
    refine ⟨v, st', ?_, h2⟩
    rw [call_whole T69 (.inl rfl) rfl]
    simp [inner_eq, s69, h1]
  · obtain ⟨h0, v, st', h1, h2, rfl⟩ := er _ h
    refine ⟨h0, _, st', ?_, h2, rfl⟩
    rw [call_whole T69 (.inl rfl) rfl]
    simp [inner_eq, s69, h1]

theorem lists74 : Rd 74 (lists pairR) (Li 2 gx id (fun _ => True)) nilV := by
  intro b st l hat hb hlen
  obtain ⟨ok, er⟩ := list75 (F := 76) (fun _ _ => rfl) extent76 b st l hat hb hlen
  refine ⟨fun zs r h => ?_, fun e h => ?_⟩
  · obtain ⟨v, st', h1, h2⟩ := ok _ _ h
    refine ⟨v, st', ?_, h2⟩
    rw [call_whole T74 (.inl rfl) rfl]
    simp [inner_eq, s74, h1]
  · obtain ⟨h0, v, st', h1, h2, rfl⟩ := er _ h
    refine ⟨h0, _, st', ?_, h2, rfl⟩
    rw [call_whole T74 (.inl rfl) rfl]
    simp [inner_eq, s74, h1]

theorem lists63 : Rd 63 (lists wrR) (Li 3 gw plw Wr.Fit) nilV := by
  intro b st l hat hb hlen
  obtain ⟨ok, er⟩ := list64 (F := 65) (fun _ _ => rfl) write65 b st l hat hb hlen
  refine ⟨fun zs r h => ?_, fun e h => ?_⟩
  · obtain ⟨v, st', h1, h2⟩ := ok _ _ h
    refine ⟨v, st', ?_, h2⟩
    rw [call_whole T63 (.inl rfl) rfl]
    simp [inner_eq, s63, h1]
  · obtain ⟨h0, v, st', h1, h2, rfl⟩ := er _ h
    refine ⟨h0, _, st', ?_, h2, rfl⟩
    rw [call_whole T63 (.inl rfl) rfl]
    simp [inner_eq, s63, h1]

theorem read60 {α : Type} {F : FuncId} {R : List Int → Except Int (α × List Int)} {rep : St → α → AV → Prop} {bad : AV → Prop} {fin : α → AV → Prop} (hF : Rd F R rep bad) (hfin : ∀ st a v, rep st a v → ∃ y, (∀ s, exp1 s v = some (y, s)) ∧ fin a y)
    {x : AV} {l : List Int} (hx : IsB x l) (hb : Byt l) (hlen : l.length ≤ 274877906944) (st : St) :
    (∀ a r, R l = .ok (a, r) → ∃ v y, callL T 60 [x, .fn F []] st = some (.ret (.tup [v, y, .v (.int .i64 0)]), st) ∧ IsB y r ∧ Byt r ∧ r.length ≤ l.length ∧ fin a v) ∧
    (∀ e, R l = .error e → e ≠ 0 ∧ callL T 60 [x, .fn F []] st = some (.ret (.tup [.v (.int .i64 0), .v (.slice none 0 0), .v (.int .i64 e)]), st)) := by
  obtain ⟨x', hx1, hx2, hx3⟩ := hx.exps
  have hone := hx2.one
  have hat : At 0 { H := [{ cells := [x'], fz := false }], F := [] } l := ⟨x', rfl, hx2⟩
  obtain ⟨ok, er⟩ := hF 0 _ l hat hb (by omega)
  rw [call_plain T60 rfl rfl (expA_cons (hx1 st) (expA_cons (exp1_fn _ _) rfl))]
  refine ⟨fun a r h => ?_, fun e h => ?_⟩
  · obtain ⟨v, st1, h1, ⟨u, hu, hul⟩, h3, h4, h5, hrep⟩ := ok _ _ h
    obtain ⟨w, hw, hwf⟩ := hfin _ _ _ hrep
    obtain ⟨y, st2, c1, c2, _⟩ := clone hul.isL (by omega) st1
    obtain ⟨y', hy1, hy2, _⟩ := c2.isB.exps
    refine ⟨w, y', ?_, hy2, h3, h4, hwf⟩
    simp [inner_eq, s60, mt_H, mt_F, hone.1, hone.2, h1, cur_load hu, c1, dropped, expR, expA, hw, hy1, -AV.cells, -AV.isTup, AV.cells.eq_1, AV.isTup.eq_2]
  · obtain ⟨h0, v, st1, h1, h2, _⟩ := er _ h
    refine ⟨h0, ?_⟩
    simp [inner_eq, s60, mt_H, mt_F, hone.1, hone.2, h1, h0, dropped, expR, expA, -AV.cells, -AV.isTup, AV.cells.eq_1, AV.isTup.eq_2]

theorem read62 {α : Type} {F : FuncId} {R : List Int → Except Int (α × List Int)} {rep : St → α → AV → Prop} {bad : AV → Prop} {fin : α → AV → Prop} (hF : Rd F R rep bad) (hfin : ∀ st a v, rep st a v → ∃ y, (∀ s, exp1 s v = some (y, s)) ∧ fin a y)
    {x : AV} {l : List Int} (hx : IsB x l) (hb : Byt l) (hlen : l.length ≤ 274877906944) (st : St) :
    (∀ a r, R l = .ok (a, r) → ∃ v y, callL T 62 [x, .fn F []] st = some (.ret (.tup [v, y, .v (.int .i64 0)]), st) ∧ IsB y r ∧ Byt r ∧ r.length ≤ l.length ∧ fin a v) ∧
    (∀ e, R l = .error e → e ≠ 0 ∧ callL T 62 [x, .fn F []] st = some (.ret (.tup [.v (.slice none 0 0), .v (.slice none 0 0), .v (.int .i64 e)]), st)) := by
  obtain ⟨x', hx1, hx2, hx3⟩ := hx.exps
  have hone := hx2.one
  have hat : At 0 { H := [{ cells := [x'], fz := false }], F := [] } l := ⟨x', rfl, hx2⟩
  obtain ⟨ok, er⟩ := hF 0 _ l hat hb (by omega)
  rw [call_plain T62 rfl rfl (expA_cons (hx1 st) (expA_cons (exp1_fn _ _) rfl))]
  refine ⟨fun a r h => ?_, fun e h => ?_⟩
  · obtain ⟨v, st1, h1, ⟨u, hu, hul⟩, h3, h4, h5, hrep⟩ := ok _ _ h
    obtain ⟨w, hw, hwf⟩ := hfin _ _ _ hrep
    obtain ⟨y, st2, c1, c2, _⟩ := clone hul.isL (by omega) st1
    obtain ⟨y', hy1, hy2, _⟩ := c2.isB.exps
    refine ⟨w, y', ?_, hy2, h3, h4, hwf⟩
    simp [inner_eq, s62, mt_H, mt_F, hone.1, hone.2, h1, cur_load hu, c1, dropped, expR, expA, hw, hy1, -AV.cells, -AV.isTup, AV.cells.eq_1, AV.isTup.eq_2]
  · obtain ⟨h0, v, st1, h1, h2, _⟩ := er _ h
    refine ⟨h0, ?_⟩
    simp [inner_eq, s62, mt_H, mt_F, hone.1, hone.2, h1, h0, dropped, expR, expA, -AV.cells, -AV.isTup, AV.cells.eq_1, AV.isTup.eq_2]

theorem read66 {α : Type} {F : FuncId} {R : List Int → Except Int (α × List Int)} {rep : St → α → AV → Prop} {bad : AV → Prop} {fin : α → AV → Prop} (hF : Rd F R rep bad) (hfin : ∀ st a v, rep st a v → ∃ y, (∀ s, exp1 s v = some (y, s)) ∧ fin a y)
    {x : AV} {l : List Int} (hx : IsB x l) (hb : Byt l) (hlen : l.length ≤ 274877906944) (st : St) :
    (∀ a r, R l = .ok (a, r) → ∃ v y, callL T 66 [x, .fn F []] st = some (.ret (.tup [v, y, .v (.int .i64 0)]), st) ∧ IsB y r ∧ Byt r ∧ r.length ≤ l.length ∧ fin a v) ∧
    (∀ e, R l = .error e → e ≠ 0 ∧ callL T 66 [x, .fn F []] st = some (.ret (.tup [.v (.slice none 0 0), .v (.slice none 0 0), .v (.int .i64 e)]), st)) := by
  obtain ⟨x', hx1, hx2, hx3⟩ := hx.exps
  have hone := hx2.one
  have hat : At 0 { H := [{ cells := [x'], fz := false }], F := [] } l := ⟨x', rfl, hx2⟩
  obtain ⟨ok, er⟩ := hF 0 _ l hat hb (by omega)
  rw [call_plain T66 rfl rfl (expA_cons (hx1 st) (expA_cons (exp1_fn _ _) rfl))]
  refine ⟨fun a r h => ?_, fun e h => ?_⟩
  · obtain ⟨v, st1, h1, ⟨u, hu, hul⟩, h3, h4, h5, hrep⟩ := ok _ _ h
    obtain ⟨w, hw, hwf⟩ := hfin _ _ _ hrep
    obtain ⟨y, st2, c1, c2, _⟩ := clone hul.isL (by omega) st1
    obtain ⟨y', hy1, hy2, _⟩ := c2.isB.exps
    refine ⟨w, y', ?_, hy2, h3, h4, hwf⟩
    simp [inner_eq, s66, mt_H, mt_F, hone.1, hone.2, h1, cur_load hu, c1, dropped, expR, expA, hw, hy1, -AV.cells, -AV.isTup, AV.cells.eq_1, AV.isTup.eq_2]
  · obtain ⟨h0, v, st1, h1, h2, _⟩ := er _ h
    refine ⟨h0, ?_⟩
    simp [inner_eq, s66, mt_H, mt_F, hone.1, hone.2, h1, h0, dropped, expR, expA, -AV.cells, -AV.isTup, AV.cells.eq_1, AV.isTup.eq_2]

theorem read68 {α : Type} {F : FuncId} {R : List Int → Except Int (α × List Int)} {rep : St → α → AV → Prop} {bad : AV → Prop} {fin : α → AV → Prop} (hF : Rd F R rep bad) (hfin : ∀ st a v, rep st a v → ∃ y, (∀ s, exp1 s v = some (y, s)) ∧ fin a y)
    {x : AV} {l : List Int} (hx : IsB x l) (hb : Byt l) (hlen : l.length ≤ 274877906944) (st : St) :
    (∀ a r, R l = .ok (a, r) → ∃ v y, callL T 68 [x, .fn F []] st = some (.ret (.tup [v, y, .v (.int .i64 0)]), st) ∧ IsB y r ∧ Byt r ∧ r.length ≤ l.length ∧ fin a v) ∧
    (∀ e, R l = .error e → e ≠ 0 ∧ callL T 68 [x, .fn F []] st = some (.ret (.tup [.v (.slice none 0 0), .v (.slice none 0 0), .v (.int .i64 e)]), st)) := by
  obtain ⟨x', hx1, hx2, hx3⟩ := hx.exps
  have hone := hx2.one
  have hat : At 0 { H := [{ cells := [x'], fz := false }], F := [] } l := ⟨x', rfl, hx2⟩
  obtain ⟨ok, er⟩ := hF 0 _ l hat hb (by omega)
  rw [call_plain T68 rfl rfl (expA_cons (hx1 st) (expA_cons (exp1_fn _ _) rfl))]
  refine ⟨fun a r h => ?_, fun e h => ?_⟩
  · obtain ⟨v, st1, h1, ⟨u, hu, hul⟩, h3, h4, h5, hrep⟩ := ok _ _ h
    obtain ⟨w, hw, hwf⟩ := hfin _ _ _ hrep
    obtain ⟨y, st2, c1, c2, _⟩ := clone hul.isL (by omega) st1
    obtain ⟨y', hy1, hy2, _⟩ := c2.isB.exps
    refine ⟨w, y', ?_, hy2, h3, h4, hwf⟩
    simp [inner_eq, s68, mt_H, mt_F, hone.1, hone.2, h1, cur_load hu, c1, dropped, expR, expA, hw, hy1, -AV.cells, -AV.isTup, AV.cells.eq_1, AV.isTup.eq_2]
  · obtain ⟨h0, v, st1, h1, h2, _⟩ := er _ h
    refine ⟨h0, ?_⟩
    simp [inner_eq, s68, mt_H, mt_F, hone.1, hone.2, h1, h0, dropped, expR, expA, -AV.cells, -AV.isTup, AV.cells.eq_1, AV.isTup.eq_2]

theorem read71 {α : Type} {F : FuncId} {R : List Int → Except Int (α × List Int)} {rep : St → α → AV → Prop} {bad : AV → Prop} {fin : α → AV → Prop} (hF : Rd F R rep bad) (hfin : ∀ st a v, rep st a v → ∃ y, (∀ s, exp1 s v = some (y, s)) ∧ fin a y)
    {x : AV} {l : List Int} (hx : IsB x l) (hb : Byt l) (hlen : l.length ≤ 274877906944) (st : St) :
    (∀ a r, R l = .ok (a, r) → ∃ v y, callL T 71 [x, .fn F []] st = some (.ret (.tup [v, y, .v (.int .i64 0)]), st) ∧ IsB y r ∧ Byt r ∧ r.length ≤ l.length ∧ fin a v) ∧
    (∀ e, R l = .error e → e ≠ 0 ∧ callL T 71 [x, .fn F []] st = some (.ret (.tup [.v (.slice none 0 0), .v (.slice none 0 0), .v (.int .i64 e)]), st)) := by
  obtain ⟨x', hx1, hx2, hx3⟩ := hx.exps
  have hone := hx2.one
  have hat : At 0 { H := [{ cells := [x'], fz := false }], F := [] } l := ⟨x', rfl, hx2⟩
  obtain ⟨ok, er⟩ := hF 0 _ l hat hb (by omega)
  rw [call_plain T71 rfl rfl (expA_cons (hx1 st) (expA_cons (exp1_fn _ _) rfl))]
  refine ⟨fun a r h => ?_, fun e h => ?_⟩
  · obtain ⟨v, st1, h1, ⟨u, hu, hul⟩, h3, h4, h5, hrep⟩ := ok _ _ h
    obtain ⟨w, hw, hwf⟩ := hfin _ _ _ hrep
    obtain ⟨y, st2, c1, c2, _⟩ := clone hul.isL (by omega) st1
    obtain ⟨y', hy1, hy2, _⟩ := c2.isB.exps
    refine ⟨w, y', ?_, hy2, h3, h4, hwf⟩
    simp [inner_eq, s71, mt_H, mt_F, hone.1, hone.2, h1, cur_load hu, c1, dropped, expR, expA, hw, hy1, -AV.cells, -AV.isTup, AV.cells.eq_1, AV.isTup.eq_2]
  · obtain ⟨h0, v, st1, h1, h2, _⟩ := er _ h
    refine ⟨h0, ?_⟩
    simp [inner_eq, s71, mt_H, mt_F, hone.1, hone.2, h1, h0, dropped, expR, expA, -AV.cells, -AV.isTup, AV.cells.eq_1, AV.isTup.eq_2]

theorem read73 {α : Type} {F : FuncId} {R : List Int → Except Int (α × List Int)} {rep : St → α → AV → Prop} {bad : AV → Prop} {fin : α → AV → Prop} (hF : Rd F R rep bad) (hfin : ∀ st a v, rep st a v → ∃ y, (∀ s, exp1 s v = some (y, s)) ∧ fin a y)
    {x : AV} {l : List Int} (hx : IsB x l) (hb : Byt l) (hlen : l.length ≤ 274877906944) (st : St) :
    (∀ a r, R l = .ok (a, r) → ∃ v y, callL T 73 [x, .fn F []] st = some (.ret (.tup [v, y, .v (.int .i64 0)]), st) ∧ IsB y r ∧ Byt r ∧ r.length ≤ l.length ∧ fin a v) ∧
    (∀ e, R l = .error e → e ≠ 0 ∧ callL T 73 [x, .fn F []] st = some (.ret (.tup [.v (.slice none 0 0), .v (.slice none 0 0), .v (.int .i64 e)]), st)) := by
  obtain ⟨x', hx1, hx2, hx3⟩ := hx.exps
  have hone := hx2.one
  have hat : At 0 { H := [{ cells := [x'], fz := false }], F := [] } l := ⟨x', rfl, hx2⟩
  obtain ⟨ok, er⟩ := hF 0 _ l hat hb (by omega)
  rw [call_plain T73 rfl rfl (expA_cons (hx1 st) (expA_cons (exp1_fn _ _) rfl))]
  refine ⟨fun a r h => ?_, fun e h => ?_⟩
  · obtain ⟨v, st1, h1, ⟨u, hu, hul⟩, h3, h4, h5, hrep⟩ := ok _ _ h
    obtain ⟨w, hw, hwf⟩ := hfin _ _ _ hrep
    obtain ⟨y, st2, c1, c2, _⟩ := clone hul.isL (by omega) st1
    obtain ⟨y', hy1, hy2, _⟩ := c2.isB.exps
    refine ⟨w, y', ?_, hy2, h3, h4, hwf⟩
    simp [inner_eq, s73, mt_H, mt_F, hone.1, hone.2, h1, cur_load hu, c1, dropped, expR, expA, hw, hy1, -AV.cells, -AV.isTup, AV.cells.eq_1, AV.isTup.eq_2]
  · obtain ⟨h0, v, st1, h1, h2, _⟩ := er _ h
    refine ⟨h0, ?_⟩
    simp [inner_eq, s73, mt_H, mt_F, hone.1, hone.2, h1, h0, dropped, expR, expA, -AV.cells, -AV.isTup, AV.cells.eq_1, AV.isTup.eq_2]

end VS
end Go.Proofs.Ytohfbjgcfbkgnaa
