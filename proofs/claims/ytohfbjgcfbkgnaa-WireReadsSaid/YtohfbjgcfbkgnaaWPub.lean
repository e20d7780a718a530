/- The public readers of wire. -/
import Derived.Test.YtohfbjgcfbkgnaaWPlain
namespace Go.Proofs.Ytohfbjgcfbkgnaa
namespace VS

/-- A public reader. -/
def Pub {α : Type} (f : FuncId) (R : List Int → Except Int (α × List Int)) (fin : α → AV → Prop) (z : AV) : Prop :=
  ∀ {x : AV} {l : List Int}, IsB x l → Byt l → l.length ≤ 274877906944 → ∀ st : St,
    (∀ a r, R l = .ok (a, r) → ∃ v y, callL T f [x] st = some (.ret (.tup [v, y, .v (.int .i64 0)]), st) ∧ IsB y r ∧ Byt r ∧ r.length ≤ l.length ∧ fin a v) ∧
    (∀ e, R l = .error e → e ≠ 0 ∧ callL T f [x] st = some (.ret (.tup [z, .v (.slice none 0 0), .v (.int .i64 e)]), st))

def fInt (n : Int) (v : AV) : Prop := v = .v (.int .i64 n)
def fBytes (a : List Int) (v : AV) : Prop := IsB v a ∧ Byt a
def fInts (ns : List Int) (v : AV) : Prop := IsL 1 v (ints ns) ns.length
def fSecs (ss : List (List Int)) (v : AV) : Prop := IsL 8 v (ss.flatMap bys) ss.length ∧ ∀ s ∈ ss, Sec s
def fExts (xs : List (Int × Int)) (v : AV) : Prop := IsL 2 v (xs.flatMap gx) xs.length
def fWrs (zs : List ((Int × Int) × List (List Int))) (v : AV) : Prop := ∃ ws : List Wr, ws.map plw = zs ∧ IsL 3 v (ws.flatMap gw) ws.length ∧ ∀ w ∈ ws, w.Fit

theorem ints_flat (l : List Int) : l.flatMap gi = ints l := by
  induction l with
  | nil => rfl
  | cons n r ih => rw [List.flatMap_cons, ih]; rfl

theorem sInt (n : Int) (v : AV) (h : fInt n v) : ∃ y, (∀ s, exp1 s v = some (y, s)) ∧ fInt n y := by
  cases h; exact ⟨_, fun _ => rfl, rfl⟩
theorem sBytes (a : List Int) (v : AV) (h : fBytes a v) : ∃ y, (∀ s, exp1 s v = some (y, s)) ∧ fBytes a y := by
  obtain ⟨y, h1, h2, _⟩ := h.1.exps; exact ⟨y, h1, h2, h.2⟩
theorem sInts (a : List Int) (v : AV) (h : fInts a v) : ∃ y, (∀ s, exp1 s v = some (y, s)) ∧ fInts a y := by
  obtain ⟨y, h1, h2, _⟩ := h.exps; exact ⟨y, h1, h2⟩
theorem sSecs (a : List (List Int)) (v : AV) (h : fSecs a v) : ∃ y, (∀ s, exp1 s v = some (y, s)) ∧ fSecs a y := by
  obtain ⟨y, h1, h2, _⟩ := h.1.exps; exact ⟨y, h1, h2, h.2⟩
theorem sExts (a : List (Int × Int)) (v : AV) (h : fExts a v) : ∃ y, (∀ s, exp1 s v = some (y, s)) ∧ fExts a y := by
  obtain ⟨y, h1, h2, _⟩ := IsL.exps h; exact ⟨y, h1, h2⟩
theorem sWrs (a : List ((Int × Int) × List (List Int))) (v : AV) (h : fWrs a v) : ∃ y, (∀ s, exp1 s v = some (y, s)) ∧ fWrs a y := by
  obtain ⟨ws, k0, k1, k2⟩ := h
  obtain ⟨y, h1, h2, _⟩ := k1.exps; exact ⟨y, h1, ws, k0, h2, k2⟩

theorem oInt (_ : St) (n : Int) (v : AV) (h : v = .v (.int .i64 n)) : ∃ y, (∀ s, exp1 s v = some (y, s)) ∧ fInt n y := sInt n v h
theorem oBytes (st : St) (a : List Int) (v : AV) (h : ∃ n, App st 1 v (bys a) n ∧ n = a.length ∧ Byt a) : ∃ y, (∀ s, exp1 s v = some (y, s)) ∧ fBytes a y := by
  obtain ⟨n, h1, rfl, h2⟩ := h
  exact sBytes a v ⟨h1.isB, h2⟩
theorem oInts (st : St) (a : List Int) (v : AV) (h : Li 1 gi id (fun _ => True) st a v) : ∃ y, (∀ s, exp1 s v = some (y, s)) ∧ fInts a y := by
  obtain ⟨xs, h1, h2, _⟩ := h
  rw [List.map_id] at h1
  subst h1
  rw [ints_flat] at h2
  exact sInts xs v h2.isL
theorem oSecs (st : St) (a : List (List Int)) (v : AV) (h : Li 8 bys id Sec st a v) : ∃ y, (∀ s, exp1 s v = some (y, s)) ∧ fSecs a y := by
  obtain ⟨xs, h1, h2, h3⟩ := h
  rw [List.map_id] at h1
  subst h1
  exact sSecs xs v ⟨h2.isL, h3⟩
theorem oExts (st : St) (a : List (Int × Int)) (v : AV) (h : Li 2 gx id (fun _ => True) st a v) : ∃ y, (∀ s, exp1 s v = some (y, s)) ∧ fExts a y := by
  obtain ⟨xs, h1, h2, _⟩ := h
  rw [List.map_id] at h1
  subst h1
  exact sExts xs v h2.isL
theorem oWrs (st : St) (a : List ((Int × Int) × List (List Int))) (v : AV) (h : Li 3 gw plw Wr.Fit st a v) : ∃ y, (∀ s, exp1 s v = some (y, s)) ∧ fWrs a y := by
  obtain ⟨xs, h1, h2, h3⟩ := h
  exact sWrs a v ⟨xs, h1, h2.isL, h3⟩

theorem pub28 : Pub 28 num fInt (.v (.int .i64 0)) := by
  intro x l hx hb hlen st
  obtain ⟨x', hx1, hx2, _⟩ := hx.exps
  obtain ⟨ok, er⟩ := read60 (F := 61) number oInt hx2 hb hlen .mt
  rw [call_plain T28 rfl rfl (expA_cons (hx1 st) rfl)]
  refine ⟨fun a r h => ?_, fun e h => ?_⟩
  · obtain ⟨v, y, h1, h2, h3, h4, h5⟩ := ok _ _ h
    obtain ⟨v', hv1, hv2⟩ := sInt _ _ h5
    obtain ⟨y', hy1, hy2, _⟩ := h2.exps
    refine ⟨v', y', ?_, hy2, h3, h4, hv2⟩
    simp [inner_eq, s28, h1, dropped, expR, expA, hv1, hy1]
  · obtain ⟨h0, h1⟩ := er _ h
    refine ⟨h0, ?_⟩
    simp [inner_eq, s28, h1, dropped, expR, expA]

theorem pub33 : Pub 33 textR fBytes (.v (.slice none 0 0)) := by
  intro x l hx hb hlen st
  obtain ⟨x', hx1, hx2, _⟩ := hx.exps
  obtain ⟨ok, er⟩ := read71 (F := 72) text72 oBytes hx2 hb hlen .mt
  rw [call_plain T33 rfl rfl (expA_cons (hx1 st) rfl)]
  refine ⟨fun a r h => ?_, fun e h => ?_⟩
  · obtain ⟨v, y, h1, h2, h3, h4, h5⟩ := ok _ _ h
    obtain ⟨v', hv1, hv2⟩ := sBytes _ _ h5
    obtain ⟨y', hy1, hy2, _⟩ := h2.exps
    refine ⟨v', y', ?_, hy2, h3, h4, hv2⟩
    simp [inner_eq, s33, h1, dropped, expR, expA, hv1, hy1]
  · obtain ⟨h0, h1⟩ := er _ h
    refine ⟨h0, ?_⟩
    simp [inner_eq, s33, h1, dropped, expR, expA]

theorem pub31 : Pub 31 (lists num) fInts (.v (.slice none 0 0)) := by
  intro x l hx hb hlen st
  obtain ⟨x', hx1, hx2, _⟩ := hx.exps
  obtain ⟨ok, er⟩ := read68 (F := 69) lists69 oInts hx2 hb hlen .mt
  rw [call_plain T31 rfl rfl (expA_cons (hx1 st) rfl)]
  refine ⟨fun a r h => ?_, fun e h => ?_⟩
  · obtain ⟨v, y, h1, h2, h3, h4, h5⟩ := ok _ _ h
    obtain ⟨v', hv1, hv2⟩ := sInts _ _ h5
    obtain ⟨y', hy1, hy2, _⟩ := h2.exps
    refine ⟨v', y', ?_, hy2, h3, h4, hv2⟩
    simp [inner_eq, s31, h1, dropped, expR, expA, hv1, hy1]
  · obtain ⟨h0, h1⟩ := er _ h
    refine ⟨h0, ?_⟩
    simp [inner_eq, s31, h1, dropped, expR, expA]

theorem pub30 : Pub 30 (lists secR) fSecs (.v (.slice none 0 0)) := by
  intro x l hx hb hlen st
  obtain ⟨x', hx1, hx2, _⟩ := hx.exps
  obtain ⟨ok, er⟩ := read66 (F := 67) sectors67 oSecs hx2 hb hlen .mt
  rw [call_plain T30 rfl rfl (expA_cons (hx1 st) rfl)]
  refine ⟨fun a r h => ?_, fun e h => ?_⟩
  · obtain ⟨v, y, h1, h2, h3, h4, h5⟩ := ok _ _ h
    obtain ⟨v', hv1, hv2⟩ := sSecs _ _ h5
    obtain ⟨y', hy1, hy2, _⟩ := h2.exps
    refine ⟨v', y', ?_, hy2, h3, h4, hv2⟩
    simp [inner_eq, s30, h1, dropped, expR, expA, hv1, hy1]
  · obtain ⟨h0, h1⟩ := er _ h
    refine ⟨h0, ?_⟩
    simp [inner_eq, s30, h1, dropped, expR, expA]

theorem pub34 : Pub 34 (lists pairR) fExts (.v (.slice none 0 0)) := by
  intro x l hx hb hlen st
  obtain ⟨x', hx1, hx2, _⟩ := hx.exps
  obtain ⟨ok, er⟩ := read73 (F := 74) lists74 oExts hx2 hb hlen .mt
  rw [call_plain T34 rfl rfl (expA_cons (hx1 st) rfl)]
  refine ⟨fun a r h => ?_, fun e h => ?_⟩
  · obtain ⟨v, y, h1, h2, h3, h4, h5⟩ := ok _ _ h
    obtain ⟨v', hv1, hv2⟩ := sExts _ _ h5
    obtain ⟨y', hy1, hy2, _⟩ := h2.exps
    refine ⟨v', y', ?_, hy2, h3, h4, hv2⟩
    simp [inner_eq, s34, h1, dropped, expR, expA, hv1, hy1]
  · obtain ⟨h0, h1⟩ := er _ h
    refine ⟨h0, ?_⟩
    simp [inner_eq, s34, h1, dropped, expR, expA]

theorem pub29 : Pub 29 (lists wrR) fWrs (.v (.slice none 0 0)) := by
  intro x l hx hb hlen st
  obtain ⟨x', hx1, hx2, _⟩ := hx.exps
  obtain ⟨ok, er⟩ := read62 (F := 63) lists63 oWrs hx2 hb hlen .mt
  rw [call_plain T29 rfl rfl (expA_cons (hx1 st) rfl)]
  refine ⟨fun a r h => ?_, fun e h => ?_⟩
  · obtain ⟨v, y, h1, h2, h3, h4, h5⟩ := ok _ _ h
    obtain ⟨v', hv1, hv2⟩ := sWrs _ _ h5
    obtain ⟨y', hy1, hy2, _⟩ := h2.exps
    refine ⟨v', y', ?_, hy2, h3, h4, hv2⟩
    simp [inner_eq, s29, h1, dropped, expR, expA, hv1, hy1]
  · obtain ⟨h0, h1⟩ := er _ h
    refine ⟨h0, ?_⟩
    simp [inner_eq, s29, h1, dropped, expR, expA]

end VS
end Go.Proofs.Ytohfbjgcfbkgnaa
