/- Sectors, extents, writes: put and ref.Put. -/
import Derived.Test.YtohfbjgcfbkgnaaWList
namespace Go.Proofs.Ytohfbjgcfbkgnaa
namespace VS

theorem cleanL_bys : ∀ (l : List Int), cleanL (bys l) = some (bys l)
  | [] => rfl
  | b :: r => by
    have := cleanL_bys r
    unfold bys at this ⊢
    simp [cleanL, this]

def Sec (s : List Int) : Prop := s.length = 8 ∧ Byt s
def gx (p : Int × Int) : List AV := [.v (.int .i64 p.1), .v (.int .i64 p.2)]
def ex (p : Int × Int) : List Int := enc p.1 ++ enc p.2
structure Wr where
  vol : Int
  start : Int
  dat : AV
  secs : List (List Int)
def gw (w : Wr) : List AV := [.v (.int .i64 w.vol), .v (.int .i64 w.start), w.dat]
def es (l : List (List Int)) : List Int := enc l.length ++ l.flatMap id
def ew (w : Wr) : List Int := enc w.vol ++ enc w.start ++ es w.secs
structure Wr.Ok (w : Wr) : Prop where
  isL : IsL 8 w.dat (w.secs.flatMap bys) w.secs.length
  sec : ∀ s ∈ w.secs, Sec s
  few : w.secs.length ≤ 1000

theorem es_le {l : List (List Int)} (h : ∀ s ∈ l, Sec s) : (es l).length ≤ 9 + 8 * l.length := by
  have : (l.flatMap id).length ≤ 8 * l.length := by
    induction l with
    | nil => simp
    | cons s r ih =>
      have h1 := (h s (by simp)).1
      have := ih fun x hx => h x (by simp [hx])
      rw [List.flatMap_cons, List.length_append, List.length_cons]
      simp only [id]; omega
  have := (enc_length l.length).2
  unfold es
  rw [List.length_append]; omega
theorem ex_le (p : Int × Int) : (ex p).length ≤ 18 := by
  have := (enc_length p.1).2
  have := (enc_length p.2).2
  simp only [ex, List.length_append]; omega
theorem ew_le {w : Wr} (h : w.Ok) : (ew w).length ≤ 8027 := by
  have := (enc_length w.vol).2
  have := (enc_length w.start).2
  have := es_le h.sec
  have := h.few
  simp only [ew, List.length_append]; omega

theorem flatMap_byt {α : Type} {e : α → List Int} {l : List α} (h : ∀ x ∈ l, Byt (e x)) : Byt (l.flatMap e) := by
  intro b hb
  obtain ⟨x, hx, hb⟩ := List.mem_flatMap.1 hb
  exact h x hx b hb
theorem es_byt {l : List (List Int)} (h : ∀ s ∈ l, Sec s) : Byt (es l) := (enc_byt _).append (flatMap_byt fun s hs => (h s hs).2)
theorem ex_byt (p : Int × Int) : Byt (ex p) := (enc_byt _).append (enc_byt _)
theorem ew_byt {w : Wr} (h : w.Ok) : Byt (ew w) := ((enc_byt _).append (enc_byt _)).append (es_byt h.sec)

theorem flat_sec {l : List (List Int)} (h : ∀ s ∈ l, Sec s) : Flat bys 8 l (l.flatMap bys) := flat_of fun s hs => by simp [(h s hs).1]
theorem flat_ext (l : List (Int × Int)) : Flat gx 2 l (l.flatMap gx) := flat_of fun _ _ => rfl
theorem flat_wr (l : List Wr) : Flat gw 3 l (l.flatMap gw) := flat_of fun _ _ => rfl

/-- a sector, put -/
theorem put55 {s : List Int} (hs : Sec s) {y : AV} {cs : List AV} {m : Nat} {st : St} (hy : App st 1 y cs m) (hm : m ≤ 274877906944) :
    ∃ z st', callL T 55 [y, .agg (bys s)] st = some (.ret z, st') ∧ App st' 1 z (cs ++ bys (id s)) (m + (id s).length) := by
  have h8 := hs.1
  have hl : (bys s).length = 8 := by simp [h8]
  have htk : (bys s).take 8 = bys s := List.take_of_length_le (by omega)
  obtain ⟨z, st', hap, hA, _⟩ := app_append (st := { H := st.H ++ [{ cells := bys s, fz := true }], F := st.F }) (bytes := 1) (hy.move rfl) (y := .sl (bys s) 8 .ro) (ds := bys s) (m := 8) (.sl (by simp) (by simp [h8])) (by omega) (by simp only [most47]; omega) (by omega)
  refine ⟨z, st', ?_, by rw [id, h8]; exact hA⟩
  rw [call_whole T55 (.inl rfl) rfl]
  simp [inner_eq, s55, htk, cleanL_bys, St.freeze, hap, h8]

/-- an extent, put -/
theorem put57 (p : Int × Int) {y : AV} {cs : List AV} {m : Nat} {st : St} (hy : App st 1 y cs m) (hm : m ≤ 274877906944) :
    ∃ z st', callL T 57 [y, .agg (gx p)] st = some (.ret z, st') ∧ App st' 1 z (cs ++ bys (ex p)) (m + (ex p).length) := by
  have hle := (enc_length p.1).2
  obtain ⟨u, st1, h1, hA, hH⟩ := putInt (st := { H := st.H ++ [{ cells := gx p, fz := false }], F := st.F }) p.1 (hy.move rfl) (by omega)
  obtain ⟨z, st2, h2, hB, _⟩ := putInt p.2 hA (by omega)
  refine ⟨z, st2, ?_, by rw [ex, bys_append, List.length_append, ← List.append_assoc, ← Nat.add_assoc]; exact hB⟩
  rw [call_whole T57 (.inl rfl) rfl]
  simp only [gx] at h1 hH
  simp [inner_eq, s57, gx, h1, h2, opLoad, hH]

theorem put54s {l : List (List Int)} {x y : AV} {cs : List AV} {m : Nat} {st : St} (hl : ∀ s ∈ l, Sec s) (hlen : l.length ≤ 1000000) (hx : App st 1 x cs m) (hy : IsL 8 y (l.flatMap bys) l.length) (hm : m ≤ 68719476736) :
    ∃ z st', callL T 54 [x, y, .fn 55 []] st = some (.ret z, st') ∧ App st' 1 z (cs ++ bys (es l)) (m + (es l).length) :=
  put54 (B := 8) (flat_sec hl) hlen (fun s hs => by rw [id, (hl s hs).1]; omega) (fun s hs => by simp [(hl s hs).1]) (fun s hs _ _ _ _ hy hm => put55 (hl s hs) hy (by omega)) hx hy (by omega)

theorem put56s {l : List (Int × Int)} {x y : AV} {cs : List AV} {m : Nat} {st : St} (hlen : l.length ≤ 1000000) (hx : App st 1 x cs m) (hy : IsL 2 y (l.flatMap gx) l.length) (hm : m ≤ 68719476736) :
    ∃ z st', callL T 56 [x, y, .fn 57 []] st = some (.ret z, st') ∧ App st' 1 z (cs ++ bys (enc l.length ++ l.flatMap ex)) (m + (enc l.length ++ l.flatMap ex).length) :=
  put56 (B := 18) (flat_ext l) hlen (fun p _ => ex_le p) (fun _ _ => rfl) (fun p _ _ _ _ _ hy hm => put57 p hy (by omega)) hx hy (by omega)

/-- a write, put -/
theorem put59 {w : Wr} (hw : w.Ok) {y : AV} {cs : List AV} {m : Nat} {st : St} (hy : App st 1 y cs m) (hm : m ≤ 34359738368) :
    ∃ z st', callL T 59 [y, .agg (gw w)] st = some (.ret z, st') ∧ App st' 1 z (cs ++ bys (ew w)) (m + (ew w).length) := by
  have hle := (enc_length w.vol).2
  have hle2 := (enc_length w.start).2
  obtain ⟨u, st1, h1, hA, hH⟩ := putInt (st := { H := st.H ++ [{ cells := gw w, fz := false }], F := st.F }) w.vol (hy.move rfl) (by omega)
  obtain ⟨v, st2, h2, hB, hH2⟩ := putInt w.start hA (by omega)
  have hf := hw.few
  obtain ⟨z, st3, h3, hC⟩ := put54s hw.sec (by omega) hB hw.isL (by omega)
  refine ⟨z, st3, ?_, by simpa [ew, bys_append, Nat.add_assoc] using hC⟩
  rw [call_whole T59 (.inl rfl) rfl]
  simp only [gw] at h1 hH
  simp [inner_eq, s59, gw, h1, h2, h3, opLoad, hH, hH2]

theorem put58s {l : List Wr} {x y : AV} {cs : List AV} {m : Nat} {st : St} (hl : ∀ w ∈ l, w.Ok) (hlen : l.length ≤ 1000000) (hx : App st 1 x cs m) (hy : IsL 3 y (l.flatMap gw) l.length) (hm : m ≤ 8589934592) :
    ∃ z st', callL T 58 [x, y, .fn 59 []] st = some (.ret z, st') ∧ App st' 1 z (cs ++ bys (enc l.length ++ l.flatMap ew)) (m + (enc l.length ++ l.flatMap ew).length) :=
  put58 (B := 8027) (flat_wr l) hlen (fun w hw => ew_le (hl w hw)) (fun _ _ => rfl) (fun w hw _ _ _ _ hy hm => put59 (hl w hw) hy hm) hx hy (by omega)

/-- wire.Sectors -/
theorem putSectors {l : List (List Int)} {x y : AV} {cs : List AV} {m : Nat} (hl : ∀ s ∈ l, Sec s) (hlen : l.length ≤ 1000000) (hx : IsL 1 x cs m) (hy : IsL 8 y (l.flatMap bys) l.length) (hm : m ≤ 8589934592) (st : St) :
    ∃ z st', callL T 21 [x, y] st = some (.ret z, st') ∧ App st' 1 z (cs ++ bys (es l)) (m + (es l).length) ∧ st'.H = st.H := by
  obtain ⟨x', hx1, hx2, _⟩ := hx.exp st
  obtain ⟨y', hy1, hy2, _⟩ := hy.exp st
  rw [call_keep T21 rfl rfl (show expA st [x, y] = some ([x', y'], st) by simp [expA, hx1, hy1])]
  obtain ⟨z, st1, hc, hA, _⟩ := clone hx2 (by omega) .mt
  obtain ⟨u, st2, hp, hA2⟩ := put54s hl hlen hA hy2 (by omega)
  obtain ⟨v, st', hk, hA', hH'⟩ := kept_app (st := st) hA2
  exact ⟨v, st', by simp [inner_eq, s21, hc, hp, hk], hA', hH'⟩

/-- wire.Extents -/
theorem putExtents {l : List (Int × Int)} {x y : AV} {cs : List AV} {m : Nat} (hlen : l.length ≤ 1000000) (hx : IsL 1 x cs m) (hy : IsL 2 y (l.flatMap gx) l.length) (hm : m ≤ 8589934592) (st : St) :
    ∃ z st', callL T 23 [x, y] st = some (.ret z, st') ∧ App st' 1 z (cs ++ bys (enc l.length ++ l.flatMap ex)) (m + (enc l.length ++ l.flatMap ex).length) ∧ st'.H = st.H := by
  obtain ⟨x', hx1, hx2, _⟩ := hx.exp st
  obtain ⟨y', hy1, hy2, _⟩ := hy.exp st
  rw [call_keep T23 rfl rfl (show expA st [x, y] = some ([x', y'], st) by simp [expA, hx1, hy1])]
  obtain ⟨z, st1, hc, hA, _⟩ := clone hx2 (by omega) .mt
  obtain ⟨u, st2, hp, hA2⟩ := put56s hlen hA hy2 (by omega)
  obtain ⟨v, st', hk, hA', hH'⟩ := kept_app (st := st) hA2
  exact ⟨v, st', by simp [inner_eq, s23, hc, hp, hk], hA', hH'⟩

/-- wire.Writes -/
theorem putWrites {l : List Wr} {x y : AV} {cs : List AV} {m : Nat} (hl : ∀ w ∈ l, w.Ok) (hlen : l.length ≤ 1000000) (hx : IsL 1 x cs m) (hy : IsL 3 y (l.flatMap gw) l.length) (hm : m ≤ 8589934592) (st : St) :
    ∃ z st', callL T 25 [x, y] st = some (.ret z, st') ∧ App st' 1 z (cs ++ bys (enc l.length ++ l.flatMap ew)) (m + (enc l.length ++ l.flatMap ew).length) ∧ st'.H = st.H := by
  obtain ⟨x', hx1, hx2, _⟩ := hx.exp st
  obtain ⟨y', hy1, hy2, _⟩ := hy.exp st
  rw [call_keep T25 rfl rfl (show expA st [x, y] = some ([x', y'], st) by simp [expA, hx1, hy1])]
  obtain ⟨z, st1, hc, hA, _⟩ := clone hx2 (by omega) .mt
  obtain ⟨u, st2, hp, hA2⟩ := put58s hl hlen hA hy2 (by omega)
  obtain ⟨v, st', hk, hA', hH'⟩ := kept_app (st := st) hA2
  exact ⟨v, st', by simp [inner_eq, s25, hc, hp, hk], hA', hH'⟩

end VS
end Go.Proofs.Ytohfbjgcfbkgnaa
