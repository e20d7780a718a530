/- Clone, bytes.Equal, PutInt. -/
import Derived.Test.YtohfbjgcfbkgnaaWPut
namespace Go.Proofs.Ytohfbjgcfbkgnaa
namespace VS

def Byt (l : List Int) : Prop := ∀ b ∈ l, 0 ≤ b ∧ b < 256

theorem bytesOf_bys : ∀ (l : List Int), bytesOf (bys l) = some l
  | [] => rfl
  | b :: r => by
    have := bytesOf_bys r
    unfold bys at this ⊢
    simp only [List.map_cons, bytesOf, this, Option.map_some]

theorem strOf_eq {a b : List Int} (ha : Byt a) (hb : Byt b) : ((strOfNums a).toList == (strOfNums b).toList) = decide (a = b) := by
  rw [ByteArray.toList_eq, ByteArray.toList_eq, strOfNums_data, strOfNums_data]
  have key : ∀ (a b : List Int), Byt a → Byt b → (a.map fun n => UInt8.ofNat n.toNat) = (b.map fun n => UInt8.ofNat n.toNat) → a = b := by
    intro a
    induction a with
    | nil => intro b _ _ h; cases b with
      | nil => rfl
      | cons => simp at h
    | cons x r ih =>
      intro b ha hb h
      cases b with
      | nil => simp at h
      | cons y s =>
        simp only [List.map_cons, List.cons.injEq] at h
        have hx := ha x (by simp)
        have hy := hb y (by simp)
        have h1 : (UInt8.ofNat x.toNat).toNat = (UInt8.ofNat y.toNat).toNat := by rw [h.1]
        simp only [UInt8.toNat_ofNat'] at h1
        have h2 : x.toNat % 256 = x.toNat := Nat.mod_eq_of_lt (by omega)
        have h3 : y.toNat % 256 = y.toNat := Nat.mod_eq_of_lt (by omega)
        have h4 : x = y := by omega
        rw [h4, ih s (fun z hz => ha z (by simp [hz])) (fun z hz => hb z (by simp [hz])) h.2]
  by_cases h : a = b
  · subst h; simp
  · rw [decide_eq_false h]
    have : ¬ (a.map fun n => UInt8.ofNat n.toNat) = (b.map fun n => UInt8.ofNat n.toNat) := fun h' => h (key a b ha hb h')
    simpa using this

/-- A byte slice that can be read. -/
inductive IsB : AV → List Int → Prop where
  | nil {q : Option Addr} : IsB (.v (.slice q 0 0)) []
  | sl {l : List Int} {t : Tag} : t ≠ .ptrs → IsB (.sl (bys l) l.length t) l

theorem IsB.isL {x : AV} {l : List Int} (h : IsB x l) : IsL 1 x (bys l) l.length := by
  cases h with
  | nil => exact .nil
  | sl ht => exact .sl ht (by simp)

theorem isB_of {x : AV} {l : List Int} (h : IsL 1 x (bys l) l.length) : IsB x l := by
  generalize hc : bys l = cs at h
  generalize hn : l.length = n at h
  cases h with
  | nil =>
    have : l = [] := List.eq_nil_of_length_eq_zero hn
    subst this; exact .nil
  | sl ht hl => subst hc; subst hn; exact .sl ht

theorem IsB.exp {x : AV} {l : List Int} (h : IsB x l) (st : St) : ∃ y, exp1 st x = some (y, st) ∧ IsB y l ∧ exp0 st x = some (y, st) ∧ clean1 x = some y := by
  cases h with
  | nil => exact ⟨_, rfl, .nil, rfl, rfl⟩
  | sl ht => exact ⟨.sl (bys _) _ .ro, by simp [exp1, ht], .sl (by simp), by simp [ht], by simp [ht]⟩

/-- bytes.Equal -/
theorem bytesEqual {x y : AV} {a b : List Int} (hx : IsB x a) (hy : IsB y b) (st : St) : callL T 12 [x, y] st = some (.ret (.v (.bool ((strOfNums a).toList == (strOfNums b).toList))), st) := by
  obtain ⟨x', hx1, hx2, _⟩ := hx.exp st
  obtain ⟨y', hy1, hy2, _⟩ := hy.exp st
  rw [call_plain T12 rfl rfl (show expA st [x, y] = some ([x', y'], st) by simp [expA, hx1, hy1])]
  cases hx2 <;> cases hy2 <;> simp [inner_eq, s12, bytesOf_bys, dropped, expR]

theorem bytesEqual' {x y : AV} {a b : List Int} (hx : IsB x a) (hy : IsB y b) (ha : Byt a) (hb : Byt b) (st : St) : callL T 12 [x, y] st = some (.ret (.v (.bool (decide (a = b)))), st) := by
  rw [bytesEqual hx hy, strOf_eq ha hb]

/-- slices.Clone of bytes -/
theorem clone {x : AV} {cs : List AV} {m : Nat} (hx : IsL 1 x cs m) (hm : m ≤ 549755813888) (st : St) : ∃ y st', callL T 27 [x] st = some (.ret y, st') ∧ App st' 1 y cs m ∧ st'.H = st.H := by
  obtain ⟨x', hx1, hx2, _⟩ := hx.exp st
  rw [call_keep T27 rfl rfl (show expA st [x] = some ([x'], st) by simp [expA, hx1])]
  cases hx2 with
  | @nil q =>
    cases q with
    | none => exact ⟨.v (.slice none 0 0), st, by simp [inner_eq, s27, kept, expR], .nil, rfl⟩
    | some q => exact ⟨.sl [] 0 .full, st, by simp [inner_eq, s27, opAppend, srcOf, kept], .full (by simp), rfl⟩
  | sl ht hl =>
    rename_i t _
    obtain ⟨z, st1, happ, hA, hH⟩ := app_append (bytes := 1) (st := .mt) (x := .sl [] 0 .full) (cs := []) (n := 0) (.full (by simp)) (y := .sl cs m t) (.sl ht hl) (by omega) (by simp only [most47]; omega) (by omega)
    simp only [List.nil_append, Nat.zero_add] at hA
    obtain ⟨y', st', hk, hA', hH'⟩ := kept_app (st := st) hA
    exact ⟨y', st', by simp [inner_eq, s27, happ, hk], hA', hH'⟩

/-- wire.PutInt -/
theorem PutInt {x : AV} {cs : List AV} {m : Nat} (n : Int) (hx : IsL 1 x cs m) (hm : m ≤ 549755813888) (st : St) : ∃ y st', callL T 13 [x, .v (.int .i64 n)] st = some (.ret y, st') ∧ App st' 1 y (cs ++ bys (enc n)) (m + (enc n).length) ∧ st'.H = st.H := by
  obtain ⟨x', hx1, hx2, _⟩ := hx.exp st
  rw [call_keep T13 rfl rfl (show expA st [x, .v (.int .i64 n)] = some ([x', .v (.int .i64 n)], st) by simp [expA, hx1])]
  obtain ⟨z, st1, hc, hA, _⟩ := clone hx2 hm .mt
  obtain ⟨u, st2, hp, hA2, _⟩ := putInt n hA hm
  obtain ⟨y', st', hk, hA', hH'⟩ := kept_app (st := st) hA2
  exact ⟨y', st', by simp [inner_eq, s13, hc, hp, hk], hA', hH'⟩

theorem inRange (n : Int) (st : St) : callL T 11 [.v (.int .i64 n)] st = some (.ret (.v (.bool (decide (0 ≤ n ∧ n < 9007199254740992)))), st) := by
  rw [call_plain T11 rfl rfl rfl]
  by_cases h : 0 ≤ n
  · simp [inner_eq, s11, h, dropped, expR]
  · simp [inner_eq, s11, h, dropped, expR]

end VS
end Go.Proofs.Ytohfbjgcfbkgnaa
