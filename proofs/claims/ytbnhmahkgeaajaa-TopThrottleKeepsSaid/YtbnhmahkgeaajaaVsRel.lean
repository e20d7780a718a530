/- What the abstract values say of the model's memory: the relation 'Rep' between an abstract value and a value of the model, the invariant of a state, and how both are carried from world to world. -/
import Derived.Test.YtbnhmahkgeaajaaVsDefs
import Derived.WalkKit
namespace Go.Proofs.Ytbnhmahkgeaajaa
namespace VS

/-- An abstract state held against a world: blocks of variables lie at 'hm', rows at 'rm' (block, how far it is filled); below 'B' nothing may be written; 'A': which ranges below 'B' may be read. -/
structure Sim where
  w : World
  hm : List Nat
  rm : List (Nat × Nat)
  st : St
  B : Nat
  A : Nat → Nat → Nat → Prop

/-- Cells that nobody will write. -/
def Sim.safe (S : Sim) (g lo k : Nat) : Prop :=
  (g < S.B → S.A g lo k) ∧ g < S.w.heap.size ∧
  (∀ b : Nat, S.hm[b]? = some g → ∃ hb : HB, S.st.H[b]? = some hb ∧ hb.fz = true) ∧
  (∀ r fl : Nat, S.rm[r]? = some (g, fl) → lo + k ≤ fl)

def atom : Value → Bool
  | .bool _ | .int _ _ | .string _ | .pointer none | .slice _ 0 0 | .nilFunc | .nilIface => true
  | _ => false

def AV.one : AV → Bool
  | .agg _ | .tup _ => false
  | _ => true

def tagOk (S : Sim) : Tag → (k n g off cap : Nat) → Prop
  | .full, _, n, _, _, cap => cap = n
  | .own r e, k, n, g, off, cap => ∃ e1 sz, S.st.F[r]? = some (e1, sz) ∧ e ≤ e1 ∧
      (e = e1 → (k = n * sz ∧ k ≤ e ∧ (k = e → off = 0)) ∧ (cap = 0 ∨ (S.rm[r]? = some (g, off + k) ∧ ∃ c ty, S.w.heap[g]? = some (.cells c ty (0, 0)) ∧ off + cap * sz ≤ c.size)))
  | _, _, _, _, _, _ => True

mutual
inductive Rep (S : Sim) : AV → Value → Prop where
  | v {x : Value} : atom x = true → Rep S (.v x) x
  | sl {cs : List AV} {n : Nat} {t : Tag} {g off cap : Nat} {ys : List Value} : n ≤ cap → cap ≤ maxLen → S.safe g off cs.length → RepL S cs ys →
      (∀ i y, ys[i]? = some y → S.w.cell? ⟨g, off + i, none⟩ = some y) → (∀ c ∈ cs, AV.one c = true) → (t ≠ .ptrs → ∀ c ∈ cs, clean1 c = some c) → tagOk S t cs.length n g off cap →
      Rep S (.sl cs n t) (.slice (some ⟨g, off, none⟩) n cap)
  | agg {cs : List AV} {ys : List Value} : RepL S cs ys → (∀ c ∈ cs, AV.one c = true) → Rep S (.agg cs) (.agg ys.toArray)
  | tup {cs : List AV} {ys : List Value} : RepL S cs ys → Rep S (.tup cs) (.tuple ys.toArray)
  | ptr {b off g : Nat} : S.hm[b]? = some g → Rep S (.ptr b off) (.pointer (some ⟨g, off, none⟩))
  | ep {cs : List AV} {off g o : Nat} {ys : List Value} : S.safe g o cs.length → RepL S cs ys → (∀ i y, ys[i]? = some y → S.w.cell? ⟨g, o + i, none⟩ = some y) → (∀ c ∈ cs, AV.one c = true) →
      Rep S (.ep cs off) (.pointer (some ⟨g, o + off, none⟩))
  | hs {b q n sz g p cap : Nat} {c : Array Value} {ty : TypeId} : S.hm[b]? = some g → n ≤ cap → cap ≤ maxLen → S.w.heap[g]? = some (.cells c ty (0, 0)) → ((p = q ∧ q + cap * sz ≤ c.size) ∨ (cap = 0 ∧ p ≤ q)) →
      Rep S (.hs b q n sz) (.slice (some ⟨g, p, none⟩) n cap)
  | fn {f : FuncId} {caps : List AV} {ys : List Value} : RepL S caps ys → Rep S (.fn f caps) (.func (.func f) #[] ys.toArray)
  | ifc {t : TypeId} {x : AV} {y : Value} : Rep S x y → Rep S (.ifc t x) (.iface t y)
inductive RepL (S : Sim) : List AV → List Value → Prop where
  | nil : RepL S [] []
  | cons {a : AV} {y : Value} {l : List AV} {m : List Value} : Rep S a y → RepL S l m → RepL S (a :: l) (y :: m)
end

theorem RepL.length {S : Sim} : ∀ {l : List AV} {m : List Value}, RepL S l m → m.length = l.length
  | _, _, .nil => rfl
  | _, _, .cons _ h => by simp [RepL.length h]

theorem RepL.get {S : Sim} : ∀ {l : List AV} {m : List Value}, RepL S l m → ∀ (i : Nat) (a : AV), l[i]? = some a → ∃ y, m[i]? = some y ∧ Rep S a y
  | _, _, .nil, i, a, h => by simp at h
  | _, _, .cons h1 h2, 0, a, h => by simp at h; subst h; exact ⟨_, rfl, h1⟩
  | _, _, .cons h1 h2, i + 1, a, h => by simpa using RepL.get h2 i a (by simpa using h)

theorem RepL.get' {S : Sim} : ∀ {l : List AV} {m : List Value}, RepL S l m → ∀ (i : Nat) (y : Value), m[i]? = some y → ∃ a, l[i]? = some a ∧ Rep S a y
  | _, _, .nil, i, a, h => by simp at h
  | _, _, .cons h1 h2, 0, a, h => by simp at h; subst h; exact ⟨_, rfl, h1⟩
  | _, _, .cons h1 h2, i + 1, a, h => by simpa using RepL.get' h2 i a (by simpa using h)

theorem RepL.of_get {S : Sim} : ∀ {l : List AV} {m : List Value}, m.length = l.length → (∀ (i : Nat) (a : AV) (y : Value), l[i]? = some a → m[i]? = some y → Rep S a y) → RepL S l m
  | [], [], _, _ => .nil
  | [], _ :: _, h, _ => by simp at h
  | _ :: _, [], h, _ => by simp at h
  | a :: l, y :: m, h, k => .cons (k 0 a y rfl rfl) (RepL.of_get (by simpa using h) fun i b z hb hz => k (i + 1) b z (by simpa using hb) (by simpa using hz))

theorem RepL.append {S : Sim} : ∀ {l : List AV} {m : List Value} {l' : List AV} {m' : List Value}, RepL S l m → RepL S l' m' → RepL S (l ++ l') (m ++ m')
  | _, _, _, _, .nil, h => h
  | _, _, _, _, .cons h1 h2, h => .cons h1 (RepL.append h2 h)

theorem RepL.take {S : Sim} : ∀ {l : List AV} {m : List Value} (k : Nat), RepL S l m → RepL S (l.take k) (m.take k)
  | _, _, 0, _ => by simp; exact .nil
  | _, _, _ + 1, .nil => by simp; exact .nil
  | _, _, k + 1, .cons h1 h2 => .cons h1 (RepL.take k h2)

theorem RepL.drop {S : Sim} : ∀ {l : List AV} {m : List Value} (k : Nat), RepL S l m → RepL S (l.drop k) (m.drop k)
  | _, _, 0, h => h
  | _, _, _ + 1, .nil => by simp; exact .nil
  | _, _, k + 1, .cons _ h2 => by simpa using RepL.drop k h2

theorem Rep.oneCell {S : Sim} {a : AV} {y : Value} (h : Rep S a y) (h1 : a.one = true) : y.oneCell' = true := by
  cases h <;> first | rfl | (simp [AV.one] at h1; done) | skip
  rename_i ha
  cases y <;> simp_all [atom, Value.oneCell']

theorem clean1_one {a b : AV} (h : clean1 a = some b) : a.one = true ∧ b.one = true := by
  cases a with
  | fn f caps => cases caps <;> simp only [clean1] at h <;> first | (cases h; done) | (simp only [Option.some.injEq] at h; subst h; exact ⟨rfl, rfl⟩)
  | sl cs n t =>
    simp only [clean1] at h
    split at h
    · cases h
    · simp only [Option.some.injEq] at h; subst h; exact ⟨rfl, rfl⟩
  | v x => simp only [clean1, Option.some.injEq] at h; subst h; exact ⟨rfl, rfl⟩
  | _ => simp [clean1] at h

/-- One state carried on to another: what was represented stays so. -/
structure Ext (S S' : Sim) : Prop where
  B : S'.B = S.B
  A : S'.A = S.A
  hm : ∀ (b g : Nat), S.hm[b]? = some g → S'.hm[b]? = some g
  safe : ∀ (g lo k : Nat), S.safe g lo k → S'.safe g lo k
  cell : ∀ (g lo k : Nat), S.safe g lo k → ∀ (i : Nat), i < k → S'.w.cell? ⟨g, lo + i, none⟩ = S.w.cell? ⟨g, lo + i, none⟩
  tag : ∀ (t : Tag) (k n g off cap : Nat), tagOk S t k n g off cap → tagOk S' t k n g off cap
  row : ∀ (b g : Nat) (c : Array Value) (ty : TypeId), S.hm[b]? = some g → S.w.heap[g]? = some (.cells c ty (0, 0)) → ∃ c', S'.w.heap[g]? = some (.cells c' ty (0, 0)) ∧ c'.size = c.size

theorem Ext.refl (S : Sim) : Ext S S := ⟨rfl, rfl, fun _ _ h => h, fun _ _ _ h => h, fun _ _ _ _ _ _ => rfl, fun _ _ _ _ _ _ h => h, fun _ _ c _ _ h => ⟨c, h, rfl⟩⟩

theorem Ext.trans {S S1 S2 : Sim} (h : Ext S S1) (k : Ext S1 S2) : Ext S S2 :=
  ⟨k.B.trans h.B, k.A.trans h.A, fun b g hb => k.hm b g (h.hm b g hb), fun g lo n hs => k.safe g lo n (h.safe g lo n hs),
    fun g lo n hs i hi => (k.cell g lo n (h.safe g lo n hs) i hi).trans (h.cell g lo n hs i hi), fun t a b c d e ht => k.tag t a b c d e (h.tag t a b c d e ht),
    fun b g c ty hb hc => by
      obtain ⟨c1, h1, h2⟩ := h.row b g c ty hb hc
      obtain ⟨c2, h3, h4⟩ := k.row b g c1 ty (h.hm b g hb) h1
      exact ⟨c2, h3, h4.trans h2⟩⟩

mutual
theorem Rep.ext {S S' : Sim} (E : Ext S S') : ∀ {a : AV} {y : Value}, Rep S a y → Rep S' a y
  | _, _, .v h => .v h
  | _, _, .sl h1 h2 hs hl hc ho hk ht => .sl h1 h2 (E.safe _ _ _ hs) (RepL.ext E hl)
      (fun i y hy => (E.cell _ _ _ hs i (by rw [← hl.length]; exact (List.getElem?_eq_some_iff.1 hy).1)).trans (hc i y hy)) ho hk (E.tag _ _ _ _ _ _ ht)
  | _, _, .agg hl ho => .agg (RepL.ext E hl) ho
  | _, _, .tup hl => .tup (RepL.ext E hl)
  | _, _, .ptr h => .ptr (E.hm _ _ h)
  | _, _, .ep hs hl hc ho => .ep (E.safe _ _ _ hs) (RepL.ext E hl)
      (fun i y hy => (E.cell _ _ _ hs i (by rw [← hl.length]; exact (List.getElem?_eq_some_iff.1 hy).1)).trans (hc i y hy)) ho
  | _, _, .hs hb h1 h2 hc hz => by
      obtain ⟨c', h3, h4⟩ := E.row _ _ _ _ hb hc
      exact .hs (E.hm _ _ hb) h1 h2 h3 (by rw [h4]; exact hz)
  | _, _, .fn hl => .fn (RepL.ext E hl)
  | _, _, .ifc h => .ifc (Rep.ext E h)
theorem RepL.ext {S S' : Sim} (E : Ext S S') : ∀ {l : List AV} {m : List Value}, RepL S l m → RepL S' l m
  | _, _, .nil => .nil
  | _, _, .cons h1 h2 => .cons (Rep.ext E h1) (RepL.ext E h2)
end

/-- The invariant. -/
structure Inv (S : Sim) : Prop where
  hB : S.B ≤ S.w.heap.size
  hl : S.hm.length = S.st.H.length
  rl : S.rm.length = S.st.F.length
  blk : ∀ (b g : Nat), S.hm[b]? = some g → S.B ≤ g ∧ ∃ hb c ty, S.st.H[b]? = some hb ∧ S.w.heap[g]? = some (.cells c ty (0, 0)) ∧ hb.cells.length ≤ c.size ∧
      RepL S hb.cells (c.toList.take hb.cells.length) ∧ ∀ x ∈ hb.cells, x.one = true
  rowb : ∀ (r g fl : Nat), S.rm[r]? = some (g, fl) → S.B ≤ g ∧ ∃ c ty, S.w.heap[g]? = some (.cells c ty (0, 0)) ∧ fl ≤ c.size
  dist : ∀ (b b' g : Nat), S.hm[b]? = some g → S.hm[b']? = some g → b = b'
  distr : ∀ (r r' g fl fl' : Nat), S.rm[r]? = some (g, fl) → S.rm[r']? = some (g, fl') → r = r'
  disj : ∀ (b r g fl : Nat), S.hm[b]? = some g → S.rm[r]? = some (g, fl) → ∃ hb : HB, S.st.H[b]? = some hb ∧ hb.fz = true ∧ hb.cells.length ≤ fl
  acl : ∀ (g lo k lo' k' : Nat), S.A g lo k → lo ≤ lo' → lo' + k' ≤ lo + k → S.A g lo' k'

theorem Sim.safe.sub {S : Sim} (I : Inv S) {g lo k lo' k' : Nat} (h : S.safe g lo k) (h1 : lo ≤ lo') (h2 : lo' + k' ≤ lo + k) : S.safe g lo' k' :=
  ⟨fun hb => I.acl _ _ _ _ _ (h.1 hb) h1 h2, h.2.1, h.2.2.1, fun r fl hr => Nat.le_trans h2 (h.2.2.2 r fl hr)⟩

/-- The state as it stands, in another world. -/
def Sim.at (S : Sim) (w : World) : Sim := { S with w := w }

/-- Old blocks as they were. -/
def Keeps (w w' : World) : Prop := w.heap.size ≤ w'.heap.size ∧ ∀ k, k < w.heap.size → w'.heap[k]? = w.heap[k]?

theorem Keeps.refl (w : World) : Keeps w w := ⟨Nat.le_refl _, fun _ _ => rfl⟩
theorem Keeps.trans {a b c : World} (h : Keeps a b) (k : Keeps b c) : Keeps a c :=
  ⟨Nat.le_trans h.1 k.1, fun i hi => (k.2 i (Nat.lt_of_lt_of_le hi h.1)).trans (h.2 i hi)⟩
theorem Keeps.alloc (w : World) (o : Obj) : Keeps w (w.alloc o) := ⟨by simp, fun k hk => RowKit.Below.heap_alloc w o k hk⟩
theorem Keeps.drew (w : World) : Keeps w w.drew := ⟨Nat.le_refl _, fun _ _ => rfl⟩
theorem Keeps.below {w w' : World} (h : RowKit.Below w.heap.size w w') : Keeps w w' := ⟨h.size, h.block⟩

theorem Keeps.cell {w w' : World} (h : Keeps w w') {g i : Nat} (hg : g < w.heap.size) : w'.cell? ⟨g, i, none⟩ = w.cell? ⟨g, i, none⟩ :=
  World.cell?_of_block (h.2 g hg)

theorem heap_lt {w : World} {g : Nat} {o : Obj} (h : w.heap[g]? = some o) : g < w.heap.size := (Array.getElem?_eq_some_iff.1 h).1

/-- New blocks of memory, some of them taken up as blocks of variables or as rows. -/
theorem Ext.grow {S : Sim} {w' : World} (hk : Keeps S.w w') {h2 : List Nat} {H2 : List HB} {r2 : List (Nat × Nat)} {F2 : List (Nat × Nat)}
    (hh : ∀ g ∈ h2, S.w.heap.size ≤ g) (hr : ∀ p ∈ r2, S.w.heap.size ≤ p.1) :
    Ext S { S with w := w', hm := S.hm ++ h2, rm := S.rm ++ r2, st := { H := S.st.H ++ H2, F := S.st.F ++ F2 } } := by
  refine ⟨rfl, rfl, fun b g hb => ?_, fun g lo k hs => ?_, fun g lo k hs i _ => hk.cell hs.2.1, fun t k n g off cap ht => ?_, fun b g c ty hb hc => ⟨c, ?_, rfl⟩⟩
  · show (S.hm ++ h2)[b]? = some g
    rw [List.getElem?_append_left (List.getElem?_eq_some_iff.1 hb).1]; exact hb
  · refine ⟨hs.1, Nat.lt_of_lt_of_le hs.2.1 hk.1, fun b hb => ?_, fun r fl hr' => ?_⟩
    · change (S.hm ++ h2)[b]? = some g at hb
      rcases Nat.lt_or_ge b S.hm.length with h | h
      · rw [List.getElem?_append_left h] at hb
        obtain ⟨x, hx, hf⟩ := hs.2.2.1 b hb
        exact ⟨x, by show (S.st.H ++ H2)[b]? = some x; rw [List.getElem?_append_left (List.getElem?_eq_some_iff.1 hx).1]; exact hx, hf⟩
      · rw [List.getElem?_append_right h] at hb
        have := hh g (List.mem_of_getElem? hb)
        have := hs.2.1
        omega
    · change (S.rm ++ r2)[r]? = some (g, fl) at hr'
      rcases Nat.lt_or_ge r S.rm.length with h | h
      · rw [List.getElem?_append_left h] at hr'
        exact hs.2.2.2 r fl hr'
      · rw [List.getElem?_append_right h] at hr'
        have := hr (g, fl) (List.mem_of_getElem? hr')
        have := hs.2.1
        simp only at *
        omega
  · cases t with
    | own r e =>
      obtain ⟨e1, sz, hF, hle, hx⟩ := ht
      refine ⟨e1, sz, by show (S.st.F ++ F2)[r]? = _; rw [List.getElem?_append_left (List.getElem?_eq_some_iff.1 hF).1]; exact hF, hle, fun he => ?_⟩
      obtain ⟨h1, h2'⟩ := hx he
      refine ⟨h1, h2'.imp id ?_⟩
      rintro ⟨h3, c, ty, h4, h5⟩
      exact ⟨by show (S.rm ++ r2)[r]? = _; rw [List.getElem?_append_left (List.getElem?_eq_some_iff.1 h3).1]; exact h3, c, ty, by rw [hk.2 g (heap_lt h4)]; exact h4, h5⟩
    | full => exact ht
    | ro => trivial
    | ptrs => trivial
  · rw [hk.2 g (heap_lt hc)]; exact hc

/-- A new world alone. -/
theorem Ext.keeps {S : Sim} {w' : World} (hk : Keeps S.w w') : Ext S (S.at w') := by
  have := Ext.grow hk (h2 := []) (H2 := []) (r2 := []) (F2 := []) (by simp) (by simp)
  simpa [Sim.at] using this

theorem Inv.grow {S : Sim} (I : Inv S) {w' : World} (hk : Keeps S.w w') {h2 : List Nat} {H2 : List HB} {r2 : List (Nat × Nat)} {F2 : List (Nat × Nat)}
    (hh : ∀ g ∈ h2, S.w.heap.size ≤ g) (hr : ∀ p ∈ r2, S.w.heap.size ≤ p.1) (hlen : h2.length = H2.length) (rlen : r2.length = F2.length)
    (hnd : h2.Nodup) (hrnd : (r2.map (·.1)).Nodup) (hdis : ∀ g ∈ h2, ∀ p ∈ r2, p.1 ≠ g)
    (hblk : ∀ (j g : Nat), h2[j]? = some g → ∃ hb c ty, H2[j]? = some hb ∧ w'.heap[g]? = some (.cells c ty (0, 0)) ∧ hb.cells.length ≤ c.size ∧
      RepL { S with w := w', hm := S.hm ++ h2, rm := S.rm ++ r2, st := { H := S.st.H ++ H2, F := S.st.F ++ F2 } } hb.cells (c.toList.take hb.cells.length) ∧ ∀ x ∈ hb.cells, x.one = true)
    (hrow : ∀ p ∈ r2, ∃ c ty, w'.heap[p.1]? = some (.cells c ty (0, 0)) ∧ p.2 ≤ c.size) :
    Inv { S with w := w', hm := S.hm ++ h2, rm := S.rm ++ r2, st := { H := S.st.H ++ H2, F := S.st.F ++ F2 } } := by
  have E := Ext.grow hk (h2 := h2) (H2 := H2) (r2 := r2) (F2 := F2) hh hr
  have hltb : ∀ b g, S.hm[b]? = some g → g < S.w.heap.size := fun b g hb => by
    obtain ⟨_, hb', c, ty, _, hc, _⟩ := I.blk b g hb
    exact heap_lt hc
  have hltr : ∀ r g fl, S.rm[r]? = some (g, fl) → g < S.w.heap.size := fun r g fl hb => by
    obtain ⟨_, c, ty, hc, _⟩ := I.rowb r g fl hb
    exact heap_lt hc
  refine ⟨Nat.le_trans I.hB hk.1, by simp [I.hl, hlen], by simp [I.rl, rlen], fun b g hb => ?_, fun r g fl hr' => ?_, fun b b' g hb hb' => ?_, fun r r' g fl fl' h1 h2' => ?_, fun b r g fl hb hr' => ?_, I.acl⟩
  · change (S.hm ++ h2)[b]? = some g at hb
    rcases Nat.lt_or_ge b S.hm.length with h | h
    · rw [List.getElem?_append_left h] at hb
      obtain ⟨h1, x, c, ty, hx, hc, hle, hl, ho⟩ := I.blk b g hb
      exact ⟨h1, x, c, ty, by show (S.st.H ++ H2)[b]? = some x; rw [List.getElem?_append_left (List.getElem?_eq_some_iff.1 hx).1]; exact hx, by rw [hk.2 g (heap_lt hc)]; exact hc, hle, RepL.ext E hl, ho⟩
    · rw [List.getElem?_append_right h] at hb
      obtain ⟨x, c, ty, hx, hc, hle, hl, ho⟩ := hblk _ g hb
      refine ⟨Nat.le_trans I.hB (hh g (List.mem_of_getElem? hb)), x, c, ty, ?_, hc, hle, hl, ho⟩
      show (S.st.H ++ H2)[b]? = some x
      rw [List.getElem?_append_right (by rw [← I.hl]; exact h), ← I.hl]; exact hx
  · change (S.rm ++ r2)[r]? = some (g, fl) at hr'
    rcases Nat.lt_or_ge r S.rm.length with h | h
    · rw [List.getElem?_append_left h] at hr'
      obtain ⟨h1, c, ty, hc, hle⟩ := I.rowb r g fl hr'
      exact ⟨h1, c, ty, by rw [hk.2 g (heap_lt hc)]; exact hc, hle⟩
    · rw [List.getElem?_append_right h] at hr'
      have hm := List.mem_of_getElem? hr'
      exact ⟨Nat.le_trans I.hB (hr _ hm), hrow _ hm⟩
  · change (S.hm ++ h2)[b]? = some g at hb
    change (S.hm ++ h2)[b']? = some g at hb'
    rcases Nat.lt_or_ge b S.hm.length with h | h <;> rcases Nat.lt_or_ge b' S.hm.length with h' | h'
    · rw [List.getElem?_append_left h] at hb; rw [List.getElem?_append_left h'] at hb'; exact I.dist b b' g hb hb'
    · rw [List.getElem?_append_left h] at hb; rw [List.getElem?_append_right h'] at hb'
      have := hltb b g hb; have := hh g (List.mem_of_getElem? hb'); omega
    · rw [List.getElem?_append_right h] at hb; rw [List.getElem?_append_left h'] at hb'
      have := hltb b' g hb'; have := hh g (List.mem_of_getElem? hb); omega
    · rw [List.getElem?_append_right h] at hb; rw [List.getElem?_append_right h'] at hb'
      have := (List.getElem?_inj (List.getElem?_eq_some_iff.1 hb).1 hnd).1 (hb.trans hb'.symm)
      omega
  · change (S.rm ++ r2)[r]? = some (g, fl) at h1
    change (S.rm ++ r2)[r']? = some (g, fl') at h2'
    rcases Nat.lt_or_ge r S.rm.length with h | h <;> rcases Nat.lt_or_ge r' S.rm.length with h' | h'
    · rw [List.getElem?_append_left h] at h1; rw [List.getElem?_append_left h'] at h2'; exact I.distr r r' g fl fl' h1 h2'
    · rw [List.getElem?_append_left h] at h1; rw [List.getElem?_append_right h'] at h2'
      have := hltr r g fl h1; have := hr _ (List.mem_of_getElem? h2'); simp only at this; omega
    · rw [List.getElem?_append_right h] at h1; rw [List.getElem?_append_left h'] at h2'
      have := hltr r' g fl' h2'; have := hr _ (List.mem_of_getElem? h1); simp only at this; omega
    · rw [List.getElem?_append_right h] at h1; rw [List.getElem?_append_right h'] at h2'
      have a1 : (r2.map (·.1))[r - S.rm.length]? = some g := by simp [h1]
      have a2 : (r2.map (·.1))[r' - S.rm.length]? = some g := by simp [h2']
      have := (List.getElem?_inj (List.getElem?_eq_some_iff.1 a1).1 hrnd).1 (a1.trans a2.symm)
      omega
  · change (S.hm ++ h2)[b]? = some g at hb
    change (S.rm ++ r2)[r]? = some (g, fl) at hr'
    rcases Nat.lt_or_ge b S.hm.length with h | h <;> rcases Nat.lt_or_ge r S.rm.length with h' | h'
    · rw [List.getElem?_append_left h] at hb; rw [List.getElem?_append_left h'] at hr'
      obtain ⟨x, hx, hx2⟩ := I.disj b r g fl hb hr'
      exact ⟨x, by show (S.st.H ++ H2)[b]? = some x; rw [List.getElem?_append_left (List.getElem?_eq_some_iff.1 hx).1]; exact hx, hx2⟩
    · rw [List.getElem?_append_left h] at hb; rw [List.getElem?_append_right h'] at hr'
      have := hltb b g hb; have := hr _ (List.mem_of_getElem? hr'); simp only at this; omega
    · rw [List.getElem?_append_right h] at hb; rw [List.getElem?_append_left h'] at hr'
      have := hltr r g fl hr'; have := hh g (List.mem_of_getElem? hb); omega
    · rw [List.getElem?_append_right h] at hb; rw [List.getElem?_append_right h'] at hr'
      exact (hdis g (List.mem_of_getElem? hb) _ (List.mem_of_getElem? hr') rfl).elim

theorem Inv.keeps {S : Sim} (I : Inv S) {w' : World} (hk : Keeps S.w w') : Inv (S.at w') := by
  have := Inv.grow I hk (h2 := []) (H2 := []) (r2 := []) (F2 := []) (by simp) (by simp) rfl rfl (by simp) (by simp) (by simp) (by simp) (by simp)
  simpa [Sim.at] using this

end VS
end Go.Proofs.Ytbnhmahkgeaajaa
