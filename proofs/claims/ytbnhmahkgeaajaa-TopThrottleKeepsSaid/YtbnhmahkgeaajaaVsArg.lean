/- Arguments: what the row says of them, as abstract values. -/
import Derived.Test.YtbnhmahkgeaajaaVsRow
import Derived.OpenShut
namespace Go.Proofs.Ytbnhmahkgeaajaa
namespace VS
open Go.ChangeShapes Go.WideShapes Go.ChangeAt Go.RowKit

/-- What one cell holds. -/
inductive Sh where
  | bool
  | int (k : IntKind)
  | str
  | list (row : List Sh)

mutual
inductive Fit : Sh → AV → Prop where
  | bool {x : Bool} : Fit .bool (.v (.bool x))
  | int {k : IntKind} {n : Int} : (Lit.int k n).wf = true → Fit (.int k) (.v (.int k n))
  | str {x : ByteArray} : x.size ≤ maxLen → Fit .str (.v (.string x))
  | nil {row : List Sh} {q : Option Addr} : Fit (.list row) (.v (.slice q 0 0))
  | list {row : List Sh} {cs : List AV} {n : Nat} : FitN row n cs → Fit (.list row) (.sl cs n .ro)
inductive FitL : List Sh → List AV → Prop where
  | nil : FitL [] []
  | cons {s : Sh} {r : List Sh} {a : AV} {l : List AV} : Fit s a → FitL r l → FitL (s :: r) (a :: l)
inductive FitN : List Sh → Nat → List AV → Prop where
  | nil {row : List Sh} : FitN row 0 []
  | cons {row : List Sh} {n : Nat} {a l : List AV} : FitL row a → FitN row n l → FitN row (n + 1) (a ++ l)
end

theorem Fit.clean {s : Sh} {a : AV} (h : Fit s a) : clean1 a = some a ∧ a.one = true := by
  cases h <;> exact ⟨by simp [clean1], rfl⟩

theorem FitL.clean : ∀ {r : List Sh} {l : List AV}, FitL r l → (∀ a ∈ l, clean1 a = some a) ∧ (∀ a ∈ l, a.one = true) ∧ l.length = r.length
  | _, _, .nil => by simp
  | _, _, .cons h1 h2 => by
    obtain ⟨h3, h4, h5⟩ := FitL.clean h2
    refine ⟨fun a ha => ?_, fun a ha => ?_, by simp [h5]⟩
    · rcases List.mem_cons.1 ha with rfl | ha
      · exact h1.clean.1
      · exact h3 a ha
    · rcases List.mem_cons.1 ha with rfl | ha
      · exact h1.clean.2
      · exact h4 a ha

theorem FitL.append : ∀ {r r' : List Sh} {l l' : List AV}, FitL r l → FitL r' l' → FitL (r ++ r') (l ++ l')
  | _, _, _, _, .nil, h => h
  | _, _, _, _, .cons h1 h2, h => .cons h1 (FitL.append h2 h)

theorem FitN.clean : ∀ {row : List Sh} {n : Nat} {l : List AV}, FitN row n l → (∀ a ∈ l, clean1 a = some a) ∧ (∀ a ∈ l, a.one = true) ∧ l.length = n * row.length
  | _, _, _, .nil => by simp
  | _, _, _, .cons h1 h2 => by
    obtain ⟨h3, h4, h5⟩ := FitN.clean h2
    obtain ⟨h6, h7, h8⟩ := h1.clean
    refine ⟨fun a ha => ?_, fun a ha => ?_, by simp [h5, h8, Nat.add_mul, Nat.add_comm]⟩
    · rcases List.mem_append.1 ha with ha | ha
      · exact h6 a ha
      · exact h3 a ha
    · rcases List.mem_append.1 ha with ha | ha
      · exact h7 a ha
      · exact h4 a ha

def fsSh (P : Program) (g : TypeId → Option (List Sh)) : List Field → Nat → Option (List Sh)
  | [], _ => some []
  | f :: r, o => match g f.type with
    | some a => if f.offset = o ∧ a.length = P.cellsOf f.type then (fsSh P g r (o + a.length)).map (a ++ ·) else none
    | none => none

def repSh (r : List Sh) : Nat → List Sh
  | 0 => []
  | n + 1 => r ++ repSh r n

/-- A type, cell for cell. -/
def shOf (P : Program) : Nat → TypeId → Option (List Sh)
  | 0, _ => none
  | f + 1, t => match P.underlying t with
    | some .bool => some [.bool]
    | some (.int k) => some [.int k]
    | some .string => some [.str]
    | some (.slice e) => match shOf P f e with
      | some r => if r.length = P.cellsOf e ∧ 0 < P.cellsOf e then some [.list r] else none
      | none => none
    | some (.struct fs) => match fsSh P (shOf P f) fs.toList 0 with
      | some r => if r.length = P.cellsOf t then some r else none
      | none => none
    | some (.array n e) => match shOf P f e with
      | some r => if r.length = P.cellsOf e ∧ n * P.cellsOf e = P.cellsOf t then some (repSh r n) else none
      | none => none
    | _ => none

theorem repSh_length (r : List Sh) : ∀ n, (repSh r n).length = n * r.length
  | 0 => by simp [repSh]
  | n + 1 => by simp [repSh, repSh_length r n, Nat.add_mul, Nat.add_comm]

section
variable {H : Type} {enc : TypeId × Value → H} {P : Program} {W : World}

theorem cells_read {a : Addr} {n : Nat} {cs : List Value} (h : W.cells? 0 a n = some cs) : cs.length = n ∧ ∀ i, i < n → W.cell? (a.add i) = cs[i]? := by
  unfold World.cells? at h
  rw [if_pos (Nat.zero_le _)] at h
  exact ⟨by simpa using mapM_some_length h, fun i hi => mapM_some_get h i i (by simp [hi])⟩

theorem cell_place {a : Addr} {v : Value} (h : W.cell? a = some v) : a.spot = none ∧ a.block < W.heap.size := by
  unfold World.cell? at h
  split at h
  · rename_i c e f hc
    split at h
    · cases h
    · rename_i hs
      exact ⟨by simpa using hs, (Array.getElem?_eq_some_iff.1 hc).1⟩
  · cases h

theorem fs_rep {m : Nat} {g : TypeId → Option (List Sh)} (ih : ∀ (t : TypeId) (row : List Sh) (cs : List Value) (x : DataW H × List MemPlace), g t = some row → DataW.trod enc P W 0 (fun _ => true) true m t cs = some x → ∃ l, RepL (Sim.start W) l cs ∧ FitL row l)
    (cs : List Value) : ∀ (fs : List Field) (o : Nat) (row : List Sh), fsSh P g fs o = some row → cs.length = o + row.length →
    (∀ f ∈ fs, ∃ x, DataW.trod enc P W 0 (fun _ => true) true m f.type ((cs.drop f.offset).take (P.cellsOf f.type)) = some x) → ∃ l, RepL (Sim.start W) l (cs.drop o) ∧ FitL row l
  | [], o, row, h, hl, _ => by
    simp only [fsSh, Option.some.injEq] at h
    subst h
    refine ⟨[], ?_, .nil⟩
    rw [List.drop_eq_nil_of_le (by simp at hl; omega)]
    exact .nil
  | f :: r, o, row, h, hl, hx => by
    unfold fsSh at h
    split at h
    · rename_i a ha
      split at h
      · rename_i hc
        obtain ⟨h1, h2⟩ := hc
        rw [Option.map_eq_some_iff] at h
        obtain ⟨row', hr, rfl⟩ := h
        obtain ⟨x, hx1⟩ := hx f (by simp)
        obtain ⟨l1, k1, k2⟩ := ih _ _ _ _ ha hx1
        obtain ⟨l2, k3, k4⟩ := fs_rep ih cs r (o + a.length) row' hr (by rw [hl]; simp [Nat.add_assoc]) fun f' hf' => hx f' (by simp [hf'])
        refine ⟨l1 ++ l2, ?_, k2.append k4⟩
        have := k1.append k3
        rw [h1, ← h2, ← List.drop_drop, List.take_append_drop] at this
        exact this
      · cases h
    · cases h

theorem arr_rep {m c : Nat} {e : TypeId} {row : List Sh} (ih : ∀ (cs : List Value) (x : DataW H × List MemPlace), DataW.trod enc P W 0 (fun _ => true) true m e cs = some x → ∃ l, RepL (Sim.start W) l cs ∧ FitL row l)
    (cs : List Value) : ∀ (k i : Nat), cs.length = (i + k) * c → (∀ j, i ≤ j → j < i + k → ∃ x, DataW.trod enc P W 0 (fun _ => true) true m e ((cs.drop (j * c)).take c) = some x) → ∃ l, RepL (Sim.start W) l (cs.drop (i * c)) ∧ FitL (repSh row k) l
  | 0, i, hl, _ => by
    refine ⟨[], ?_, .nil⟩
    rw [List.drop_eq_nil_of_le (by rw [hl]; simp)]
    exact .nil
  | k + 1, i, hl, hx => by
    obtain ⟨x, hx1⟩ := hx i (by omega) (by omega)
    obtain ⟨l1, k1, k2⟩ := ih _ _ hx1
    obtain ⟨l2, k3, k4⟩ := arr_rep ih cs k (i + 1) (by rw [hl]; congr 1; omega) fun j h1 h2 => hx j (by omega) (by omega)
    refine ⟨l1 ++ l2, ?_, k2.append k4⟩
    have := k1.append k3
    rw [Nat.add_mul, Nat.one_mul, ← List.drop_drop, List.take_append_drop] at this
    exact this

theorem row_rep {m : Nat} {e : TypeId} {row : List Sh} (ih : ∀ (cs : List Value) (x : DataW H × List MemPlace), DataW.trod enc P W 0 (fun _ => true) true m e cs = some x → ∃ l, RepL (Sim.start W) l cs ∧ FitL row l)
    (hrow : row.length = P.cellsOf e) (g off : Nat) : ∀ (k i : Nat), (∀ j, i ≤ j → j < i + k → ∃ cs x, W.cells? 0 ⟨g, off + j * P.cellsOf e, none⟩ (P.cellsOf e) = some cs ∧ DataW.trod enc P W 0 (fun _ => true) true m e cs = some x) →
    ∃ l ys, RepL (Sim.start W) l ys ∧ FitN row k l ∧ ∀ j y, ys[j]? = some y → W.cell? ⟨g, off + i * P.cellsOf e + j, none⟩ = some y
  | 0, i, _ => ⟨[], [], .nil, .nil, by simp⟩
  | k + 1, i, hx => by
    obtain ⟨cs, x, hc, hx1⟩ := hx i (by omega) (by omega)
    obtain ⟨hlen, hcell⟩ := cells_read hc
    obtain ⟨l1, k1, k2⟩ := ih _ _ hx1
    obtain ⟨l2, ys, k3, k4, k5⟩ := row_rep ih hrow g off k (i + 1) fun j h1 h2 => hx j (by omega) (by omega)
    refine ⟨l1 ++ l2, cs ++ ys, k1.append k3, .cons k2 k4, fun j y hy => ?_⟩
    rcases Nat.lt_or_ge j cs.length with h | h
    · rw [List.getElem?_append_left h] at hy
      have := hcell j (by omega)
      rw [Addr_add] at this
      exact this.trans hy
    · rw [List.getElem?_append_right h] at hy
      have := k5 _ _ hy
      rw [← this]
      congr 2
      rw [Nat.add_mul]; omega

theorem trod_rep : ∀ (f : Nat) (t : TypeId) (row : List Sh) (fuel : Nat) (cs : List Value) (x : DataW H × List MemPlace), shOf P f t = some row → DataW.trod enc P W 0 (fun _ => true) true fuel t cs = some x → ∃ l, RepL (Sim.start W) l cs ∧ FitL row l
  | 0, _, _, _, _, _, h, _ => by simp [shOf] at h
  | f + 1, t, row, fuel, cs, x, h, hx => by
    unfold shOf at h
    split at h
    · rename_i ht
      cases h
      obtain ⟨b, rfl, _⟩ := DataW.trod_bool ht hx
      exact ⟨[.v (.bool b)], .cons (.v rfl) .nil, .cons .bool .nil⟩
    · rename_i k ht
      cases h
      obtain ⟨n, rfl, _, hw⟩ := DataW.trod_int ht hx
      exact ⟨[.v (.int k n)], .cons (.v rfl) .nil, .cons (.int hw) .nil⟩
    · rename_i ht
      cases h
      obtain ⟨s, rfl, _, hw⟩ := DataW.trod_string ht hx
      exact ⟨[.v (.string s)], .cons (.v rfl) .nil, .cons (.str hw) .nil⟩
    · rename_i e ht
      split at h
      · rename_i r hr
        split at h
        · rename_i hc
          obtain ⟨hc1, hc2⟩ := hc
          cases h
          rcases DataW.trod_slice ht hx with ⟨rfl, _⟩ | ⟨a, len, cap, elems, rest, n, rfl, rfl, _, _, hle, hmax, hlen, hel, hsp, _⟩
          · exact ⟨[.v (.slice none 0 0)], .cons (.v rfl) .nil, .cons .nil .nil⟩
          · obtain ⟨hrl, hrest⟩ := hsp rfl
            by_cases h0 : cap = 0
            · have : len = 0 := by omega
              subst this; subst h0
              exact ⟨[.v (.slice (some a) 0 0)], .cons (.v rfl) .nil, .cons .nil .nil⟩
            · have hfirst : ∃ v, W.cell? a = some v := by
                have : ∃ cs y, W.cells? 0 (a.add 0) (P.cellsOf e) = some cs ∧ DataW.trod enc P W 0 (fun _ => true) true n e cs = some y := by
                  by_cases hl0 : len = 0
                  · have h1 := hrest 0 (by omega)
                    rw [hl0] at h1
                    obtain ⟨y, hy⟩ : ∃ y, rest[0]? = some y := ⟨rest[0]'(by omega), by simp⟩
                    rw [hy, Option.bind_eq_some_iff] at h1
                    simp only [Nat.zero_add, Nat.zero_mul] at h1
                    obtain ⟨cs, h2, h3⟩ := h1
                    exact ⟨cs, y, h2, h3⟩
                  · have h1 := hel 0 (by omega)
                    obtain ⟨y, hy⟩ : ∃ y, elems[0]? = some y := ⟨elems[0]'(by omega), by simp⟩
                    rw [hy, Option.bind_eq_some_iff] at h1
                    simp only [Nat.zero_mul] at h1
                    obtain ⟨cs, h2, h3⟩ := h1
                    exact ⟨cs, y, h2, h3⟩
                obtain ⟨cs, y, h2, _⟩ := this
                obtain ⟨h3, h4⟩ := cells_read h2
                have h5 := h4 0 hc2
                obtain ⟨v, hv⟩ : ∃ v, cs[0]? = some v := ⟨cs[0]'(by omega), by simp⟩
                rw [hv] at h5
                exact ⟨v, by simpa [Addr.add] using h5⟩
              obtain ⟨v, hv⟩ := hfirst
              obtain ⟨hs, hb⟩ := cell_place hv
              obtain ⟨g, off, sp⟩ := a
              simp only at hs hb
              subst hs
              obtain ⟨l, ys, k1, k2, k3⟩ := row_rep (P := P) (fun cs x hx => trod_rep f e r n cs x hr hx) hc1 g off len 0 fun j _ hj => by
                have h1 := hel j (by omega)
                obtain ⟨y, hy⟩ : ∃ y, elems[j]? = some y := ⟨elems[j]'(by omega), by simp⟩
                rw [hy, Option.bind_eq_some_iff, Addr_add] at h1
                obtain ⟨cs, h2, h3⟩ := h1
                exact ⟨cs, y, h2, h3⟩
              obtain ⟨k4, k5, k6⟩ := k2.clean
              refine ⟨[.sl l len .ro], .cons (.sl hle hmax (start_safe hb) k1 (fun i y hy => ?_) k5 (fun _ => k4) trivial) .nil, .cons (.list k2) .nil⟩
              have := k3 i y hy
              rw [Nat.zero_mul, Nat.add_zero] at this
              exact this
        · cases h
      · cases h
    · rename_i fs ht
      split at h
      · rename_i r hr
        split at h
        · rename_i hl
          cases h
          obtain ⟨xs, n, rfl, _, hlen, hxl, hfs⟩ := DataW.trod_struct ht hx
          have := fs_rep (fun t row cs x h1 h2 => trod_rep f t row n cs x h1 h2) cs fs.toList 0 row hr (by omega) fun fl hfl => by
            obtain ⟨i, hi⟩ := List.getElem?_of_mem hfl
            have hi' : fs[i]? = some fl := by simpa using hi
            have := hfs i fl hi'
            have hlt : i < xs.length := by rw [hxl]; exact (Array.getElem?_eq_some_iff.1 hi').1
            exact ⟨xs[i], this.trans (by simp)⟩
          simpa using this
        · cases h
      · cases h
    · rename_i n e ht
      split at h
      · rename_i r hr
        split at h
        · rename_i hc
          obtain ⟨hc1, hc2⟩ := hc
          cases h
          obtain ⟨xs, m, rfl, _, hlen, hxl, hel⟩ := DataW.trod_array ht hx
          have := arr_rep (c := P.cellsOf e) (fun cs x hx => trod_rep f e r m cs x hr hx) cs n 0 (by rw [hlen, ← hc2]; simp) fun j _ hj => ⟨xs[j]'(by omega), (hel j (by omega)).trans (by simp)⟩
          simpa using this
        · cases h
      · cases h
    · cases h

/-- An argument: one cell, or several. -/
inductive ASh where
  | one (s : Sh)
  | agg (r : List Sh)

inductive FitA : ASh → AV → Prop where
  | one {s : Sh} {a : AV} : Fit s a → FitA (.one s) a
  | agg {r : List Sh} {l : List AV} : FitL r l → FitA (.agg r) (.agg l)

def ashOf (P : Program) (f : Nat) (t : TypeId) : Option ASh :=
  match P.underlying t with
  | some (.struct _) | some (.array _ _) => (shOf P f t).map .agg
  | some .bool | some (.int _) | some .string | some (.slice _) => match shOf P f t with
    | some [s] => some (.one s)
    | _ => none
  | _ => none

theorem arg_rep {f : Nat} {t : TypeId} {s : ASh} {v : Value} {d : DataW H} {p : List MemPlace} {r : Reach} {b : Nat} (h : ashOf P f t = some s) (hv : Value.okWide P W r b t v) (hx : DataW.Trod enc P W 0 (fun _ => true) true t v d p) :
    ∃ a, Rep (Sim.start W) a v ∧ FitA s a := by
  obtain ⟨fuel, hx⟩ := hx
  have flat : ∀ {s' : Sh}, shOf P f t = some [s'] → v.cells = #[v] → ∃ a, Rep (Sim.start W) a v ∧ FitA (.one s') a := by
    intro s' hs hc
    obtain ⟨l, k1, k2⟩ := trod_rep f t _ fuel _ _ hs hx
    rw [hc] at k1
    cases k2 with
    | cons k3 k4 =>
      cases k4
      cases k1 with
      | cons k5 _ => exact ⟨_, k5, .one k3⟩
  unfold ashOf at h
  unfold Value.okWide at hv
  split at h
  · rename_i ht
    rw [Option.map_eq_some_iff] at h
    obtain ⟨row, hs, rfl⟩ := h
    rw [ht] at hv
    obtain ⟨cs, rfl, _⟩ := hv
    obtain ⟨l, k1, k2⟩ := trod_rep f t _ fuel _ _ hs hx
    exact ⟨.agg l, by simpa [Value.cells] using Rep.agg k1 k2.clean.2.1, .agg k2⟩
  · rename_i ht
    rw [Option.map_eq_some_iff] at h
    obtain ⟨row, hs, rfl⟩ := h
    rw [ht] at hv
    obtain ⟨cs, rfl, _⟩ := hv
    obtain ⟨l, k1, k2⟩ := trod_rep f t _ fuel _ _ hs hx
    exact ⟨.agg l, by simpa [Value.cells] using Rep.agg k1 k2.clean.2.1, .agg k2⟩
  all_goals first
    | (cases h; done)
    | (rename_i ht
       split at h
       · rename_i hs
         cases h
         rw [ht] at hv
         refine flat hs ?_
         cases v <;> first | rfl | (simp [Cell.okWide, Cell.ok, ht] at hv; done)
       · cases h)

inductive FitAs : List ASh → List AV → Prop where
  | nil : FitAs [] []
  | cons {s : ASh} {r : List ASh} {a : AV} {l : List AV} : FitA s a → FitAs r l → FitAs (s :: r) (a :: l)

def ashsOf (P : Program) (f : Nat) : List TypeId → Option (List ASh)
  | [] => some []
  | t :: r => match ashOf P f t, ashsOf P f r with
    | some s, some l => some (s :: l)
    | _, _ => none

theorem args_rep {f : Nat} {r : Reach} {b : Nat} : ∀ {ts : List TypeId} {shs : List ASh} {vs : List Value} {ds : List (DataW H)} {ps : List MemPlace}, ashsOf P f ts = some shs →
    (∀ (j : Nat) t v, ts[j]? = some t → vs[j]? = some v → Value.okWide P W r b t v) → DataW.TrodAll enc P W 0 (fun _ => true) true ts vs ds ps → ∃ l, RepL (Sim.start W) l vs ∧ FitAs shs l
  | [], shs, vs, ds, ps, h, _, hA => by
    simp only [ashsOf, Option.some.injEq] at h
    subst h
    obtain ⟨rfl, _, _⟩ := trodAll_nil hA
    exact ⟨[], .nil, .nil⟩
  | t :: ts, shs, vs, ds, ps, h, hv, hA => by
    obtain ⟨v, vs', d, ds', p, q, rfl, rfl, rfl, h1, h2⟩ := trodAll_cons hA
    unfold ashsOf at h
    split at h
    · rename_i s l hs hl
      cases h
      obtain ⟨a, k1, k2⟩ := arg_rep hs (hv 0 t v rfl rfl) h1
      obtain ⟨m, k3, k4⟩ := args_rep hl (fun j t v h3 h4 => hv (j + 1) t v h3 h4) h2
      exact ⟨a :: m, .cons k1 k3, .cons k2 k4⟩
    · cases h

/-- A law that the evaluator finds true of all arguments. -/
theorem law_fit {C : CallF} (hC : CallOk P C) {f : FuncId} {fn : Func} {s : ChangeSpec} {apart fresh handsOn : Bool} {args : Array Value} {ds gs : List (DataW H)} {before : List MemPlace} {tr : TypeId} {r : Reach} {b k : Nat} {shs : List ASh} (hvars : s.vars = []) (hl : laidOutB P = true)
    (hread : ∀ t ∈ fn.params.toList, P.readableRec t = true ∧ t < P.types.size) (hr : fn.resultTypes = #[tr]) (htr : P.underlying tr = some .bool)
    (hval : ∀ (j : Nat) t v, fn.params[j]? = some t → args[j]? = some v → Value.okWide P W r b t v)
    (hW : DataW.Whole enc P fn.params.toList s.vars apart W args.toList ds gs before) (hfn : s.fn H (ds ++ gs) = { results := [.lit (.bool true)], args := ds }) (hs : ashsOf P k fn.params.toList = some shs)
    (h : ∀ l, FitAs shs l → ∃ st, C f l .mt = some (.ret (.v (.bool true)), st)) :
    Calls P f args W fun e W' => ∃ v, e = .returned v ∧ s.post enc P fn apart fresh handsOn false W args v W' := by
  have hW' := hW
  obtain ⟨p, q, hA, _, _, _, _⟩ := hW'
  obtain ⟨l, k1, k2⟩ := args_rep hs (fun j t v h1 h2 => hval j t v (by simpa using h1) (by simpa using h2)) hA
  obtain ⟨st, k3⟩ := h l k2
  exact law_contract hC hvars hl hread hr htr hW hfn k3 k1

theorem fitN_nums {k : IntKind} : ∀ {n : Nat} {cs : List AV}, FitN [.int k] n cs → ∃ l : List Int, cs = (l.map fun x => .v (.int k x)) ∧ l.length = n ∧ ∀ x ∈ l, k.min ≤ x ∧ x ≤ k.max
  | _, _, .nil => ⟨[], rfl, rfl, by simp⟩
  | _, _, .cons (.cons (.int (n := x) hw) .nil) h => by
    obtain ⟨l, rfl, rfl, hl⟩ := fitN_nums h
    refine ⟨x :: l, rfl, rfl, fun y hy => ?_⟩
    rcases List.mem_cons.1 hy with rfl | hy
    · simpa [Lit.wf] using hw
    · exact hl y hy

end

end VS
end Go.Proofs.Ytbnhmahkgeaajaa
