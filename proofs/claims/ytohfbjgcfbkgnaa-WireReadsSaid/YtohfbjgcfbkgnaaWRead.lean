/- The cursor's readers: lengths, pairs, bytes, sectors, extents, writes, lists. -/
import Derived.Test.YtohfbjgcfbkgnaaWCur
namespace Go.Proofs.Ytohfbjgcfbkgnaa
namespace VS

def lenR (l : List Int) : Except Int (Int × List Int) := match num l with
  | .ok (n, r) => if 65536 < n then .error 5 else .ok (n, r)
  | .error e => .error e

theorem lenR_ok {l r : List Int} {n : Int} (h : lenR l = .ok (n, r)) : num l = .ok (n, r) ∧ n ≤ 65536 := by
  unfold lenR at h
  split at h
  · rename_i m r' hn
    split at h
    · cases h
    · cases h; exact ⟨hn, by omega⟩
  · cases h

theorem lenR_err {l : List Int} {e : Int} (h : lenR l = .error e) : num l = .error e ∨ (e = 5 ∧ ∃ n r, num l = .ok (n, r) ∧ 65536 < n) := by
  unfold lenR at h
  split at h
  · rename_i m r' hn
    split at h
    · cases h; exact .inr ⟨rfl, m, r', hn, by assumption⟩
    · cases h
  · rename_i hn; cases h; exact .inl hn

/-- (*cursor).length -/
theorem length84 : Rd 84 lenR (fun _ n v => v = .v (.int .i64 n)) (fun v => ∃ n, v = .v (.int .i64 n)) := by
  intro b st l hat hb hlen
  obtain ⟨ok, er⟩ := number b st l hat hb hlen
  refine ⟨fun n r h => ?_, fun e h => ?_⟩
  · obtain ⟨hn, hle⟩ := lenR_ok h
    obtain ⟨v, st', h1, h2, h3, h4, h5, rfl⟩ := ok _ _ hn
    refine ⟨_, st', ?_, h2, h3, h4, h5, rfl⟩
    rw [call_whole T84 (.inl rfl) rfl]
    have : ¬ 65536 < n := by omega
    simp [inner_eq, s84, h1, this]
  · rcases lenR_err h with hn | ⟨rfl, n, r, hn, hgt⟩
    · obtain ⟨h0, v, st', h1, h2, rfl⟩ := er _ hn
      refine ⟨h0, .v (.int .i64 0), st', ?_, h2, 0, rfl⟩
      rw [call_whole T84 (.inl rfl) rfl]
      simp [inner_eq, s84, h1, h0]
    · obtain ⟨v, st', h1, h2, h3, h4, h5, rfl⟩ := ok _ _ hn
      refine ⟨by omega, .v (.int .i64 n), st', ?_, h5, n, rfl⟩
      rw [call_whole T84 (.inl rfl) rfl]
      simp [inner_eq, s84, h1, hgt]

def pairR (l : List Int) : Except Int ((Int × Int) × List Int) := match num l with
  | .ok (a, r) => (match num r with
    | .ok (c, r2) => .ok ((a, c), r2)
    | .error e => .error e)
  | .error e => .error e

theorem pairR_ok {l r : List Int} {p : Int × Int} (h : pairR l = .ok (p, r)) : ∃ m, num l = .ok (p.1, m) ∧ num m = .ok (p.2, r) := by
  unfold pairR at h
  split at h
  · rename_i a m hn
    split at h
    · rename_i c r2 hm; cases h; exact ⟨m, hn, hm⟩
    · cases h
  · cases h
theorem pairR_err {l : List Int} {e : Int} (h : pairR l = .error e) : num l = .error e ∨ ∃ a m, num l = .ok (a, m) ∧ num m = .error e := by
  unfold pairR at h
  split at h
  · rename_i a m hn
    split at h
    · cases h
    · rename_i hm; cases h; exact .inr ⟨a, m, hn, hm⟩
  · rename_i hn; cases h; exact .inl hn

/-- (*cursor).pair -/
theorem pair85 (b : Nat) (st : St) (l : List Int) (hat : At b st l) (hb : Byt l) (hlen : l.length ≤ 1099511627776) :
    (∀ p r, pairR l = .ok (p, r) → ∃ st', callL T 85 [.ptr b 0] st = some (.ret (.tup [.v (.int .i64 p.1), .v (.int .i64 p.2), .v (.int .i64 0)]), st') ∧ At b st' r ∧ Byt r ∧ r.length ≤ l.length ∧ Cur b st st') ∧
    (∀ e, pairR l = .error e → e ≠ 0 ∧ ∃ x y st', callL T 85 [.ptr b 0] st = some (.ret (.tup [.v (.int .i64 x), .v (.int .i64 y), .v (.int .i64 e)]), st') ∧ Cur b st st') := by
  obtain ⟨ok, er⟩ := number b st l hat hb hlen
  refine ⟨fun p r h => ?_, fun e h => ?_⟩
  · obtain ⟨m, hn, hm⟩ := pairR_ok h
    obtain ⟨v, st1, h1, h2, h3, h4, h5, rfl⟩ := ok _ _ hn
    obtain ⟨ok2, _⟩ := number b st1 m h2 h3 (by omega)
    obtain ⟨v, st2, k1, k2, k3, k4, k5, rfl⟩ := ok2 _ _ hm
    refine ⟨st2, ?_, k2, k3, by omega, h5.trans k5⟩
    rw [call_whole T85 (.inl rfl) rfl]
    simp [inner_eq, s85, h1, k1]
  · rcases pairR_err h with hn | ⟨a, m, hn, hm⟩
    · obtain ⟨h0, v, st', h1, h2, rfl⟩ := er _ hn
      refine ⟨h0, 0, 0, st', ?_, h2⟩
      rw [call_whole T85 (.inl rfl) rfl]
      simp [inner_eq, s85, h1, h0]
    · obtain ⟨v, st1, h1, h2, h3, h4, h5, rfl⟩ := ok _ _ hn
      obtain ⟨_, er2⟩ := number b st1 m h2 h3 (by omega)
      obtain ⟨h0, v, st2, k1, k2, rfl⟩ := er2 _ hm
      refine ⟨h0, a, 0, st2, ?_, h5.trans k2⟩
      rw [call_whole T85 (.inl rfl) rfl]
      simp [inner_eq, s85, h1, k1]

theorem Byt.take {l : List Int} (h : Byt l) (n : Nat) : Byt (l.take n) := fun b hb => h b (List.mem_of_mem_take hb)
theorem Byt.drop {l : List Int} (h : Byt l) (n : Nat) : Byt (l.drop n) := fun b hb => h b (List.mem_of_mem_drop hb)

/-- (*cursor).bytes -/
theorem bytes88 {b : Nat} {st : St} {l : List Int} (hat : At b st l) (n : Nat) :
    (n ≤ l.length → ∃ v st', callL T 88 [.ptr b 0, .v (.int .i64 n)] st = some (.ret (.tup [v, .v (.int .i64 0)]), st') ∧ IsB v (l.take n) ∧ At b st' (l.drop n) ∧ Cur b st st') ∧
    (l.length < n → callL T 88 [.ptr b 0, .v (.int .i64 n)] st = some (.ret (.tup [.v (.slice none 0 0), .v (.int .i64 10)]), st)) := by
  have hlt := hat.lt
  obtain ⟨x, hH, hx⟩ := id hat
  have hc := cur_load hH
  have hk := hx.isL.len
  refine ⟨fun hn => ?_, fun hn => ?_⟩
  · obtain ⟨u, hu, hul⟩ := slice_to (k := .i64) hx hn
    obtain ⟨v, hv, hvl⟩ := slice_from (k := .i64) hx hn
    have hst := cur_store hH hvl.one
    have h1 : ¬ (l.length : Int) < n := by omega
    refine ⟨u, { H := st.H.set b { cells := [v], fz := false }, F := st.F }, ?_, hul, ⟨v, by simp [hlt], hvl⟩, (Cur.refl b st).set⟩
    rw [call_whole T88 (.inl rfl) rfl]
    simp [inner_eq, s88, hc, hk, h1, hu, hv, hst]
  · have h1 : (l.length : Int) < n := by omega
    rw [call_whole T88 (.inl rfl) rfl]
    simp [inner_eq, s88, hc, hk, h1]

theorem store_at {st : St} {j k : Nat} {z l : List AV} (h : st.H[j]? = some { cells := z, fz := false }) (hz : z.length = k) (hl : l.length = k) : opStore st k (.ptr j 0) (.agg l) = some { H := st.H.set j { cells := l, fz := false }, F := st.F } := by
  subst hz
  simp [opStore, h, hl]

/-- An element, read. -/
def El {α β : Type} (c : Nat) (g : β → List AV) (pl : β → α) (ok : β → Prop) (a : α) (v : AV) : Prop := ∃ (x : β) (cs : List AV), pl x = a ∧ v = .agg cs ∧ cs.length = c ∧ (∀ st, expL st cs = some (g x, st)) ∧ ok x
def Bad (c : Nat) (v : AV) : Prop := ∃ cs, v = .agg cs ∧ cs.length = c

theorem expL_bys : ∀ (s : List Int) (st : St), expL st (bys s) = some (bys s, st)
  | [], _ => rfl
  | _ :: r, st => expL_cons rfl (expL_bys r st)

def secR (l : List Int) : Except Int (List Int × List Int) := if l.length < 8 then .error 10 else .ok (l.take 8, l.drop 8)

/-- (*cursor).sector -/
theorem sector87 : Rd 87 secR (fun _ a v => El 8 bys id Sec a v) (Bad 8) := by
  intro b st l hat hb hlen
  have hlt := hat.lt
  have hat1 := hat.alloc (m := [{ cells := [.v (.int .u8 0), .v (.int .u8 0), .v (.int .u8 0), .v (.int .u8 0), .v (.int .u8 0), .v (.int .u8 0), .v (.int .u8 0), .v (.int .u8 0)], fz := false }]) (F := st.F)
  obtain ⟨ok, er⟩ := bytes88 hat1 8
  refine ⟨fun a r h => ?_, fun e h => ?_⟩
  · unfold secR at h
    split at h
    · cases h
    · rename_i h8
      cases h
      obtain ⟨v, st', h1, h2, h3, h4⟩ := ok (by omega)
      have hl8 : (l.take 8).length = 8 := by rw [List.length_take]; omega
      obtain ⟨t, rfl, ht⟩ := h2.form (by omega)
      have hblk : st'.H[st.H.length]? = some { cells := [.v (.int .u8 0), .v (.int .u8 0), .v (.int .u8 0), .v (.int .u8 0), .v (.int .u8 0), .v (.int .u8 0), .v (.int .u8 0), .v (.int .u8 0)], fz := false } := (h4.other _ (by omega) (by simp)).trans (by simp)
      have hst := store_at (k := 8) (l := bys (l.take 8)) hblk rfl (by simp [hl8])
      have hpt : partOf (bys (l.take 8)) 0 (some 8) = some (.agg (bys (l.take 8))) := partOf_some (by simp [hl8]) (by rw [List.drop_zero, List.take_of_length_le (by simp [hl8])])
      have hlt2 := (List.getElem?_eq_some_iff.1 hblk).1
      refine ⟨.agg (bys (l.take 8)), { H := st'.H.set st.H.length { cells := bys (l.take 8), fz := false }, F := st'.F }, ?_, h3.setNe (by omega), hb.drop 8, by simp, (Cur.alloc.trans h4).setNew (Nat.le_refl _), ⟨l.take 8, bys (l.take 8), rfl, rfl, by simp [hl8], expL_bys _, hl8, hb.take 8⟩⟩
      rw [call_whole T87 (.inl rfl) rfl]
      have h1' : callL T 88 [.ptr b 0, .v (.int .i64 8)] { H := st.H ++ [{ cells := [.v (.int .u8 0), .v (.int .u8 0), .v (.int .u8 0), .v (.int .u8 0), .v (.int .u8 0), .v (.int .u8 0), .v (.int .u8 0), .v (.int .u8 0)], fz := false }], F := st.F } = some (.ret (.tup [.sl (bys (l.take 8)) (l.take 8).length t, .v (.int .i64 0)]), st') := h1
      rw [hl8] at h1'
      have htk : (bys (l.take 8)).take 8 = bys (l.take 8) := List.take_of_length_le (by simp [hl8])
      have h8' : 8 ≤ l.length := by omega
      simp [inner_eq, s87, h1', opLoad_ep, hpt, hst, -partOf]
      simp [hlt2, htk, h8']
  · unfold secR at h
    split at h
    · rename_i h8
      cases h
      have h1 := er h8
      have hst := store_at (st := { H := st.H ++ [{ cells := [.v (.int .u8 0), .v (.int .u8 0), .v (.int .u8 0), .v (.int .u8 0), .v (.int .u8 0), .v (.int .u8 0), .v (.int .u8 0), .v (.int .u8 0)], fz := false }], F := st.F }) (j := st.H.length) (k := 8) (z := [.v (.int .u8 0), .v (.int .u8 0), .v (.int .u8 0), .v (.int .u8 0), .v (.int .u8 0), .v (.int .u8 0), .v (.int .u8 0), .v (.int .u8 0)]) (l := [.v (.int .u8 0), .v (.int .u8 0), .v (.int .u8 0), .v (.int .u8 0), .v (.int .u8 0), .v (.int .u8 0), .v (.int .u8 0), .v (.int .u8 0)]) (by simp) rfl rfl
      refine ⟨by omega, .agg [.v (.int .u8 0), .v (.int .u8 0), .v (.int .u8 0), .v (.int .u8 0), .v (.int .u8 0), .v (.int .u8 0), .v (.int .u8 0), .v (.int .u8 0)], { H := List.set (st.H ++ [{ cells := [.v (.int .u8 0), .v (.int .u8 0), .v (.int .u8 0), .v (.int .u8 0), .v (.int .u8 0), .v (.int .u8 0), .v (.int .u8 0), .v (.int .u8 0)], fz := false }]) st.H.length { cells := [.v (.int .u8 0), .v (.int .u8 0), .v (.int .u8 0), .v (.int .u8 0), .v (.int .u8 0), .v (.int .u8 0), .v (.int .u8 0), .v (.int .u8 0)], fz := false }, F := st.F }, ?_, Cur.setNew (s := st) (st := { H := st.H ++ [{ cells := [.v (.int .u8 0), .v (.int .u8 0), .v (.int .u8 0), .v (.int .u8 0), .v (.int .u8 0), .v (.int .u8 0), .v (.int .u8 0), .v (.int .u8 0)], fz := false }], F := st.F }) Cur.alloc (Nat.le_refl _), _, rfl, rfl⟩
      rw [call_whole T87 (.inl rfl) rfl]
      have h1' : callL T 88 [.ptr b 0, .v (.int .i64 8)] { H := st.H ++ [{ cells := [.v (.int .u8 0), .v (.int .u8 0), .v (.int .u8 0), .v (.int .u8 0), .v (.int .u8 0), .v (.int .u8 0), .v (.int .u8 0), .v (.int .u8 0)], fz := false }], F := st.F } = some (.ret (.tup [.v (.slice none 0 0), .v (.int .i64 10)]), { H := st.H ++ [{ cells := [.v (.int .u8 0), .v (.int .u8 0), .v (.int .u8 0), .v (.int .u8 0), .v (.int .u8 0), .v (.int .u8 0), .v (.int .u8 0), .v (.int .u8 0)], fz := false }], F := st.F }) := h1
      simp only [inner_eq, s87]
      simp [h1', hst]
    · cases h

end VS
end Go.Proofs.Ytohfbjgcfbkgnaa
