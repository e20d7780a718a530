/- PacketDetects. -/
import Derived.Test.YtkhekmmldnjenaaPk2
namespace Go.Proofs.Ytkhekmmldnjenaa
namespace VS

theorem guard_exp {T : FuncId → Option SFn} {f : FuncId} {s : SFn} {args args1 : List AV} {st st0 : St} (hT : T f = some s) (hk : s.kind = .guard) (hl : args.length = s.np) (hl1 : args1.length = s.np) (hx : expA st args = some (args1, st0)) (hx1 : expA st0 args1 = some (args1, st0)) :
    callL T f args st = callL T f args1 st0 := by
  rw [call_guard hT hk hl hx, call_guard hT hk hl1 hx1]

theorem bys_isV : ∀ l : List Int, (bys l).all AV.isV = true
  | [] => rfl
  | b :: r => by
    have := bys_isV r
    unfold bys at this ⊢
    simp only [List.map_cons, List.all_cons, this, Bool.and_true]
    rfl

theorem bys_len (l : List Int) : (bys l).length = l.length := by simp [bys]

theorem bys_set (l : List Int) (i : Nat) (x : Int) (h : i < l.length) : (bys l).take i ++ (.v (.int .u8 x) :: (bys l).drop (i + 1)) = bys (l.set i x) := by
  unfold bys
  rw [List.set_eq_take_append_cons_drop, if_pos h]
  simp

/-- Clone, for a new block. -/
theorem clone9 {y : AV} {l : List Int} (hy : IsB y l) (hpos : 0 < l.length) (hlen : l.length ≤ 1000000) (st : St) : callL T 31 (y :: fmks) st = some (.ret (.hs st.H.length 0 l.length 1), { H := st.H ++ [{ cells := bys l, fz := false }], F := st.F }) := by
  cases hy with
  | nil => simp at hpos
  | sl ht =>
    rename_i t
    have hx : expA st [.sl (bys l) l.length t] = some ([.sl (bys l) l.length .ro], st) := by simp [expA, exp1, ht]
    have h := call_marked T31 rfl rfl hx
    rw [show [AV.sl (bys l) l.length t] ++ fmks = AV.sl (bys l) l.length t :: fmks from rfl] at h
    rw [h]
    have h47 : l.length ≤ most47 := by unfold most47; omega
    have hmax : l.length ≤ maxLen := by unfold maxLen; omega
    have hl := bys_len l
    have h0 : ¬ l.length = 0 := by omega
    have h1 : ¬ l = [] := fun h => by rw [h] at hpos; simp at hpos
    simp [inner_eq, s31, opAppend, srcOf, hl, h47, hmax, h0, h1, freshed, bys_isV, St.mt, hpos]

theorem exp_hs (H0 : List HB) (F : List (Nat × Nat)) (l : List Int) : expA { H := H0 ++ [{ cells := bys l, fz := false }], F := F } [.hs H0.length 0 l.length 1] = some ([.sl (bys l) l.length .ro], { H := H0 ++ [{ cells := bys l, fz := true }], F := F }) := by
  have h1 : (bys l).take l.length = bys l := List.take_of_length_le (by rw [bys_len]; omega)
  have h2 := bys_len l
  simp [expA, exp1, h1, h2, cleanL_bys, St.freeze]

theorem dec22h (H0 : List HB) (F : List (Nat × Nat)) {l : List Int} (hl : Byt l) (hlen : l.length ≤ 1000000) : ∃ q : Pk, callL T 22 [.hs H0.length 0 l.length 1] { H := H0 ++ [{ cells := bys l, fz := false }], F := F } = some (.ret (.tup [.agg (gp q), .v (.int .i64 (decP l).2)]), { H := H0 ++ [{ cells := bys l, fz := true }], F := F }) := by
  obtain ⟨q, _, _, h⟩ := dec22 (x := .sl (bys l) l.length .ro) (.sl (by simp)) hl hlen { H := H0 ++ [{ cells := bys l, fz := true }], F := F }
  exact ⟨q, by rw [guard_exp T22 rfl rfl rfl (exp_hs H0 F l) (by simp [expA, exp1]), h]⟩

theorem dec24h (H0 : List HB) (F : List (Nat × Nat)) {l : List Int} (hl : Byt l) (hlen : l.length ≤ 1000000) : ∃ q : Ms, callL T 24 [.hs H0.length 0 l.length 1] { H := H0 ++ [{ cells := bys l, fz := false }], F := F } = some (.ret (.tup [.agg (gm q), .v (.int .i64 (decM l).2)]), { H := H0 ++ [{ cells := bys l, fz := true }], F := F }) := by
  obtain ⟨q, _, _, h⟩ := dec24 (x := .sl (bys l) l.length .ro) (.sl (by simp)) hl hlen { H := H0 ++ [{ cells := bys l, fz := true }], F := F }
  exact ⟨q, by rw [guard_exp T24 rfl rfl rfl (exp_hs H0 F l) (by simp [expA, exp1]), h]⟩

/-- The byte that is changed. -/
theorem flip_ne {a b : Int} (a0 : 0 ≤ a) (a1 : a < 256) (b0 : 1 ≤ b) (b1 : b < 256) : xorI .u8 a b ≠ a ∧ 0 ≤ xorI .u8 a b ∧ xorI .u8 a b < 256 := by
  rw [xorI_u8 a0 a1 (by omega) b1]
  have h : a.toNat ^^^ b.toNat < 2 ^ 8 := Nat.xor_lt_two_pow (by omega) (by omega)
  refine ⟨fun he => ?_, by omega, by omega⟩
  have h1 : a.toNat ^^^ b.toNat = a.toNat := by omega
  have h2 : b.toNat = 0 := by
    have h3 := congrArg (fun x => a.toNat ^^^ x) h1
    simp only [← Nat.xor_assoc, Nat.xor_self, Nat.zero_xor] at h3
    exact h3
  omega

theorem lenK_hs (b q n z : Nat) (st : St) : lenK (some (.hs b q n z)) st = some (.ret (.v (.int .i64 n)), st) := by cases st; rfl

def c9 : Nat → SCode
  | 0 => s9.body
  | n + 1 => sndC (c9 n)

theorem msgPart9 {w : Ms} (hw : w.Fit) (f1 : w.ns.length ≤ 40) (f2 : w.bs.length ≤ 300) {a0 by' : Int} {a1 : AV} (ha0 : 0 ≤ a0) (ha1 : a0 < 256) (hb0 : 1 ≤ by') (hb1 : by' < 256) (x0 : HB) (J : List HB) (F : List (Nat × Nat)) :
    (endR [.tmp 6] (runL T (c9 4) { s := [(4, .ptr 1 0), (5, .ptr 2 0), (7, .v (.int .u8 by'))], d := [] } { H := x0 :: { cells := gm w, fz := false } :: { cells := [.v (.int .u8 a0), a1], fz := false } :: J, F := F })).map Prod.fst = some (.ret (.v (.bool true))) := by
  obtain ⟨y, hy, hyl⟩ := enc29 hw (by omega) (by omega) { H := x0 :: { cells := gm w, fz := false } :: { cells := [.v (.int .u8 a0), a1], fz := false } :: J, F := F }
  have t2 : List.take 8 (gm w) = gm w := rfl
  by_cases c2 : errM w = 0
  · rw [c2] at hy
    obtain ⟨_, hsz⟩ := errM_ok c2
    have he : encM w = sealB (bodM w) := by rw [encM, if_pos c2]
    rw [he] at hyl
    have hsl := sealB_len (bodM w)
    have hbyt : Byt (sealB (bodM w)) := he ▸ encM_byt hw
    have hbm : Byt (bodM w) := bodM_byt hw
    have hopen := fun {i : Nat} (hi : i < (sealB (bodM w)).length) {x : Int} => openE_set hbm hsz hi (x := x)
    generalize sealB (bodM w) = l at *
    have hlen := hyl.isL.len
    have hcl := clone9 hyl (by omega) (by omega)
    have hm : 0 ≤ a0.tmod l.length ∧ a0.tmod l.length < l.length := ⟨Int.tmod_nonneg _ ha0, Int.tmod_lt_of_pos _ (by omega)⟩
    obtain ⟨i, hi⟩ := Int.eq_ofNat_of_zero_le hm.1
    have hil : i < l.length := by omega
    have hil1 : i + 1 ≤ l.length := by omega
    obtain ⟨b0, b1⟩ := hbyt l[i] (List.getElem_mem hil)
    obtain ⟨g1, g2, g3⟩ := flip_ne b0 b1 hb0 hb1
    have hd := hopen hil g2 g3 g1
    have hset : Byt (l.set i (xorI .u8 l[i] by')) := fun b hb => by
      rcases List.mem_or_eq_of_mem_set hb with h | h
      · exact hbyt b h
      · subst h; exact ⟨g2, g3⟩
    obtain ⟨q, hdec⟩ := dec24h (x0 :: { cells := gm w, fz := false } :: { cells := [.v (.int .u8 a0), a1], fz := false } :: J) F hset (by rw [List.length_set]; omega)
    rw [decM_open hd, List.length_set] at hdec
    have hbs := bys_set l i (xorI .u8 l[i] by') hil
    have hget : (bys l)[i]? = some (.v (.int .u8 l[i])) := by simp [bys, hil]
    have hget2 : ∀ h, (bys l)[i]'h = .v (.int .u8 l[i]) := fun h => by simp [bys]
    have hbl := bys_len l
    have hw0 : IntKind.wrap .i64 a0 = a0 := wrap_i64 (by omega) (by omega)
    have hl4 : ¬ (l.length : Int) < 4 := by omega
    have hl4' : ¬ l.length < 4 := by omega
    have hn0 : ¬ (l.length : Int) = 0 := by omega
    have hn0' : ¬ l.length = 0 := by omega
    have hne : ¬ l = [] := fun h => by rw [h] at hil; simp at hil
    simp only [List.cons_append, List.length_cons] at hdec
    simp [c9, sndC, s9, opLoad, opStore, gm_len, t2, hy, hlen, hl4, hl4', hcl, hw0, hn0, hn0', hne, hi, hil, hil1, hget, hget2, hbl, hbs, hdec, aw, lenK_hs]
  · have hz : encM w = [] := by rw [encM, if_neg c2]
    simp [c9, sndC, s9, opLoad, gm_len, t2, hy, c2, aw]

theorem dropped_of {o : Option (Res × St)} {b : Bool} (h : o.map Prod.fst = some (.ret (.v (.bool b)))) (st : St) : dropped st o = some (.ret (.v (.bool b)), st) := by
  rw [Option.map_eq_some_iff] at h
  obtain ⟨⟨r, s⟩, rfl, h2⟩ := h
  simp only at h2
  subst h2
  simp [dropped, expR]

/-- PacketDetects -/
theorem law9 {p : Pk} {m : Ms} (hp : p.Fit) (hm : m.Fit) {a0 a1 : Int} (a00 : 0 ≤ a0) (a01 : a0 < 256) (a10 : 0 ≤ a1) (a11 : a1 < 256) : callL T 9 [.agg (gp p), .agg (gm m), .agg [.v (.int .u8 a0), .v (.int .u8 a1)]] .mt = some (.ret (.v (.bool true)), .mt) := by
  obtain ⟨q, hq, _, _, _, _, _, _, _, hexp, _⟩ := expL_gp hp .mt
  obtain ⟨w, hw, _, _, _, _, _, _, _, _, hexm, _⟩ := expL_gm hm .mt
  rw [call_plain T9 rfl rfl (show expA .mt _ = some ([.agg (gp q), .agg (gm w), .agg [.v (.int .u8 a0), .v (.int .u8 a1)]], .mt) by simp [expA, exp1, hexp, hexm])]
  refine dropped_of ?_ .mt
  have hlp := hq.pay.isL.len
  have hls := hq.sel.len
  have hlv := hw.lst.len
  have hlb := hw.bod.isL.len
  have t1 : List.take 7 (gp q) = gp q := rfl
  have g5 : (gp q)[5]? = some q.sel := rfl
  have g6 : (gp q)[6]? = some q.pay := rfl
  have k6 : (gm w)[6]? = some w.lst := rfl
  have k7 : (gm w)[7]? = some w.bod := rfl
  have t2 : List.take 8 (gm w) = gm w := rfl
  have e : s9.body = .seq [3, 4, 5] (fstC (c9 0)) (.seq [3, 4, 5] (fstC (c9 1)) (.seq [3, 4, 5, 7] (fstC (c9 2)) (.seq [4, 5, 7] (fstC (c9 3)) (c9 4)))) := rfl
  have er : s9.res = [.tmp 6] := rfl
  rw [inner_eq, e, er]
  by_cases c1 : 300 < q.bs.length
  · have c1' : (300 : Int) < q.bs.length := by omega
    simp [fstC, c9, sndC, s9, St.mt, opLoad, gp_len, gm_len, g6, hlp, c1, c1', aw]
  by_cases c2 : 40 < q.xs.length
  · have c1' : ¬ (300 : Int) < q.bs.length := by omega
    have c2' : (40 : Int) < q.xs.length := by omega
    simp [fstC, c9, sndC, s9, St.mt, opLoad, gp_len, gm_len, g5, g6, hlp, hls, c1, c1', c2, c2', aw]
  by_cases c3 : 40 < w.ns.length
  · have c1' : ¬ (300 : Int) < q.bs.length := by omega
    have c2' : ¬ (40 : Int) < q.xs.length := by omega
    have c3' : (40 : Int) < w.ns.length := by omega
    simp [fstC, c9, sndC, s9, St.mt, opLoad, gp_len, gm_len, g5, g6, k6, hlp, hls, hlv, c1, c1', c2, c2', c3, c3', aw]
  by_cases c4 : 300 < w.bs.length
  · have c1' : ¬ (300 : Int) < q.bs.length := by omega
    have c2' : ¬ (40 : Int) < q.xs.length := by omega
    have c3' : ¬ (40 : Int) < w.ns.length := by omega
    have c4' : (300 : Int) < w.bs.length := by omega
    simp [fstC, c9, sndC, s9, St.mt, opLoad, gp_len, gm_len, g5, g6, k6, k7, hlp, hls, hlv, hlb, c1, c1', c2, c2', c3, c3', c4, c4', aw]
  have c1' : ¬ (300 : Int) < q.bs.length := by omega
  have c2' : ¬ (40 : Int) < q.xs.length := by omega
  have c3' : ¬ (40 : Int) < w.ns.length := by omega
  have c4' : ¬ (300 : Int) < w.bs.length := by omega
  obtain ⟨by', hby, b0, b1⟩ : ∃ by' : Int, (if a1 < 1 then 1 else a1) = by' ∧ 1 ≤ by' ∧ by' < 256 := ⟨_, rfl, by split <;> omega, by split <;> omega⟩
  have hM := fun J F => msgPart9 hw (by omega) (by omega) a00 a01 b0 b1 (a1 := .v (.int .u8 a1)) { cells := gp q, fz := false } J F
  generalize c9 4 = C at hM ⊢
  obtain ⟨y, hy, hyl⟩ := enc18 hq (by omega) (by omega) { H := [{ cells := gp q, fz := false }, { cells := gm w, fz := false }, { cells := [.v (.int .u8 a0), .v (.int .u8 a1)], fz := false }], F := [] }
  by_cases d1 : chk q = 0
  · rw [d1] at hy
    have hsz := sealP_le d1 (by omega)
    have he : encP q = sealB (bodP q) := by rw [encP, if_pos d1]
    have hcut := decP_cut hq.byt d1 (by omega)
    rw [he] at hyl hcut
    have hsl := sealB_len (bodP q)
    have hbyt : Byt (sealB (bodP q)) := sealB_byt (bodP_byt hq)
    have hopen := fun {i : Nat} (hi : i < (sealB (bodP q)).length) {x : Int} => openE_set (bodP_byt hq) hsz hi (x := x)
    generalize sealB (bodP q) = l at *
    have hlen := hyl.isL.len
    have hcl := clone9 hyl (by omega) (by omega)
    have hm : 0 ≤ a0.tmod l.length ∧ a0.tmod l.length < l.length := ⟨Int.tmod_nonneg _ a00, Int.tmod_lt_of_pos _ (by omega)⟩
    obtain ⟨i, hi⟩ := Int.eq_ofNat_of_zero_le hm.1
    have hil : i < l.length := by omega
    have hil1 : i + 1 ≤ l.length := by omega
    obtain ⟨u0, u1⟩ := hbyt l[i] (List.getElem_mem hil)
    obtain ⟨v1, v2, v3⟩ := flip_ne u0 u1 b0 b1
    have hd := hopen hil v2 v3 v1
    have hset : Byt (l.set i (xorI .u8 l[i] by')) := fun b hb => by
      rcases List.mem_or_eq_of_mem_set hb with h | h
      · exact hbyt b h
      · subst h; exact ⟨v2, v3⟩
    obtain ⟨q1, hdec⟩ := dec22h [{ cells := gp q, fz := false }, { cells := gm w, fz := false }, { cells := [.v (.int .u8 a0), .v (.int .u8 a1)], fz := false }] [] hset (by rw [List.length_set]; omega)
    rw [decP_open hd, List.length_set] at hdec
    obtain ⟨z, hz, hzl⟩ := slice_to hyl (i := l.length - 1) (k := .i64) (by omega)
    have hwl : IntKind.wrap .i64 ((l.length : Int) - 1) = ((l.length - 1 : Nat) : Int) := by rw [wrap_i64 (by omega) (by omega)]; omega
    obtain ⟨q2, _, _, hdec2⟩ := dec22 hzl (hbyt.tk _) (by rw [List.length_take]; omega) { H := [{ cells := gp q, fz := false }, { cells := gm w, fz := false }, { cells := [.v (.int .u8 a0), .v (.int .u8 a1)], fz := false }, { cells := bys (l.set i (xorI .u8 l[i] by')), fz := true }, { cells := gp q1, fz := false }], F := [] }
    have hbs := bys_set l i (xorI .u8 l[i] by') hil
    have hget : (bys l)[i]? = some (.v (.int .u8 l[i])) := by simp [bys, hil]
    have hget2 : ∀ h, (bys l)[i]'h = .v (.int .u8 l[i]) := fun h => by simp [bys]
    have hbl := bys_len l
    have hw0 : IntKind.wrap .i64 a0 = a0 := wrap_i64 (by omega) (by omega)
    have hl4 : ¬ (l.length : Int) < 4 := by omega
    have hl4' : ¬ l.length < 4 := by omega
    have hn0 : ¬ (l.length : Int) = 0 := by omega
    have hn0' : ¬ l.length = 0 := by omega
    have hne : ¬ l = [] := fun h => by rw [h] at hil; simp at hil
    simp only [List.cons_append, List.nil_append, List.length_cons, List.length_nil] at hdec
    simp [fstC, c9, sndC, s9, St.mt, opLoad, opStore, gp_len, gm_len, t1, t2, g5, g6, k6, k7, hlp, hls, hlv, hlb, c1, c1', c2, c2', c3, c3', c4, c4', hby, hy, hlen, hl4, hl4', hcl, hw0, hn0, hn0', hne, hi, hil, hil1, hget, hget2, hbl, hbs, hdec, lenK_hs, hwl, hz, hdec2, hcut, hM]
  · simp [fstC, c9, sndC, s9, St.mt, opLoad, gp_len, gm_len, t1, t2, g5, g6, k6, k7, hlp, hls, hlv, hlb, c1, c1', c2, c2', c3, c3', c4, c4', hby, hy, d1, hM]

end VS
end Go.Proofs.Ytkhekmmldnjenaa
/- The arguments of law 9, read from the row. -/
namespace Go.Proofs.Ytkhekmmldnjenaa
namespace VS

theorem fit_at {x : AV} (h : FitA (.agg [.int .u8, .int .u8]) x) : ∃ a b : Int, x = .agg [.v (.int .u8 a), .v (.int .u8 b)] ∧ 0 ≤ a ∧ a < 256 ∧ 0 ≤ b ∧ b < 256 := by
  cases h with
  | agg h =>
    cases h with | @cons _ _ a0 _ h0 h => cases h with | @cons _ _ a1 _ h1 h =>
    cases h
    cases h0 with | @int _ n0 k0 => cases h1 with | @int _ n1 k1 =>
    exact ⟨n0, n1, rfl, (byte_of k0).1, (byte_of k0).2, (byte_of k1).1, (byte_of k1).2⟩

end VS
end Go.Proofs.Ytkhekmmldnjenaa
