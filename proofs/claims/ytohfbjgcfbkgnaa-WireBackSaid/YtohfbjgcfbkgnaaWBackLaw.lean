/- WireBack: the law. -/
import Derived.Test.YtohfbjgcfbkgnaaWEqL
namespace Go.Proofs.Ytohfbjgcfbkgnaa
namespace VS

def c10 : Nat → SCode
  | 0 => s10.body
  | n + 1 => sndC (c10 n)

def inR (n : Int) : Bool := decide (0 ≤ n ∧ n < 9007199254740992)
theorem inR_norm {n : Int} (h : inR n = true) : norm n = n := by
  simp only [inR, decide_eq_true_eq] at h
  exact norm_id h.1 h.2
theorem inRange' (n : Int) (st : St) : callL T 11 [.v (.int .i64 n)] st = some (.ret (.v (.bool (inR n))), st) := inRange n st

theorem not46 (n : Int) (st : St) : callL T 46 [.v (.int .i64 n)] st = some (.ret (.v (.bool (!inR n))), st) := by
  rw [call_plain T46 rfl rfl (expA_cons (exp1_v _ _) rfl)]
  simp [inner_eq, s46, inRange', dropped, expR]
theorem not48 (p : Int × Int) (st : St) : callL T 48 [.agg (gx p)] st = some (.ret (.v (.bool (!inR p.1 || !inR p.2))), st) := by
  have he : exp1 st (.agg (gx p)) = some (.agg (gx p), st) := exp1_agg (expL_cons rfl (expL_cons rfl rfl))
  rw [call_plain T48 rfl rfl (expA_cons he rfl)]
  cases h1 : inR p.1 <;> cases h2 : inR p.2 <;> simp [inner_eq, s48, gx, opLoad, mt_H, mt_F, inRange', h1, h2, dropped, expR]
theorem not50 {w : Wr} (hw : w.Fit) (st : St) : callL T 50 [.agg (gw w)] st = some (.ret (.v (.bool (!inR w.vol || !inR w.start))), st) := by
  obtain ⟨y, _, hy, hy0⟩ := hw.isL.exps
  have hx : expL st (gw w) = some ([.v (.int .i64 w.vol), .v (.int .i64 w.start), y], st) := by simp only [gw, expL, exp0_v, hy0]
  have he : exp1 st (.agg (gw w)) = some (.agg [.v (.int .i64 w.vol), .v (.int .i64 w.start), y], st) := by simp only [exp1, hx]
  rw [call_plain T50 rfl rfl (expA_cons he rfl)]
  cases h1 : inR w.vol <;> cases h2 : inR w.start <;> simp [inner_eq, s50, opLoad, mt_H, mt_F, inRange', h1, h2, dropped, expR]

/-- What is put is read again. -/
theorem backP {α : Type} {N f : FuncId} {R : List Int → Except Int (α × List Int)} {fin : α → AV → Prop} {z v0 y : AV} {rest e : List Int} {a : α} (hf : Pub f R fin z) (hy : IsB y rest) (hb : Byt rest) (he : Byt e) (hl : rest.length ≤ 1000) (hel : e.length ≤ 1000000)
    (hN : ∀ st, ∃ z st', callL T N [.v (.slice none 0 0), v0] st = some (.ret z, st') ∧ App st' 1 z (bys e) e.length ∧ st'.H = st.H) (hR : R (e ++ rest) = .ok (a, rest)) (st : St) :
    ∃ w st1 p st2 v r, callL T N [.v (.slice none 0 0), v0] st = some (.ret w, st1) ∧ st1.H = st.H ∧ opAppend st1 1 1 w y = some (p, st2) ∧ st2.H = st.H ∧ callL T f [p] st2 = some (.ret (.tup [v, r, .v (.int .i64 0)]), st2) ∧ fin a v ∧
      ∀ st', callL T 12 [r, y] st' = some (.ret (.v (.bool true)), st') := by
  obtain ⟨w, st1, h1, hA, hH⟩ := hN st
  obtain ⟨p, st2, h2, hB, hH2⟩ := app_append (bytes := 1) hA hy.isL (by omega) (by simp only [most47]; omega) (by omega)
  rw [← bys_append] at hB
  have hp := hB.isB' (by simp)
  obtain ⟨v, r, h3, h4, h5, _, h6⟩ := (hf hp (he.append hb) (by rw [List.length_append]; omega) st2).1 _ _ hR
  exact ⟨w, st1, p, st2, v, r, h1, hH, h2, hH2.trans hH, h3, h6, fun st' => by rw [bytesEqual' h4 hy h5 hb]; simp⟩

theorem back5 {a b c d y : AV} (bad : Bool) {st : St} (hst : st.H = [{ cells := [a, b, c, d], fz := false }]) (hh : callL T 45 [a, .fn 46 []] st = some (.ret (.v (.bool bad)), st))
    (hg : bad = false → ∃ w st1 p st2 v r, callL T 18 [.v (.slice none 0 0), a] st = some (.ret w, st1) ∧ st1.H = st.H ∧ opAppend st1 1 1 w y = some (p, st2) ∧ st2.H = st.H ∧ callL T 31 [p] st2 = some (.ret (.tup [v, r, .v (.int .i64 0)]), st2) ∧ callL T 38 [v, a] st2 = some (.ret (.v (.bool true)), st2) ∧
      ∀ st', callL T 12 [r, y] st' = some (.ret (.v (.bool true)), st')) :
    ∃ fr' st', runL T (fstC (c10 5)) { s := [(1, y), (2, .ptr 0 0)], d := [] } st = some (.nx, fr', st') ∧ fr'.only [1, 2] = { s := [(1, y), (2, .ptr 0 0)], d := [] } ∧ st'.H = [{ cells := [a, b, c, d], fz := false }] := by
  have l1 := opLoad_at hst
  cases bad with
  | true =>
    refine ⟨?s, st, ?a, ?b, hst⟩
    case a =>
      simp [fstC, c10, sndC, s10, l1, hh]
      try rfl
    case b => simp
  | false =>
    obtain ⟨w, st1, p, st2, v, r, h1, h2, h3, h4, h5, h6, h7⟩ := hg rfl
    rw [hst] at h4
    have l2 := opLoad_at h4
    refine ⟨?s2, st2, ?a2, ?b2, h4⟩
    case a2 =>
      simp [fstC, c10, sndC, s10, l1, hh, h1, h3, h5, l2, h6, h7]
      try rfl
    case b2 => simp

theorem back6 {a b c d y : AV} (bad : Bool) {st : St} (hst : st.H = [{ cells := [a, b, c, d], fz := false }]) (hh : callL T 47 [c, .fn 48 []] st = some (.ret (.v (.bool bad)), st))
    (hg : bad = false → ∃ w st1 p st2 v r, callL T 23 [.v (.slice none 0 0), c] st = some (.ret w, st1) ∧ st1.H = st.H ∧ opAppend st1 1 1 w y = some (p, st2) ∧ st2.H = st.H ∧ callL T 34 [p] st2 = some (.ret (.tup [v, r, .v (.int .i64 0)]), st2) ∧ callL T 42 [v, c] st2 = some (.ret (.v (.bool true)), st2) ∧
      ∀ st', callL T 12 [r, y] st' = some (.ret (.v (.bool true)), st')) :
    ∃ fr' st', runL T (fstC (c10 6)) { s := [(1, y), (2, .ptr 0 0)], d := [] } st = some (.nx, fr', st') ∧ fr'.only [1, 2] = { s := [(1, y), (2, .ptr 0 0)], d := [] } ∧ st'.H = [{ cells := [a, b, c, d], fz := false }] := by
  have l1 := opLoad_at hst
  cases bad with
  | true =>
    refine ⟨?s, st, ?a, ?b, hst⟩
    case a =>
      simp [fstC, c10, sndC, s10, l1, hh]
      try rfl
    case b => simp
  | false =>
    obtain ⟨w, st1, p, st2, v, r, h1, h2, h3, h4, h5, h6, h7⟩ := hg rfl
    rw [hst] at h4
    have l2 := opLoad_at h4
    refine ⟨?s2, st2, ?a2, ?b2, h4⟩
    case a2 =>
      simp [fstC, c10, sndC, s10, l1, hh, h1, h3, h5, l2, h6, h7]
      try rfl
    case b2 => simp

theorem back7 {a b c d y : AV} (bad : Bool) {st : St} (hst : st.H = [{ cells := [a, b, c, d], fz := false }]) (hh : callL T 49 [d, .fn 50 []] st = some (.ret (.v (.bool bad)), st))
    (hg : bad = false → ∃ w st1 p st2 v r, callL T 25 [.v (.slice none 0 0), d] st = some (.ret w, st1) ∧ st1.H = st.H ∧ opAppend st1 1 1 w y = some (p, st2) ∧ st2.H = st.H ∧ callL T 29 [p] st2 = some (.ret (.tup [v, r, .v (.int .i64 0)]), st2) ∧ callL T 44 [v, d] st2 = some (.ret (.v (.bool true)), st2) ∧
      ∀ st', callL T 12 [r, y] st' = some (.ret (.v (.bool true)), st')) :
    ∃ fr' st', runL T (fstC (c10 7)) { s := [(1, y), (2, .ptr 0 0)], d := [] } st = some (.nx, fr', st') ∧ fr'.only [] = { s := [], d := [] } ∧ st'.H = [{ cells := [a, b, c, d], fz := false }] := by
  have l1 := opLoad_at hst
  cases bad with
  | true =>
    refine ⟨?s, st, ?a, ?b, hst⟩
    case a =>
      simp [fstC, c10, sndC, s10, l1, hh]
      try rfl
    case b => simp
  | false =>
    obtain ⟨w, st1, p, st2, v, r, h1, h2, h3, h4, h5, h6, h7⟩ := hg rfl
    rw [hst] at h4
    have l2 := opLoad_at h4
    refine ⟨?s2, st2, ?a2, ?b2, h4⟩
    case a2 =>
      simp [fstC, c10, sndC, s10, l1, hh, h1, h3, h5, l2, h6, h7]
      try rfl
    case b2 => simp

set_option maxHeartbeats 1000000 in
theorem wireBack {x a b c d : AV} {rest ns : List Int} {ss : List (List Int)} {xs : List (Int × Int)} {ws : List Wr} (hx0 : IsB x rest) (hb : Byt rest) (v : Vals a b c d ns ss xs ws) :
    callL T 10 [.agg [a, b, c, d], x] .mt = some (.ret (.v (.bool true)), .mt) := by
  obtain ⟨y, hy1, hy, _⟩ := hx0.exps
  rw [call_plain T10 rfl rfl (expA_cons (exp1_agg (v.cl .mt)) (expA_cons (hy1 _) rfl))]
  have k1 := hy.isL.len
  obtain ⟨r, hr, hrt⟩ := few20 v
  cases r with
  | false => simp [inner_eq, s10, opLoad, mt_H, mt_F, hr, awake, dropped, expR]
  | true =>
    by_cases g1 : (200 : Int) < rest.length
    · simp [inner_eq, s10, opLoad, mt_H, mt_F, hr, k1, g1, awake, dropped, expR]
    obtain ⟨f1, f2, f3, f4, f5⟩ := hrt rfl
    have hok : ∀ w ∈ ws, w.Ok := fun w hw => (v.fit w hw).ok (by have := f5 w hw; omega)
    have B1 := enc_length rest.length
    have B3 := enc_length ns.length
    have B4 := encs_le ns
    have B5 := es_le v.sec
    have B6 : (xs.flatMap ex).length ≤ 18 * xs.length := flat_le fun p _ => ex_le p
    have B7 := enc_length xs.length
    have B8 : (ws.flatMap ew).length ≤ 8027 * ws.length := flat_le fun w hw => ew_le (hok w hw)
    have B9 := enc_length ws.length
    have p8 : ∀ st, dropped .mt (endR [.tmp 4] (runL T (c10 8) { s := [], d := [] } st)) = some (.ret (.v (.bool true)), .mt) := fun st => by
      simp [c10, sndC, s10, awake, dropped, expR]
    have p7 : ∀ st : St, st.H = [{ cells := [a, b, c, d], fz := false }] → dropped .mt (endR [.tmp 4] (runL T (c10 7) { s := [(1, y), (2, .ptr 0 0)], d := [] } st)) = some (.ret (.v (.bool true)), .mt) := fun st hst => by
      obtain ⟨fr', st', h1, h2, _⟩ := back7 (y := y) (ws.any fun w => !inR w.vol || !inR w.start) hst (has83 (by omega) (flat_wr ws) v.w (fun w hw st => not50 (v.fit w hw) st) st) fun hbad => by
        rw [List.any_eq_false] at hbad
        have hall : ∀ w ∈ ws, norm w.vol = w.vol ∧ norm w.start = w.start := fun w hw => by
          have := hbad w hw
          simp at this
          exact ⟨inR_norm this.1, inR_norm this.2⟩
        have hR : lists wrR ((enc ws.length ++ ws.flatMap ew) ++ rest) = .ok (ws.map plw, rest) := by
          rw [lists_back (l := ws) (by omega) rest fun w hw r => wrR_back (hok w hw) r]
          congr 2
          refine List.map_congr_left fun w hw => ?_
          rw [(hall w hw).1, (hall w hw).2]; rfl
        obtain ⟨w, st1, p, st2, u, r, e1, e2, e3, e4, e5, ⟨ms, e6, e7, e8⟩, e9⟩ := backP (N := 25) pub29 hy hb (wr_byt hok) (by omega) (by rw [List.length_append]; omega) (fun st => by
          obtain ⟨z, st', h1, h2, h3⟩ := putWrites hok (by omega) (IsL.nil (sz := 1) (q := none)) v.w (by omega) st
          exact ⟨z, st', h1, by simpa using h2, h3⟩) hR st
        have hlm : ms.length = ws.length := by simpa using congrArg List.length e6
        refine ⟨w, st1, p, st2, u, r, e1, e2, e3, e4, e5, ?_, e9⟩
        refine eqWrs (l := ms) (m := ws) (fun m hm => (e8 m hm).ok ?_) hok e6 e7 v.w (by omega) st2
        have : plw m ∈ ws.map plw := by rw [← e6]; exact List.mem_map_of_mem hm
        obtain ⟨w', hw', hpl⟩ := List.mem_map.1 this
        have h3 := (hok w' hw').few
        have h4 : w'.secs = m.secs := by
          have := congrArg Prod.snd hpl
          exact this
        rw [← h4]; exact h3
      rw [show c10 7 = .seq [] (fstC (c10 7)) (c10 8) from rfl, runL_seq', h1, thenR_nx, seqK_eq, h2]
      exact p8 st'
    have p6 : ∀ st : St, st.H = [{ cells := [a, b, c, d], fz := false }] → dropped .mt (endR [.tmp 4] (runL T (c10 6) { s := [(1, y), (2, .ptr 0 0)], d := [] } st)) = some (.ret (.v (.bool true)), .mt) := fun st hst => by
      obtain ⟨fr', st', h1, h2, h3⟩ := back6 (y := y) (xs.any fun p => !inR p.1 || !inR p.2) hst (has82 (by omega) (flat_ext xs) v.e (fun p _ st => not48 p st) st) fun hbad => by
        rw [List.any_eq_false] at hbad
        have hR : lists pairR ((enc xs.length ++ xs.flatMap ex) ++ rest) = .ok (xs, rest) := by
          rw [lists_back (l := xs) (f := fun p => (norm p.1, norm p.2)) (by omega) rest fun p _ r => pairR_ex p r]
          congr 2
          refine (List.map_congr_left fun p hp => ?_).trans (List.map_id xs)
          have := hbad p hp
          simp at this
          simp [inR_norm this.1, inR_norm this.2]
        obtain ⟨w, st1, p, st2, u, r, e1, e2, e3, e4, e5, e6, e9⟩ := backP (N := 23) pub34 hy hb (ext_byt xs) (by omega) (by rw [List.length_append]; omega) (fun st => by
          obtain ⟨z, st', h1, h2, h3⟩ := putExtents (l := xs) (by omega) (IsL.nil (sz := 1) (q := none)) v.e (by omega) st
          exact ⟨z, st', h1, by simpa using h2, h3⟩) hR st
        exact ⟨w, st1, p, st2, u, r, e1, e2, e3, e4, e5, eqExts e6 v.e (by omega) st2, e9⟩
      rw [show c10 6 = .seq [1, 2] (fstC (c10 6)) (c10 7) from rfl, runL_seq', h1, thenR_nx, seqK_eq, h2]
      exact p7 st' h3
    have p5 : ∀ st : St, st.H = [{ cells := [a, b, c, d], fz := false }] → dropped .mt (endR [.tmp 4] (runL T (c10 5) { s := [(1, y), (2, .ptr 0 0)], d := [] } st)) = some (.ret (.v (.bool true)), .mt) := fun st hst => by
      have hfi : Flat (fun n => [AV.v (.int .i64 n)]) 1 ns (ints ns) := ints_flat' ns
      obtain ⟨fr', st', h1, h2, h3⟩ := back5 (y := y) (ns.any fun n => !inR n) hst (has81 (by omega) hfi v.i (fun n _ st => not46 n st) st) fun hbad => by
        rw [List.any_eq_false] at hbad
        have hR : lists num ((enc ns.length ++ encs ns) ++ rest) = .ok (ns, rest) := by
          have := lists_back (l := ns) (R := num) (e := enc) (f := norm) (by omega) rest fun n _ r => num_enc n r
          rw [show encs ns = ns.flatMap enc from rfl, this]
          congr 2
          refine (List.map_congr_left fun n hn => ?_).trans (List.map_id ns)
          have := hbad n hn
          simp at this
          simp [inR_norm this]
        obtain ⟨w, st1, p, st2, u, r, e1, e2, e3, e4, e5, e6, e9⟩ := backP (N := 18) pub31 hy hb ((enc_byt _).append (encs_byt _)) (by omega) (by rw [List.length_append]; omega) (fun st => by
          obtain ⟨z, st', h1, h2, h3⟩ := putInts (IsL.nil (sz := 1) (q := none)) v.i (by omega) (by omega) st
          exact ⟨z, st', h1, by simpa using h2, h3⟩) hR st
        exact ⟨w, st1, p, st2, u, r, e1, e2, e3, e4, e5, eqInts e6 v.i (by omega) st2, e9⟩
      rw [show c10 5 = .seq [1, 2] (fstC (c10 5)) (c10 6) from rfl, runL_seq', h1, thenR_nx, seqK_eq, h2]
      exact p6 st' h3
    obtain ⟨w1, s1, q1, t1, u1, r1, a1, a2, a3, a4, a5, a6, a7⟩ := backP (N := 16) (v0 := y) (e := enc rest.length ++ rest) pub33 hy hb ((enc_byt _).append hb) (by omega) (by rw [List.length_append]; omega) (fun st => by
      obtain ⟨z, st', h1, h2, h3⟩ := putBytes (IsL.nil (sz := 1) (q := none)) hy.isL (by omega) (by omega) st
      refine ⟨z, st', h1, ?_, h3⟩
      simpa [bys_append] using h2) (textR_back (by omega) rest) { H := [{ cells := [a, b, c, d], fz := false }], F := [] }
    obtain ⟨w2, s2, q2, t2, u2, r2, b1, b2, b3, b4, b5, b6, b7⟩ := backP (N := 21) (v0 := b) pub30 hy hb (es_byt v.sec) (by omega) (by omega) (fun st => by
      obtain ⟨z, st', h1, h2, h3⟩ := putSectors v.sec (by omega) (IsL.nil (sz := 1) (q := none)) v.s (by omega) st
      exact ⟨z, st', h1, by simpa using h2, h3⟩) (secs_back v.sec (by omega) rest) t1
    rw [a4] at b4
    have l1 := opLoad_at a4
    have l2 := opLoad_at b4
    have l6 := opLoad_all (st := { H := [{ cells := [a, b, c, d], fz := false }], F := [] }) rfl
    have c1 : ∀ st', callL T 12 [u1, y] st' = some (.ret (.v (.bool true)), st') := fun st' => by rw [bytesEqual' a6.1 hy a6.2 hb]; simp
    have c2 := eqSecs v.sec b6.1 v.s (by omega) t2
    have last := p5 t2 b4
    have head : ∀ o, runL T (c10 5) { s := [(1, y), (2, .ptr 0 0)], d := [] } t2 = o → runL T s10.body { s := [(0, .agg [a, b, c, d]), (1, y)], d := [] } .mt = o := by
      intro o ho
      have e5 : s10.body = .seq [1, 2] (fstC (c10 0)) (.seq [1, 2] (fstC (c10 1)) (.seq [1, 2, 5, 6, 7] (fstC (c10 2)) (.seq [1, 2, 5, 6, 7, 8, 9, 10] (fstC (c10 3)) (.seq [1, 2] (fstC (c10 4)) (c10 5))))) := rfl
      rw [e5]
      generalize c10 5 = K at ho ⊢
      simp [fstC, c10, sndC, s10, mt_H, mt_F, l6, hr, k1, g1, a1, a3, a5, l1, b1, b3, b5, l2, c1, c2, a7, b7]
      exact ho
    rw [inner_eq]
    show dropped .mt (endR [.tmp 4] (runL T s10.body { s := [(0, .agg [a, b, c, d]), (1, y)], d := [] } .mt)) = _
    rw [head _ rfl]
    exact last

end VS
end Go.Proofs.Ytohfbjgcfbkgnaa
