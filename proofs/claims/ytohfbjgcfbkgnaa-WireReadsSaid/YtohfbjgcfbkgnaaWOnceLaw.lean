/- WireOnce, WireTears: the laws. -/
import Derived.Test.YtohfbjgcfbkgnaaWPub
namespace Go.Proofs.Ytohfbjgcfbkgnaa
namespace VS

def sndC : SCode → SCode
  | .seq _ _ b => b
  | c => c
def fstC : SCode → SCode
  | .seq _ a _ => a
  | c => c
def c8 : Nat → SCode
  | 0 => s8.body
  | n + 1 => sndC (c8 n)

/-- again -/
theorem again32 {x e r : AV} {l le lr : List Int} (hx : IsB x l) (he : IsB e le) (hr : IsB r lr) (bl : Byt l) (be : Byt le) (br : Byt lr) (h1 : le.length ≤ 1000000000) (h2 : lr.length ≤ 1000000000) (hl : l = le ++ lr) (st : St) : callL T 32 [x, e, r] st = some (.ret (.v (.bool true)), st) := by
  obtain ⟨x', hx1, hx2, _⟩ := hx.exps
  obtain ⟨e', he1, he2, _⟩ := he.exps
  obtain ⟨r', hr1, hr2, _⟩ := hr.exps
  rw [call_plain T32 rfl rfl (expA_cons (hx1 st) (expA_cons (he1 st) (expA_cons (hr1 st) rfl)))]
  obtain ⟨y, st1, c1, hA, _⟩ := clone he2.isL (by omega) .mt
  obtain ⟨z, st2, c2, hB, _⟩ := app_append (bytes := 1) hA hr2.isL (by omega) (by simp only [most47]; omega) (by omega)
  rw [← bys_append] at hB
  have q := bytesEqual' hx2 (hB.isB' (by simp)) bl (be.append br) st2
  simp [inner_eq, s32, c1, c2, q, dropped, expR, hl]

theorem once2 {x v y : AV} {e : Int} {st : St} (hr : callL T 28 [x] st = some (.ret (.tup [v, y, .v (.int .i64 e)]), st)) (hp : e = 0 → ∃ w st', callL T 13 [.v (.slice none 0 0), v] st = some (.ret w, st') ∧ callL T 32 [x, w, y] st' = some (.ret (.v (.bool true)), st')) :
    ∃ fr' st', runL T (fstC (c8 2)) { s := [(0, x)], d := [] } st = some (.nx, fr', st') ∧ fr'.only [0] = { s := [(0, x)], d := [] } := by
  by_cases he : e = 0
  · obtain ⟨w, st', h1, h2⟩ := hp he
    refine ⟨?s, st', ?a, ?b⟩
    case a =>
      simp [fstC, c8, sndC, s8, hr, he, h1, h2]
      rfl
    case b => simp
  · refine ⟨?s, st, ?a, ?b⟩
    case a =>
      simp [fstC, c8, sndC, s8, hr, he]
      try rfl
    case b => simp

theorem once3 {x v y : AV} {e : Int} {st : St} (hr : callL T 33 [x] st = some (.ret (.tup [v, y, .v (.int .i64 e)]), st)) (hp : e = 0 → ∃ w st', callL T 16 [.v (.slice none 0 0), v] st = some (.ret w, st') ∧ callL T 32 [x, w, y] st' = some (.ret (.v (.bool true)), st')) :
    ∃ fr' st', runL T (fstC (c8 3)) { s := [(0, x)], d := [] } st = some (.nx, fr', st') ∧ fr'.only [0] = { s := [(0, x)], d := [] } := by
  by_cases he : e = 0
  · obtain ⟨w, st', h1, h2⟩ := hp he
    refine ⟨?s, st', ?a, ?b⟩
    case a =>
      simp [fstC, c8, sndC, s8, hr, he, h1, h2]
      rfl
    case b => simp
  · refine ⟨?s, st, ?a, ?b⟩
    case a =>
      simp [fstC, c8, sndC, s8, hr, he]
      try rfl
    case b => simp

theorem once4 {x v y : AV} {e : Int} {st : St} (hr : callL T 31 [x] st = some (.ret (.tup [v, y, .v (.int .i64 e)]), st)) (hp : e = 0 → ∃ w st', callL T 18 [.v (.slice none 0 0), v] st = some (.ret w, st') ∧ callL T 32 [x, w, y] st' = some (.ret (.v (.bool true)), st')) :
    ∃ fr' st', runL T (fstC (c8 4)) { s := [(0, x)], d := [] } st = some (.nx, fr', st') ∧ fr'.only [0] = { s := [(0, x)], d := [] } := by
  by_cases he : e = 0
  · obtain ⟨w, st', h1, h2⟩ := hp he
    refine ⟨?s, st', ?a, ?b⟩
    case a =>
      simp [fstC, c8, sndC, s8, hr, he, h1, h2]
      rfl
    case b => simp
  · refine ⟨?s, st, ?a, ?b⟩
    case a =>
      simp [fstC, c8, sndC, s8, hr, he]
      try rfl
    case b => simp

theorem once5 {x v y : AV} {e : Int} {st : St} (hr : callL T 30 [x] st = some (.ret (.tup [v, y, .v (.int .i64 e)]), st)) (hp : e = 0 → ∃ w st', callL T 21 [.v (.slice none 0 0), v] st = some (.ret w, st') ∧ callL T 32 [x, w, y] st' = some (.ret (.v (.bool true)), st')) :
    ∃ fr' st', runL T (fstC (c8 5)) { s := [(0, x)], d := [] } st = some (.nx, fr', st') ∧ fr'.only [0] = { s := [(0, x)], d := [] } := by
  by_cases he : e = 0
  · obtain ⟨w, st', h1, h2⟩ := hp he
    refine ⟨?s, st', ?a, ?b⟩
    case a =>
      simp [fstC, c8, sndC, s8, hr, he, h1, h2]
      rfl
    case b => simp
  · refine ⟨?s, st, ?a, ?b⟩
    case a =>
      simp [fstC, c8, sndC, s8, hr, he]
      try rfl
    case b => simp

theorem once6 {x v y : AV} {e : Int} {st : St} (hr : callL T 34 [x] st = some (.ret (.tup [v, y, .v (.int .i64 e)]), st)) (hp : e = 0 → ∃ w st', callL T 23 [.v (.slice none 0 0), v] st = some (.ret w, st') ∧ callL T 32 [x, w, y] st' = some (.ret (.v (.bool true)), st')) :
    ∃ fr' st', runL T (fstC (c8 6)) { s := [(0, x)], d := [] } st = some (.nx, fr', st') ∧ fr'.only [0] = { s := [(0, x)], d := [] } := by
  by_cases he : e = 0
  · obtain ⟨w, st', h1, h2⟩ := hp he
    refine ⟨?s, st', ?a, ?b⟩
    case a =>
      simp [fstC, c8, sndC, s8, hr, he, h1, h2]
      rfl
    case b => simp
  · refine ⟨?s, st, ?a, ?b⟩
    case a =>
      simp [fstC, c8, sndC, s8, hr, he]
      try rfl
    case b => simp

theorem once7 {x v y : AV} {e : Int} {st : St} (hr : callL T 29 [x] st = some (.ret (.tup [v, y, .v (.int .i64 e)]), st)) (hp : e = 0 → ∃ w st', callL T 25 [.v (.slice none 0 0), v] st = some (.ret w, st') ∧ callL T 32 [x, w, y] st' = some (.ret (.v (.bool true)), st')) :
    ∃ fr' st', runL T (fstC (c8 7)) { s := [(0, x)], d := [] } st = some (.nx, fr', st') ∧ fr'.only [] = { s := [], d := [] } := by
  by_cases he : e = 0
  · obtain ⟨w, st', h1, h2⟩ := hp he
    refine ⟨?s, st', ?a, ?b⟩
    case a =>
      simp [fstC, c8, sndC, s8, hr, he, h1, h2]
      rfl
    case b => simp
  · refine ⟨?s, st, ?a, ?b⟩
    case a =>
      simp [fstC, c8, sndC, s8, hr, he]
      try rfl
    case b => simp

/-- What a public reader answers, put again. -/
theorem onceP {α : Type} {f P : FuncId} {R : List Int → Except Int (α × List Int)} {fin : α → AV → Prop} {z : AV} (hf : Pub f R fin z) {x : AV} {st : St} {l : List Int} (hx : IsB x l) (hb : Byt l) (hl : l.length ≤ 1000)
    (hP : ∀ a r v, R l = .ok (a, r) → fin a v → ∃ e, l = e ++ r ∧ ∀ st, ∃ w st', callL T P [.v (.slice none 0 0), v] st = some (.ret w, st') ∧ IsB w e) :
    ∃ v y e, callL T f [x] st = some (.ret (.tup [v, y, .v (.int .i64 e)]), st) ∧ (e = 0 → ∃ w st', callL T P [.v (.slice none 0 0), v] st = some (.ret w, st') ∧ callL T 32 [x, w, y] st' = some (.ret (.v (.bool true)), st')) := by
  cases h : R l with
  | ok p =>
    obtain ⟨a, r⟩ := p
    obtain ⟨v, y, h1, h2, h3, h4, h5⟩ := (hf hx hb (by omega) st).1 _ _ h
    obtain ⟨e, he, hw⟩ := hP _ _ _ h h5
    refine ⟨v, y, 0, h1, fun _ => ?_⟩
    obtain ⟨w, st', k1, k2⟩ := hw st
    have hbe : Byt e := by rw [he] at hb; exact fun b h => hb b (by simp [h])
    have hel : e.length ≤ l.length := by rw [he]; simp
    exact ⟨w, st', k1, again32 hx k2 h2 hb hbe h3 (by omega) (by omega) he st'⟩
  | error e =>
    obtain ⟨h0, h1⟩ := (hf hx hb (by omega) st).2 _ h
    exact ⟨_, _, e, h1, fun h => absurd h h0⟩

theorem mem_le {α : Type} {e : α → List Int} : ∀ {l : List α} {x : α}, x ∈ l → (e x).length ≤ (l.flatMap e).length
  | y :: r, x, h => by
    rw [List.flatMap_cons, List.length_append]
    rcases List.mem_cons.1 h with rfl | h
    · omega
    · have := mem_le (e := e) h; omega
theorem sec_len {l : List (List Int)} (h : ∀ s ∈ l, Sec s) : (l.flatMap id).length = 8 * l.length := by
  induction l with
  | nil => simp
  | cons s r ih =>
    have h1 := (h s (by simp)).1
    have := ih fun x hx => h x (by simp [hx])
    rw [List.flatMap_cons, List.length_append, List.length_cons]
    simp only [id]; omega

theorem ewp_plw (w : Wr) : ewp (plw w) = ew w := by simp [ewp, plw, ew, ex]

theorem wireOnce {x : AV} {l : List Int} (hx0 : IsB x l) (hb : Byt l) : callL T 8 [x] .mt = some (.ret (.v (.bool true)), .mt) := by
  obtain ⟨x', hx1, hx, _⟩ := hx0.exps
  rw [call_plain T8 rfl rfl (expA_cons (hx1 .mt) rfl)]
  have k1 := hx.isL.len
  by_cases g1 : (1000 : Int) < l.length
  · simp [inner_eq, s8, k1, g1, awake, dropped, expR]
  have hl : l.length ≤ 1000 := by omega
  have p8 : ∀ st, dropped .mt (endR [.tmp 2] (runL T (c8 8) { s := [], d := [] } st)) = some (.ret (.v (.bool true)), .mt) := fun st => by
    simp [c8, sndC, s8, awake, dropped, expR]
  have p7 : ∀ st, dropped .mt (endR [.tmp 2] (runL T (c8 7) { s := [(0, x')], d := [] } st)) = some (.ret (.v (.bool true)), .mt) := fun st => by
    obtain ⟨v, y, e, h1, h2⟩ := onceP (P := 25) (st := st) pub29 hx hb hl <| fun a r v h hv => by
      obtain ⟨h1, h2⟩ := lists_once wrR_once hb h
      refine ⟨_, h1, fun st => ?_⟩
      obtain ⟨ws, rfl, k2, k3⟩ := hv
      have hsz : ∀ w ∈ ws, w.secs.length ≤ 1000 := fun w hw => by
        have : (ewp (plw w)).length ≤ l.length := by
          rw [h1, List.length_append, List.length_append, List.flatMap_map]
          have := mem_le (e := fun w => ewp (plw w)) hw
          omega
        rw [ewp_plw] at this
        have := sec_len (k3 w hw).sec
        simp only [ew, es, List.length_append] at *
        omega
      rw [List.length_map] at h2
      obtain ⟨w, st', c1, c2, _⟩ := putWrites (fun w hw => (k3 w hw).ok (hsz w hw)) (by omega) (IsL.nil (sz := 1) (q := none)) k2 (by omega) st
      simp only [List.nil_append, Nat.zero_add] at c2
      refine ⟨w, st', c1, ?_⟩
      have : (ws.map plw).flatMap ewp = ws.flatMap ew := by rw [List.flatMap_map]; simp only [ewp_plw]
      rw [List.length_map, this]
      exact c2.isB
    obtain ⟨fr', st', k1, k2⟩ := once7 h1 h2
    rw [show c8 7 = .seq [] (fstC (c8 7)) (c8 8) from rfl, runL_seq', k1, thenR_nx, seqK_eq, k2]
    exact p8 st'
  have p6 : ∀ st, dropped .mt (endR [.tmp 2] (runL T (c8 6) { s := [(0, x')], d := [] } st)) = some (.ret (.v (.bool true)), .mt) := fun st => by
    obtain ⟨v, y, e, h1, h2⟩ := onceP (P := 23) (st := st) pub34 hx hb hl <| fun a r v h hv => by
      obtain ⟨h1, h2⟩ := lists_once pairR_once hb h
      refine ⟨_, h1, fun st => ?_⟩
      obtain ⟨w, st', c1, c2, _⟩ := putExtents (l := a) (by omega) (IsL.nil (sz := 1) (q := none)) hv (by omega) st
      simp only [List.nil_append, Nat.zero_add] at c2
      exact ⟨w, st', c1, c2.isB⟩
    obtain ⟨fr', st', k1, k2⟩ := once6 h1 h2
    rw [show c8 6 = .seq [0] (fstC (c8 6)) (c8 7) from rfl, runL_seq', k1, thenR_nx, seqK_eq, k2]
    exact p7 st'
  have p5 : ∀ st, dropped .mt (endR [.tmp 2] (runL T (c8 5) { s := [(0, x')], d := [] } st)) = some (.ret (.v (.bool true)), .mt) := fun st => by
    obtain ⟨v, y, e, h1, h2⟩ := onceP (P := 21) (st := st) pub30 hx hb hl <| fun a r v h hv => by
      obtain ⟨h1, h2⟩ := lists_once secR_once hb h
      refine ⟨_, h1, fun st => ?_⟩
      obtain ⟨w, st', c1, c2, _⟩ := putSectors hv.2 (by omega) (IsL.nil (sz := 1) (q := none)) hv.1 (by omega) st
      simp only [List.nil_append, Nat.zero_add] at c2
      exact ⟨w, st', c1, c2.isB⟩
    obtain ⟨fr', st', k1, k2⟩ := once5 h1 h2
    rw [show c8 5 = .seq [0] (fstC (c8 5)) (c8 6) from rfl, runL_seq', k1, thenR_nx, seqK_eq, k2]
    exact p6 st'
  have p4 : ∀ st, dropped .mt (endR [.tmp 2] (runL T (c8 4) { s := [(0, x')], d := [] } st)) = some (.ret (.v (.bool true)), .mt) := fun st => by
    obtain ⟨v, y, e, h1, h2⟩ := onceP (P := 18) (st := st) pub31 hx hb hl <| fun a r v h hv => by
      obtain ⟨h1, h2⟩ := lists_once (e := enc) (fun l r a hb h => num_once hb h) hb h
      refine ⟨_, h1, fun st => ?_⟩
      obtain ⟨w, st', c1, c2, _⟩ := putInts (IsL.nil (sz := 1) (q := none)) hv (by omega) (by omega) st
      simp only [List.nil_append, Nat.zero_add] at c2
      exact ⟨w, st', c1, c2.isB⟩
    obtain ⟨fr', st', k1, k2⟩ := once4 h1 h2
    rw [show c8 4 = .seq [0] (fstC (c8 4)) (c8 5) from rfl, runL_seq', k1, thenR_nx, seqK_eq, k2]
    exact p5 st'
  have p3 : ∀ st, dropped .mt (endR [.tmp 2] (runL T (c8 3) { s := [(0, x')], d := [] } st)) = some (.ret (.v (.bool true)), .mt) := fun st => by
    obtain ⟨v, y, e, h1, h2⟩ := onceP (P := 16) (st := st) pub33 hx hb hl <| fun a r v h hv => by
      obtain ⟨h1, h2⟩ := textR_once hb h
      refine ⟨_, h1, fun st => ?_⟩
      obtain ⟨w, st', c1, c2, _⟩ := putBytes (IsL.nil (sz := 1) (q := none)) hv.1.isL (by omega) (by omega) st
      simp only [List.nil_append, Nat.zero_add] at c2
      rw [← bys_append] at c2
      exact ⟨w, st', c1, c2.isB' (by simp)⟩
    obtain ⟨fr', st', k1, k2⟩ := once3 h1 h2
    rw [show c8 3 = .seq [0] (fstC (c8 3)) (c8 4) from rfl, runL_seq', k1, thenR_nx, seqK_eq, k2]
    exact p4 st'
  have p2 : ∀ st, dropped .mt (endR [.tmp 2] (runL T (c8 2) { s := [(0, x')], d := [] } st)) = some (.ret (.v (.bool true)), .mt) := fun st => by
    obtain ⟨v, y, e, h1, h2⟩ := onceP (P := 13) (st := st) pub28 hx hb hl <| fun n r v h hv => ⟨enc n, num_once hb h, fun st => by
      cases hv
      obtain ⟨w, st', c1, c2, _⟩ := PutInt n (IsL.nil (sz := 1) (q := none)) (by omega) st
      simp only [List.nil_append, Nat.zero_add] at c2
      exact ⟨w, st', c1, c2.isB⟩⟩
    obtain ⟨fr', st', k1, k2⟩ := once2 h1 h2
    rw [show c8 2 = .seq [0] (fstC (c8 2)) (c8 3) from rfl, runL_seq', k1, thenR_nx, seqK_eq, k2]
    exact p3 st'
  have p1 : ∀ st, dropped .mt (endR [.tmp 2] (runL T (c8 1) { s := [(0, x')], d := [] } st)) = some (.ret (.v (.bool true)), .mt) := fun st => by
    have h : runL T (fstC (c8 1)) { s := [(0, x')], d := [] } st = some (.nx, { s := [(0, x'), (23, .v (.bool false))], d := [] }, st) := by simp [fstC, c8, sndC, s8, k1, g1]
    rw [show c8 1 = .seq [0] (fstC (c8 1)) (c8 2) from rfl, runL_seq', h, thenR_nx, seqK_eq, show ({ s := [(0, x'), (23, .v (.bool false))], d := [] } : Fr).only [0] = { s := [(0, x')], d := [] } by simp]
    exact p2 st
  rw [inner_eq]
  show dropped .mt (endR [.tmp 2] (runL T (c8 0) { s := [(0, x')], d := [] } .mt)) = _
  have h : runL T (fstC (c8 0)) { s := [(0, x')], d := [] } .mt = some (.nx, { s := [(2, .v (.bool false)), (0, x')], d := [] }, .mt) := by simp [fstC, c8, s8]
  rw [show c8 0 = .seq [0] (fstC (c8 0)) (c8 1) from rfl, runL_seq', h, thenR_nx, seqK_eq, show ({ s := [(2, .v (.bool false)), (0, x')], d := [] } : Fr).only [0] = { s := [(0, x')], d := [] } by simp]
  exact p1 .mt

theorem torn_cut {m : Nat} {A : List Int} (h : A ≠ []) : m % A.length < A.length := Nat.mod_lt _ (List.length_pos_iff.2 h)

theorem pub_torn {α : Type} {f : FuncId} {R : List Int → Except Int (α × List Int)} {fin : α → AV → Prop} {z : AV} (hf : Pub f R fin z) (hR : Pre R) {x : AV} {A : List Int} {a : α} (h : R A = .ok (a, [])) (hb : Byt A) (hl : A.length ≤ 1000000) {k : Nat} (hk : k < A.length) (hx : IsB x (A.take k)) (st : St) :
    callL T f [x] st = some (.ret (.tup [z, .v (.slice none 0 0), .v (.int .i64 10)]), st) :=
  ((hf hx (hb.take k) (by rw [List.length_take]; omega) st).2 _ (torn hR h hk)).2

set_option maxHeartbeats 1000000 in
theorem wireTears {a b c d : AV} {n : Int} {m : Nat} {ns : List Int} {ss : List (List Int)} {xs : List (Int × Int)} {ws : List Wr} (hm : m ≤ 65535) (v : Vals a b c d ns ss xs ws) :
    callL T 7 [.agg [a, b, c, d], .v (.int .i64 n), .v (.int .u16 m)] .mt = some (.ret (.v (.bool true)), .mt) := by
  rw [call_plain T7 rfl rfl (expA_cons (exp1_agg (v.cl .mt)) (expA_cons (exp1_v _ _) (expA_cons (exp1_v _ _) rfl)))]
  obtain ⟨r, hr, hrt⟩ := few20 v
  cases r with
  | false => simp [inner_eq, s7, opLoad, mt_H, mt_F, hr, awake, dropped, expR]
  | true =>
    obtain ⟨f1, f2, f3, f4, f5⟩ := hrt rfl
    have hok : ∀ w ∈ ws, w.Ok := fun w hw => (v.fit w hw).ok (by have := f5 w hw; omega)
    have B1 := enc_length n
    have B3 := enc_length ns.length
    have B4 := encs_le ns
    have B5 := es_le v.sec
    have B8 : (ws.flatMap ew).length ≤ 8027 * ws.length := flat_le fun w hw => ew_le (hok w hw)
    have B9 := enc_length ws.length
    obtain ⟨y1, s1, a1, A1, e1⟩ := PutInt n (IsL.nil (sz := 1) (q := none)) (by omega) { H := [{ cells := [a, b, c, d], fz := false }], F := [] }
    obtain ⟨y2, s2, a2, A2, e2⟩ := putWrites hok (by omega) (IsL.nil (sz := 1) (q := none)) v.w (by omega) s1
    obtain ⟨y3, s3, a3, A3, e3⟩ := putSectors v.sec (by omega) (IsL.nil (sz := 1) (q := none)) v.s (by omega) s2
    obtain ⟨y4, s4, a4, A4, e4⟩ := putInts (IsL.nil (sz := 1) (q := none)) v.i (by omega) (by omega) s3
    simp only [List.nil_append, Nat.zero_add] at A1 A2 A3 A4
    have i1 := A1.isB
    have i2 := A2.isB
    have i3 := A3.isB
    have i4 := A4.isB
    have r1 : num (enc n) = .ok (norm n, []) := by simpa using num_enc n []
    have r2 : lists wrR (enc ws.length ++ ws.flatMap ew) = .ok (ws.map fun w => ((norm w.vol, norm w.start), w.secs), []) := by
      have := lists_back (l := ws) (by omega) [] fun w hw r => wrR_back (hok w hw) r
      simpa using this
    have r3 : lists secR (es ss) = .ok (ss, []) := by simpa using secs_back v.sec (by omega) []
    have r4 : lists num (enc ns.length ++ encs ns) = .ok (ns.map norm, []) := by
      have := lists_back (l := ns) (R := num) (e := enc) (f := norm) (by omega) [] fun n _ r => num_enc n r
      simpa [encs] using this
    have b1 := enc_byt n
    have b2 := wr_byt hok
    have b3 := es_byt v.sec
    have b4 : Byt (enc ns.length ++ encs ns) := (enc_byt _).append (encs_byt _)
    have l2 : 1 ≤ (enc ws.length ++ ws.flatMap ew).length ∧ (enc ws.length ++ ws.flatMap ew).length ≤ 1000000 := by rw [List.length_append]; omega
    have l3 : 1 ≤ (es ss).length := by unfold es; rw [List.length_append]; have := enc_length ss.length; omega
    have l4 : 1 ≤ (enc ns.length ++ encs ns).length ∧ (enc ns.length ++ encs ns).length ≤ 1000000 := by rw [List.length_append]; omega
    generalize enc n = E1 at *
    generalize enc ws.length ++ ws.flatMap ew = E2 at *
    generalize es ss = E3 at *
    generalize enc ns.length ++ encs ns = E4 at *
    have n1 : E1 ≠ [] := by intro h; subst h; simp at B1
    have n2 : E2 ≠ [] := by intro h; subst h; simp at l2
    have n3 : E3 ≠ [] := by intro h; subst h; simp at l3
    have n4 : E4 ≠ [] := by intro h; subst h; simp at l4
    have m1 : m % E1.length < E1.length := torn_cut n1
    have m2 : m % E2.length < E2.length := torn_cut n2
    have m3 : m % E3.length < E3.length := torn_cut n3
    have m4 : m % E4.length < E4.length := torn_cut n4
    obtain ⟨u1, c1, d1⟩ := slice_to (k := .i64) i1 (Nat.le_of_lt m1)
    obtain ⟨u2, c2, d2⟩ := slice_to (k := .i64) i2 (Nat.le_of_lt m2)
    obtain ⟨u3, c3, d3⟩ := slice_to (k := .i64) i3 (Nat.le_of_lt m3)
    obtain ⟨u4, c4, d4⟩ := slice_to (k := .i64) i4 (Nat.le_of_lt m4)
    have q1 := pub_torn pub28 num_pre r1 b1 (by omega) m1 d1 s4
    have q2 := pub_torn pub29 (lists_pre wrR_pre) r2 b2 (by omega) m2 d2 s4
    have q3 := pub_torn pub30 (lists_pre secR_pre) r3 b3 (by omega) m3 d3 s4
    have q4 := pub_torn pub31 (lists_pre num_pre) r4 b4 (by omega) m4 d4 s4
    have t1 : Int.tmod (m : Int) (E1.length : Int) = ((m % E1.length : Nat) : Int) := rfl
    have t2 : Int.tmod (m : Int) (E2.length : Int) = ((m % E2.length : Nat) : Int) := rfl
    have t3 : Int.tmod (m : Int) (E3.length : Int) = ((m % E3.length : Nat) : Int) := rfl
    have t4 : Int.tmod (m : Int) (E4.length : Int) = ((m % E4.length : Nat) : Int) := rfl
    have w0 : IntKind.wrap .i64 (m : Int) = m := wrap_i64 (by omega) (by omega)
    have L6 := opLoad_all (st := { H := [{ cells := [a, b, c, d], fz := false }], F := [] }) rfl
    rw [e1] at e2
    rw [e2] at e3
    have L1 := opLoad_at e1
    have L2 := opLoad_at e2
    have L3 := opLoad_at e3
    have z1 := i1.isL.len
    have z2 := i2.isL.len
    have z3 := i3.isL.len
    have z4 := i4.isL.len
    simp [inner_eq, s7, mt_H, mt_F, L6, hr, a1, L1, a2, L2, a3, L3, a4, z1, z2, z3, z4, n1, n2, n3, n4, w0, t1, t2, t3, t4, c1, c2, c3, c4, q1, q2, q3, q4, awake, dropped, expR]

end VS
end Go.Proofs.Ytohfbjgcfbkgnaa
