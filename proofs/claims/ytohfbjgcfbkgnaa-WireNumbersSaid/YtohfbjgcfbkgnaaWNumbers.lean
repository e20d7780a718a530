/- WireNumbers. -/
import Derived.Test.YtohfbjgcfbkgnaaWNum
namespace Go.Proofs.Ytohfbjgcfbkgnaa
namespace VS

theorem numLoop {x b l : AV} {d : List Int} (hx : IsB x d) (hd : Byt d) (hm : d.length ≤ 1000) (ns : List Int) (t : Tag) (hlen : ns.length ≤ 1000) : ∀ (k i : Nat) (st : St), i + k = ns.length →
    ∃ fr' st', runL T (.loop [0, 1, 2, 27, 28, 29] s4b0) { s := [(0, x), (1, b), (2, l), (27, .sl (ints ns) ns.length t), (28, .v (.int .i64 ns.length)), (29, .v (.int .i64 i))], d := [] } st = some (.ex 0, fr', st') ∧
      fr'.only [0, 1, 2] = { s := [(0, x), (1, b), (2, l)], d := [] }
  | 0, i, st, hi => by
    refine ⟨?s, st, ?a, ?b⟩
    case a =>
      rw [runL_loop]
      have : ¬ (i : Int) < ns.length := by omega
      simp [s4b0, this]
      rfl
    case b => simp
  | k + 1, i, st, hi => by
    have hlt : i < ns.length := by omega
    obtain ⟨y, st1, h1, hA, _⟩ := PutInt ns[i] hx.isL (by omega) st
    obtain ⟨z, st2, h2, hB, _⟩ := refPutInt ns[i] hx.isL (by omega) st1
    have e : d.length + (enc ns[i]).length = (d ++ enc ns[i]).length := by simp
    rw [← bys_append, e] at hA hB
    have heq := bytesEqual' hA.isB hB.isB (hd.append (enc_byt _)) (hd.append (enc_byt _)) st2
    obtain ⟨fr', st', hr, hfr⟩ := numLoop (b := b) (l := l) hx hd hm ns t hlen k (i + 1) st2 (by omega)
    refine ⟨fr', st', ?_, hfr⟩
    rw [runL_loop]
    generalize hL : SCode.loop [0, 1, 2, 27, 28, 29] s4b0 = L
    have hw : IntKind.wrap .i64 ((i : Int) + 1) = ((i + 1 : Nat) : Int) := by rw [wrap_i64 (by omega) (by omega)]; omega
    have h3 : (i : Int) < ns.length := by omega
    have h4 := ints_get ns i hlt
    simp [s4b0, h3, opLoad, h4, h1, h2, heq, hw]
    subst hL
    refine (loop_from ?_).trans hr
    simp

theorem wireNumbers {x b l : AV} {d bb ns : List Int} (hx0 : IsB x d) (hb0 : IsB b bb) (hl0 : IsL 1 l (ints ns) ns.length) (hd : Byt d) (hbb : Byt bb) : callL T 4 [x, b, l] .mt = some (.ret (.v (.bool true)), .mt) := by
  obtain ⟨x', hx1, hx, _⟩ := hx0.exp .mt
  obtain ⟨b', hb1, hb, _⟩ := hb0.exp .mt
  obtain ⟨l', hl1, hl, _⟩ := hl0.exp .mt
  rw [call_plain T4 rfl rfl (show expA .mt [x, b, l] = some ([x', b', l'], .mt) by simp [expA, hx1, hb1, hl1])]
  have k1 := hx.isL.len
  have k2 := hb.isL.len
  have k3 := hl.len
  by_cases g1 : (200 : Int) < d.length
  · simp [inner_eq, s4, k1, g1, awake, dropped, expR]
  by_cases g2 : (600 : Int) < bb.length
  · simp [inner_eq, s4, k1, k2, g1, g2, awake, dropped, expR]
  by_cases g3 : (200 : Int) < ns.length
  · simp [inner_eq, s4, k1, k2, k3, g1, g2, g3, awake, dropped, expR]
  obtain ⟨u, st1, hap, hA, _⟩ := app_append (st := .mt) (sz := 1) (bytes := 8) (x := .sl [.v (.int .i64 bb.length)] 1 .full) (cs := [.v (.int .i64 bb.length)]) (n := 1) (.full (by simp)) hl (by omega) (by simp only [most47]; omega) (by omega)
  have e : [AV.v (.int .i64 bb.length)] ++ ints ns = ints ((bb.length : Int) :: ns) := rfl
  have e2 : 1 + ns.length = ((bb.length : Int) :: ns).length := by simp [Nat.add_comm]
  rw [e, e2] at hA
  have hms : ((bb.length : Int) :: ns).length = ns.length + 1 := by simp
  generalize ((bb.length : Int) :: ns) = ms at hA hms
  obtain ⟨t, rfl, _⟩ := hA.form (by omega)
  obtain ⟨fr', st2, hr, hfr⟩ := numLoop (b := b') (l := l') hx hd (by omega) ms t (by omega) _ 0 st1 (Nat.zero_add _)
  have hu := loop_use hr
  obtain ⟨p1, st3, c1, A1, _⟩ := putBytes hx.isL hb.isL (by omega) (by omega) st2
  obtain ⟨p2, st4, c2, A2, _⟩ := refPutBytes hx.isL hb.isL (by omega) (by omega) st3
  have e3 : d.length + (enc bb.length).length + bb.length = (d ++ enc bb.length ++ bb).length := by simp [Nat.add_assoc]
  rw [← bys_append, ← bys_append, e3] at A1 A2
  have q1 := bytesEqual' A1.isB A2.isB ((hd.append (enc_byt _)).append hbb) ((hd.append (enc_byt _)).append hbb) st4
  obtain ⟨p3, st5, c3, A3, _⟩ := putInts hx.isL hl (by omega) (by omega) st4
  obtain ⟨p4, st6, c4, A4, _⟩ := refPutInts hx.isL hl (by omega) (by omega) st5
  have e4 : d.length + (enc ns.length ++ encs ns).length = (d ++ (enc ns.length ++ encs ns)).length := by simp
  rw [← bys_append, e4] at A3 A4
  have hby : Byt (d ++ (enc ns.length ++ encs ns)) := hd.append ((enc_byt _).append (encs_byt _))
  have q2 := bytesEqual' A3.isB A4.isB hby hby st6
  simp [inner_eq, s4, k1, k2, k3, g1, g2, g3, hap]
  rw [hu _ (by simp)]
  simp [hfr, c1, c2, q1, c3, c4, q2, awake, dropped, expR]

end VS
end Go.Proofs.Ytohfbjgcfbkgnaa
