/- WireReads: the law. -/
import Derived.Test.YtohfbjgcfbkgnaaWRefS
namespace Go.Proofs.Ytohfbjgcfbkgnaa
namespace VS

theorem both {α : Type} {f g : FuncId} {R : List Int → Except Int (α × List Int)} {fin : α → AV → Prop} {z : AV} {E : AV → AV → Prop} (hf : Pub f R fin z) (hg : Pub g R fin z) {x : AV} {l : List Int} (hx : IsB x l) (hb : Byt l) (hlen : l.length ≤ 1000)
    (hE : ∀ a r v w, R l = .ok (a, r) → fin a v → fin a w → E v w) (hz : E z z) (st : St) :
    ∃ v y e w u, callL T f [x] st = some (.ret (.tup [v, y, .v (.int .i64 e)]), st) ∧ callL T g [x] st = some (.ret (.tup [w, u, .v (.int .i64 e)]), st) ∧ (∀ st, callL T 12 [y, u] st = some (.ret (.v (.bool true)), st)) ∧ E v w := by
  cases h : R l with
  | ok p =>
    obtain ⟨a, r⟩ := p
    obtain ⟨v, y, h1, h2, h3, h4, h5⟩ := (hf hx hb (by omega) st).1 _ _ h
    obtain ⟨w, u, k1, k2, k3, k4, k5⟩ := (hg hx hb (by omega) st).1 _ _ h
    exact ⟨v, y, 0, w, u, h1, k1, fun st => by rw [bytesEqual' h2 k2 h3 k3]; simp, hE _ _ _ _ h h5 k5⟩
  | error e =>
    obtain ⟨_, h1⟩ := (hf hx hb (by omega) st).2 _ h
    obtain ⟨_, k1⟩ := (hg hx hb (by omega) st).2 _ h
    exact ⟨_, _, e, _, _, h1, k1, fun st => by rw [bytesEqual' .nil .nil (fun b hb => by simp at hb) (fun b hb => by simp at hb)]; simp, hz⟩

theorem ewp_few {zs : List ((Int × Int) × List (List Int))} {l r : List Int} (hb : Byt l) (hlen : l.length ≤ 1000) (h : lists wrR l = .ok (zs, r)) {ws : List Wr} (hw : ws.map plw = zs) (hf : ∀ w ∈ ws, w.Fit) : (∀ w ∈ ws, w.Ok) ∧ ws.length ≤ 65536 := by
  obtain ⟨h1, h2⟩ := lists_once wrR_once hb h
  subst hw
  rw [List.length_map] at h2
  refine ⟨fun w hwm => (hf w hwm).ok ?_, h2⟩
  have : (ewp (plw w)).length ≤ l.length := by
    rw [h1, List.length_append, List.length_append, List.flatMap_map]
    have := mem_le (e := fun w => ewp (plw w)) hwm
    omega
  rw [ewp_plw] at this
  have := sec_len (hf w hwm).sec
  simp only [ew, es, List.length_append] at *
  omega

set_option maxHeartbeats 1000000 in
theorem wireReads {x : AV} {l : List Int} (hx0 : IsB x l) (hb : Byt l) : callL T 9 [x] .mt = some (.ret (.v (.bool true)), .mt) := by
  obtain ⟨x', hx1, hx, _⟩ := hx0.exps
  rw [call_plain T9 rfl rfl (expA_cons (hx1 .mt) rfl)]
  have k1 := hx.isL.len
  by_cases g1 : (1000 : Int) < l.length
  · simp [inner_eq, s9, k1, g1, awake, dropped, expR]
  have hl : l.length ≤ 1000 := by omega
  obtain ⟨v1, y1, e1, w1, u1, a1, b1, c1, d1⟩ := both (E := fun v w => ∃ n, v = .v (.int .i64 n) ∧ w = .v (.int .i64 n)) pub28 ref35 hx hb hl (fun a _ v w _ hv hw => ⟨a, hv, hw⟩) ⟨0, rfl, rfl⟩ .mt
  obtain ⟨n, rfl, rfl⟩ := d1
  obtain ⟨v2, y2, e2, w2, u2, a2, b2, c2, d2⟩ := both (E := fun v w => ∀ st, callL T 12 [v, w] st = some (.ret (.v (.bool true)), st)) pub33 ref36 hx hb hl (fun a _ v w _ hv hw st => by rw [bytesEqual' hv.1 hw.1 hv.2 hw.2]; simp)
    (fun st => by rw [bytesEqual' .nil .nil (fun b hb => by simp at hb) (fun b hb => by simp at hb)]; simp) .mt
  obtain ⟨v3, y3, e3, w3, u3, a3, b3, c3, d3⟩ := both (E := fun v w => ∀ st, callL T 38 [v, w] st = some (.ret (.v (.bool true)), st)) pub31 ref37 hx hb hl (fun a _ v w h hv hw st => eqInts hv hw (by have := (lists_once (e := enc) (fun l r a hb h => num_once hb h) hb h).2; omega) st)
    (fun st => eqInts (ns := []) .nil .nil (by simp) st) .mt
  obtain ⟨v4, y4, e4, w4, u4, a4, b4, c4, d4⟩ := both (E := fun v w => ∀ st, callL T 40 [v, w] st = some (.ret (.v (.bool true)), st)) pub30 ref39 hx hb hl (fun a _ v w h hv hw st => eqSecs hv.2 hv.1 hw.1 (by have := (lists_once secR_once hb h).2; omega) st)
    (fun st => eqSecs (ss := []) (by simp) .nil .nil (by simp) st) .mt
  obtain ⟨v5, y5, e5, w5, u5, a5, b5, c5, d5⟩ := both (E := fun v w => ∀ st, callL T 42 [v, w] st = some (.ret (.v (.bool true)), st)) pub34 ref41 hx hb hl (fun a _ v w h hv hw st => eqExts (xs := a) hv hw (by have := (lists_once pairR_once hb h).2; omega) st)
    (fun st => eqExts (xs := []) .nil .nil (by simp) st) .mt
  obtain ⟨v6, y6, e6, w6, u6, a6, b6, c6, d6⟩ := both (E := fun v w => ∀ st, callL T 44 [v, w] st = some (.ret (.v (.bool true)), st)) pub29 ref43 hx hb hl (fun a _ v w h hv hw st => by
      obtain ⟨ws, p1, p2, p3⟩ := hv
      obtain ⟨ms, q1, q2, q3⟩ := hw
      obtain ⟨o1, o2⟩ := ewp_few hb hl h p1 p3
      obtain ⟨o3, _⟩ := ewp_few hb hl h q1 q3
      exact eqWrs o1 o3 (p1.trans q1.symm) p2 q2 (by omega) st)
    (fun st => eqWrs (l := []) (m := []) (by simp) (by simp) rfl .nil .nil (by simp) st) .mt
  simp [inner_eq, s9, k1, g1, a1, b1, c1, a2, b2, c2, d2, a3, b3, c3, d3, a4, b4, c4, d4, a5, b5, c5, d5, a6, b6, c6, d6, awake, dropped, expR]

end VS
end Go.Proofs.Ytohfbjgcfbkgnaa
