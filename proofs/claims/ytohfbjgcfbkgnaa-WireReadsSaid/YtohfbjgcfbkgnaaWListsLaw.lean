/- WireLists, WireAppends: the laws. -/
import Derived.Test.YtohfbjgcfbkgnaaWFew
namespace Go.Proofs.Ytohfbjgcfbkgnaa
namespace VS

theorem ext_byt (l : List (Int × Int)) : Byt (enc l.length ++ l.flatMap ex) := (enc_byt _).append (flatMap_byt fun p _ => ex_byt p)
theorem wr_byt {l : List Wr} (h : ∀ w ∈ l, w.Ok) : Byt (enc l.length ++ l.flatMap ew) := (enc_byt _).append (flatMap_byt fun w hw => ew_byt (h w hw))

theorem mt_H : St.mt.H = [] := by simp [St.mt]
theorem mt_F : St.mt.F = [] := by simp [St.mt]
theorem expA_cons {st : St} {a a' : AV} {r l : List AV} (h : exp1 st a = some (a', st)) (hr : expA st r = some (l, st)) : expA st (a :: r) = some (a' :: l, st) := by
  simp only [expA, h, hr]
theorem exp1_agg {st : St} {cs l : List AV} (h : expL st cs = some (l, st)) : exp1 st (.agg cs) = some (.agg l, st) := by
  simp only [exp1, h]

theorem flat_le {α : Type} {e : α → List Int} {B : Nat} : ∀ {l : List α}, (∀ x ∈ l, (e x).length ≤ B) → (l.flatMap e).length ≤ B * l.length
  | [], _ => by simp
  | x :: r, h => by
    have h1 := h x (by simp)
    have h2 := flat_le (l := r) fun y hy => h y (by simp [hy])
    rw [List.flatMap_cons, List.length_append, List.length_cons, Nat.mul_add]; omega

set_option maxHeartbeats 1000000 in
theorem wireLists {x a b c d : AV} {l ns : List Int} {ss : List (List Int)} {xs : List (Int × Int)} {ws : List Wr} (hx0 : IsB x l) (hl : Byt l) (v : Vals a b c d ns ss xs ws) : callL T 5 [x, .agg [a, b, c, d]] .mt = some (.ret (.v (.bool true)), .mt) := by
  obtain ⟨x', hx1, hx, _⟩ := hx0.exp .mt
  rw [call_plain T5 rfl rfl (expA_cons hx1 (expA_cons (exp1_agg (v.cl .mt)) rfl))]
  have k1 := hx.isL.len
  obtain ⟨r, hr, hrt⟩ := few20 v
  by_cases g1 : (200 : Int) < l.length
  · simp [inner_eq, s5, k1, g1, awake, dropped, expR]
  cases r with
  | false => simp [inner_eq, s5, k1, g1, opLoad, hr, awake, dropped, expR]
  | true =>
    obtain ⟨f1, f2, f3, f4, f5⟩ := hrt rfl
    have hok : ∀ w ∈ ws, w.Ok := fun w hw => (v.fit w hw).ok (by have := f5 w hw; omega)
    obtain ⟨p1, s1, q1, t1, a1, e1, b1, h1, c1⟩ := two (N := 21) (M := 22) hl (es_byt v.sec) (fun st => putSectors v.sec (by omega) hx.isL v.s (by omega) st) (fun st => ref22 v.sec (by omega) hx.isL v.s (by omega) st) { H := [{ cells := [a, b, c, d], fz := false }], F := [] }
    obtain ⟨p2, s2, q2, t2, a2, e2, b2, h2, c2⟩ := two (N := 23) (M := 24) hl (ext_byt xs) (fun st => putExtents (by omega) hx.isL v.e (by omega) st) (fun st => ref24 (by omega) hx.isL v.e (by omega) st) t1
    obtain ⟨p3, s3, q3, t3, a3, e3, b3, h3, c3⟩ := two (N := 25) (M := 26) hl (wr_byt hok) (fun st => putWrites hok (by omega) hx.isL v.w (by omega) st) (fun st => ref26 hok (by omega) hx.isL v.w (by omega) st) t2
    rw [h1] at e2 h2
    rw [h2] at e3 h3
    have l1 := opLoad_at e1
    have l2 := opLoad_at h1
    have l3 := opLoad_at e2
    have l4 := opLoad_at h2
    have l5 := opLoad_at e3
    have l0 := opLoad_at (st := { H := [{ cells := [a, b, c, d], fz := false }], F := [] }) rfl
    have l6 := opLoad_all (st := { H := [{ cells := [a, b, c, d], fz := false }], F := [] }) rfl
    simp [inner_eq, s5, k1, g1, mt_H, mt_F, l6, hr, l0, l1, l2, l3, l4, l5, a1, b1, c1, a2, b2, c2, a3, b3, c3, awake, dropped, expR]

set_option maxHeartbeats 4000000 in
theorem wireAppends {x a b c d : AV} {n : Int} {l ns : List Int} {ss : List (List Int)} {xs : List (Int × Int)} {ws : List Wr} (hx0 : IsB x l) (hl : Byt l) (v : Vals a b c d ns ss xs ws) :
    callL T 6 [x, .agg [a, b, c, d], .v (.int .i64 n)] .mt = some (.ret (.v (.bool true)), .mt) := by
  obtain ⟨x', hx1, hx, _⟩ := hx0.exp .mt
  rw [call_plain T6 rfl rfl (expA_cons hx1 (expA_cons (exp1_agg (v.cl .mt)) (expA_cons (exp1_v _ _) rfl)))]
  have k1 := hx.isL.len
  obtain ⟨r, hr, hrt⟩ := few20 v
  by_cases g1 : (200 : Int) < l.length
  · simp [inner_eq, s6, k1, g1, awake, dropped, expR]
  cases r with
  | false => simp [inner_eq, s6, k1, g1, opLoad, hr, awake, dropped, expR]
  | true =>
    obtain ⟨f1, f2, f3, f4, f5⟩ := hrt rfl
    have hok : ∀ w ∈ ws, w.Ok := fun w hw => (v.fit w hw).ok (by have := f5 w hw; omega)
    have B1 := enc_length n
    have B2 := enc_length l.length
    have B3 := enc_length ns.length
    have B4 := encs_le ns
    have B5 := es_le v.sec
    have B6 : (xs.flatMap ex).length ≤ 18 * xs.length := flat_le fun p _ => ex_le p
    have B7 := enc_length xs.length
    have B8 : (ws.flatMap ew).length ≤ 8027 * ws.length := flat_le fun w hw => ew_le (hok w hw)
    have B9 := enc_length ws.length
    obtain ⟨o, s0, o1, hO, o2⟩ := clone hx.isL (by omega) { H := [{ cells := [a, b, c, d], fz := false }], F := [] }
    have ho : IsB o l := hO.isB
    obtain ⟨z1, p1, i1, p2, u1, p3, w1, p4, a11, a12, a13, a14, a15, a16, a17, a18, a19⟩ := behind T13 rfl hx ho hl (enc_byt n) (by omega) (by omega) (fun _ _ _ st h hm => PutInt n h (by omega) st) s0
    obtain ⟨z2, q1, i2, q2, u2, q3, w2, q4, a21, a22, a23, a24, a25, a26, a27, a28, a29⟩ := behind (N := 16) (v := o) (e := enc l.length ++ l) T16 rfl hx ho hl ((enc_byt _).append hl) (by omega) (by rw [List.length_append]; omega)
      (fun _ _ _ st h hm => by
        obtain ⟨z, st', h1, h2, h3⟩ := putBytes h ho.isL (by omega) (by omega) st
        exact ⟨z, st', h1, by simpa [bys_append, Nat.add_assoc] using h2, h3⟩) p4
    obtain ⟨z3, r1, i3, r2, u3, r3, w3, r4, a31, a32, a33, a34, a35, a36, a37, a38, a39⟩ := behind (N := 18) (v := a) (e := enc ns.length ++ encs ns) T18 rfl hx ho hl ((enc_byt _).append (encs_byt _)) (by omega) (by rw [List.length_append]; omega)
      (fun _ _ _ st h hm => putInts h v.i (by omega) (by omega) st) q4
    obtain ⟨z4, s1, i4, s2, u4, s3, w4, s4, a41, a42, a43, a44, a45, a46, a47, a48, a49⟩ := behind (N := 21) (v := b) T21 rfl hx ho hl (es_byt v.sec) (by omega) (by omega)
      (fun _ _ _ st h hm => putSectors v.sec (by omega) h v.s (by omega) st) r4
    obtain ⟨z5, t1, i5, t2, u5, t3, w5, t4, a51, a52, a53, a54, a55, a56, a57, a58, a59⟩ := behind (N := 23) (v := c) T23 rfl hx ho hl (ext_byt xs) (by omega) (by rw [List.length_append]; omega)
      (fun _ _ _ st h hm => putExtents (by omega) h v.e (by omega) st) s4
    obtain ⟨z6, y1, i6, y2, u6, y3, w6, y4, a61, a62, a63, a64, a65, a66, a67, a68, a69⟩ := behind (N := 25) (v := d) T25 rfl hx ho hl (wr_byt hok) (by omega) (by rw [List.length_append]; omega)
      (fun _ _ _ st h hm => putWrites hok (by omega) h v.w (by omega) st) t4
    rw [o2] at a18
    rw [a18] at a28
    rw [a28] at a32 a34 a38
    rw [a38] at a42 a44 a48
    rw [a48] at a52 a54 a58
    rw [a58] at a62 a64
    have l6 := opLoad_all (st := { H := [{ cells := [a, b, c, d], fz := false }], F := [] }) rfl
    have c1 := opLoad_at a28
    have c2 := opLoad_at a34
    have c3 := opLoad_at a38
    have c4 := opLoad_at a44
    have c5 := opLoad_at a48
    have c6 := opLoad_at a54
    have c7 := opLoad_at a58
    have c8 := opLoad_at a64
    have q := bytesEqual' hx ho hl hl y4
    simp [inner_eq, s6, k1, g1, mt_H, mt_F, l6, hr, o1, c1, c2, c3, c4, c5, c6, c7, c8, a11, a13, a15, a17, a19, a21, a23, a25, a27, a29, a31, a33, a35, a37, a39, a41, a43, a45, a47, a49, a51, a53, a55, a57, a59, a61, a63, a65, a67, a69, q, awake, dropped, expR]

end VS
end Go.Proofs.Ytohfbjgcfbkgnaa
