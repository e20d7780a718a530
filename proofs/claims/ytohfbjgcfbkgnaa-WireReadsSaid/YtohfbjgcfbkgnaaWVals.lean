/- The values of a law, read from the row. -/
import Derived.Test.YtohfbjgcfbkgnaaWListsLaw
import Derived.Test.YtohfbjgcfbkgnaaWFit
namespace Go.Proofs.Ytohfbjgcfbkgnaa
namespace VS

def sec8 : List Sh := List.replicate 8 (.int .u8)
def valsSh : List Sh := [.list [.int .i64], .list sec8, .list [.int .i64, .int .i64], .list [.int .i64, .int .i64, .list sec8]]

theorem byte_of {b : Int} (h : (Lit.int .u8 b).wf = true) : 0 ≤ b ∧ b < 256 := by
  simp only [Lit.wf, IntKind.min, IntKind.max, IntKind.signed, IntKind.bits] at h
  simp at h
  omega

theorem fit_rep : ∀ {k : Nat} {a : List AV}, FitL (List.replicate k (.int .u8)) a → ∃ s, a = bys s ∧ s.length = k ∧ Byt s
  | 0, _, .nil => ⟨[], rfl, rfl, fun b hb => by simp at hb⟩
  | k + 1, _, .cons (.int (n := x) hw) h => by
    obtain ⟨s, rfl, rfl, hs⟩ := fit_rep h
    refine ⟨x :: s, rfl, rfl, fun b hb => ?_⟩
    rcases List.mem_cons.1 hb with rfl | hb
    · exact byte_of hw
    · exact hs b hb

theorem fitN_sec : ∀ {n : Nat} {cs : List AV}, FitN sec8 n cs → ∃ ss : List (List Int), cs = ss.flatMap bys ∧ ss.length = n ∧ ∀ s ∈ ss, Sec s
  | _, _, .nil => ⟨[], rfl, rfl, by simp⟩
  | _, _, .cons h1 h2 => by
    obtain ⟨s, rfl, h8, hb⟩ := fit_rep h1
    obtain ⟨ss, rfl, rfl, hs⟩ := fitN_sec h2
    refine ⟨s :: ss, rfl, rfl, fun y hy => ?_⟩
    rcases List.mem_cons.1 hy with rfl | hy
    · exact ⟨h8, hb⟩
    · exact hs y hy

theorem fit_secs {a : AV} (h : Fit (.list sec8) a) : ∃ ss : List (List Int), IsL 8 a (ss.flatMap bys) ss.length ∧ ∀ s ∈ ss, Sec s := by
  cases h with
  | nil => exact ⟨[], .nil, by simp⟩
  | list h =>
    obtain ⟨ss, rfl, rfl, hs⟩ := fitN_sec h
    exact ⟨ss, .sl (by simp) (flat_sec hs).len, hs⟩

theorem fitN_ext : ∀ {n : Nat} {cs : List AV}, FitN [.int .i64, .int .i64] n cs → ∃ xs : List (Int × Int), cs = xs.flatMap gx ∧ xs.length = n
  | _, _, .nil => ⟨[], rfl, rfl⟩
  | _, _, .cons (.cons (.int (n := x) _) (.cons (.int (n := y) _) .nil)) h => by
    obtain ⟨l, rfl, rfl⟩ := fitN_ext h
    exact ⟨(x, y) :: l, rfl, rfl⟩

theorem fit_exts {a : AV} (h : Fit (.list [.int .i64, .int .i64]) a) : ∃ xs : List (Int × Int), IsL 2 a (xs.flatMap gx) xs.length := by
  cases h with
  | nil => exact ⟨[], .nil⟩
  | list h =>
    obtain ⟨xs, rfl, rfl⟩ := fitN_ext h
    exact ⟨xs, .sl (by simp) (flat_ext xs).len⟩

theorem fitN_wr : ∀ {n : Nat} {cs : List AV}, FitN [.int .i64, .int .i64, .list sec8] n cs → ∃ ws : List Wr, cs = ws.flatMap gw ∧ ws.length = n ∧ ∀ w ∈ ws, w.Fit
  | _, _, .nil => ⟨[], rfl, rfl, by simp⟩
  | _, _, .cons (.cons (.int (n := x) _) (.cons (.int (n := y) _) (.cons (a := a) h0 .nil))) h => by
    obtain ⟨l, rfl, rfl, hl⟩ := fitN_wr h
    obtain ⟨ss, h1, h2⟩ := fit_secs h0
    refine ⟨⟨x, y, a, ss⟩ :: l, rfl, rfl, fun w hw => ?_⟩
    rcases List.mem_cons.1 hw with rfl | hw
    · exact ⟨h1, h2⟩
    · exact hl w hw

theorem fit_wrs {a : AV} (h : Fit (.list [.int .i64, .int .i64, .list sec8]) a) : ∃ ws : List Wr, IsL 3 a (ws.flatMap gw) ws.length ∧ ∀ w ∈ ws, w.Fit := by
  cases h with
  | nil => exact ⟨[], .nil, by simp⟩
  | list h =>
    obtain ⟨ws, rfl, rfl, hs⟩ := fitN_wr h
    exact ⟨ws, .sl (by simp) (flat_wr ws).len, hs⟩

theorem exp0_clean {st : St} {a b : AV} (h : clean1 a = some b) : exp0 st a = some (b, st) := by
  unfold exp0
  split
  · simp [clean1] at h
  · rw [h]

theorem fit_vals {x : AV} (h : FitA (.agg valsSh) x) : ∃ a b c d ns ss xs ws, x = .agg [a, b, c, d] ∧ Vals a b c d ns ss xs ws := by
  cases h with
  | agg h =>
    cases h with
    | @cons _ _ a _ h0 h => cases h with
      | @cons _ _ b _ h1 h => cases h with
        | @cons _ _ c _ h2 h => cases h with
          | @cons _ _ d _ h3 h =>
            cases h
            obtain ⟨ns, k0⟩ := fit_ints h0
            obtain ⟨ss, k1, k1'⟩ := fit_secs h1
            obtain ⟨xs, k2⟩ := fit_exts h2
            obtain ⟨ws, k3, k3'⟩ := fit_wrs h3
            refine ⟨a, b, c, d, ns, ss, xs, ws, rfl, ⟨fun st => ?_, k0, k1, k1', k2, k3, k3'⟩⟩
            exact expL_cons (exp0_clean h0.clean.1) (expL_cons (exp0_clean h1.clean.1) (expL_cons (exp0_clean h2.clean.1) (expL_cons (exp0_clean h3.clean.1) rfl)))

theorem fit_int {a : AV} {k : IntKind} (h : FitA (.one (.int k)) a) : ∃ n, a = .v (.int k n) ∧ k.min ≤ n ∧ n ≤ k.max := by
  cases h with
  | one h => cases h with
    | int hw => exact ⟨_, rfl, by simpa [Lit.wf] using hw⟩

end VS
end Go.Proofs.Ytohfbjgcfbkgnaa
