/- The examples of the chapter: the program itself, run. -/
import Derived.Test.YtohfbjgcfbkgnaaWireFns
import Derived.Test.YtohfbjgcfbkgnaaVsSimp
import Derived.KernelRfl
namespace Go.Proofs.Ytohfbjgcfbkgnaa
namespace VS
set_option maxRecDepth 100000
theorem awake_run : callOf T (run T 100) 14 [] .mt = some (.ret (.v (.bool true)), .mt) := by kernel_rfl

theorem awake_inner {T : FuncId → Option SFn} {s : SFn} {b : Bool} (hT : T 14 = some s) (hk : s.kind = .plain) (hl : s.np = 0) (h : callOf T (run T 100) 14 [] .mt = some (.ret (.v (.bool b)), .mt)) (st : St) : callL T 14 [] st = some (.ret (.v (.bool b)), st) := by
  have h1 : callOf T (run T 100) 14 [] st = some (.ret (.v (.bool b)), st) := by
    unfold callOf at h ⊢
    rw [hT] at h ⊢
    simp only [hl, List.length_nil, if_true, hk, expA] at h ⊢
    split at h
    · rw [Option.map_eq_some_iff] at h ⊢
      obtain ⟨x, hx, h⟩ := h
      exact ⟨x, hx, by cases h; rfl⟩
    · rw [Option.map_eq_some_iff] at h
      obtain ⟨x, hx, h⟩ := h
      cases h
    · cases h
  exact callL_some.2 ⟨100, h1⟩

theorem awake (st : St) : callL T 14 [] st = some (.ret (.v (.bool true)), st) := awake_inner T14 rfl rfl awake_run st
end VS
end Go.Proofs.Ytohfbjgcfbkgnaa
