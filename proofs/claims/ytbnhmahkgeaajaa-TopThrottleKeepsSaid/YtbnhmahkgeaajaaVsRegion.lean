/- Lists of operations in the order of the text. -/
import Derived.Test.YtbnhmahkgeaajaaVsSound
namespace Go.Proofs.Ytbnhmahkgeaajaa
namespace VS

def ExOk (S : Sim) : Ex → Exit → Prop
  | .nx, .normal => True
  | .ex i, .exit j => i = j
  | .rt, .ret => True
  | .pn x, .panic [e] => ∃ y, e = { v := y, recovered := false } ∧ Rep S x y
  | _, _ => False

/-- Where code ends: the state, the frame, the exit. -/
def Post (S : Sim) (N : Nat) (out : Out) : Exit → Act → World → Prop := fun e a' w' =>
  ∃ S', S'.w = w' ∧ S'.st = out.2.2 ∧ S'.B = S.B ∧ S'.A = S.A ∧ Step S S' ∧ a'.tmps.size = N ∧ FrOk S' out.2.1 a' ∧ ExOk S' out.1 e

theorem Post.step {S S1 : Sim} {N : Nat} {out : Out} (hB : S1.B = S.B) (hA : S1.A = S.A) (h : Step S S1) {e : Exit} {a : Act} {w : World} (p : Post S1 N out e a w) : Post S N out e a w := by
  obtain ⟨S', h1, h2, h3, h4, h5, h6⟩ := p
  exact ⟨S', h1, h2, h3.trans hB, h4.trans hA, h.trans h5, h6⟩

theorem look_put {l : List (Nat × AV)} {d i : Nat} {x : AV} : look ((d, x) :: l) i = if d = i then some x else look l i := rfl

theorem FrOk.put {S : Sim} {fr : Fr} {a : Act} (h : FrOk S fr a) {x : AV} {y : Value} (hr : Rep S x y) {dst : Option Nat} (hd : dst.all (fun d => decide (d < a.tmps.size)) = true) : FrOk S (fr.put dst x) (a.put dst y) := by
  cases dst with
  | none => exact h
  | some d =>
    have hlt : d < a.tmps.size := by simpa using hd
    refine ⟨fun i z hz => ?_, h.d⟩
    simp only [Fr.put, look_put] at hz
    simp only [Act.put]
    split at hz
    · rename_i hdi; subst hdi; cases hz
      exact ⟨y, by simp [hlt], hr⟩
    · rename_i hdi
      obtain ⟨v, h1, h2⟩ := h.s i z hz
      exact ⟨v, by rw [Array.getElem?_setIfInBounds_ne hdi]; exact h1, h2⟩

theorem put_size (a : Act) (dst : Option Nat) (y : Value) : (a.put dst y).tmps.size = a.tmps.size := by cases dst <;> simp [Act.put]
theorem put_defers (a : Act) (dst : Option Nat) (y : Value) : (a.put dst y).defers = a.defers := by cases dst <;> simp [Act.put]

section
variable {P : Program} {S : Sim} {fr : Fr} {a : Act} {C : CallF} {N : Nat} {ops : Array Oper}

theorem wanted_ok (hf : FrOk S fr a) {o : Oper} {g : Option (Nat × Bool)} {b : Bool} (hg : stripG ops o.guard = some g) (hw : wants fr g = some b) : Region.wanted o (yielded ops a.tmps) = b := by
  unfold stripG at hg
  split at hg
  · rename_i hgd
    cases hg
    simp only [wants, Option.some.injEq] at hw
    subst hw
    simp [Region.wanted, hgd]
  · rename_i j want hgd
    split at hg
    · rename_i oj hj
      split at hg
      · rename_i d hd
        cases hg
        simp only [wants] at hw
        have hy : ∀ y, a.tmps[d]? = some y → yielded ops a.tmps j = (match y with | .bool b => some b | _ => none) := by
          intro y h
          simp only [yielded, hj, hd, Option.bind_some, h]
          cases y <;> rfl
        split at hw
        · rename_i c hc
          cases hw
          obtain ⟨y, h1, h2⟩ := hf.s d _ hc
          obtain ⟨rfl, _⟩ := h2.v_inv
          simp only [Region.wanted, hgd, hy _ h1]
          cases c <;> cases want <;> rfl
        · rename_i hc
          cases hw
          obtain ⟨y, h1, h2⟩ := hf.s d _ hc
          cases h2 with
          | tup hl =>
            cases hl
            simp only [Region.wanted, hgd, hy _ h1]
            cases want <;> rfl
        · cases hw
      · cases hg
    · cases hg

theorem stripOne_inv {o : Oper} {s : SO} (h : stripOne P N ops o = some s) : o.dst.all (fun d => decide (d < N)) = true ∧ stripOp P o = some s.op ∧ stripG ops o.guard = some s.g ∧ s.dst = o.dst := by
  unfold stripOne at h
  split at h
  · rename_i hd
    split at h
    · rename_i op g h1 h2; cases h; exact ⟨hd, h1, h2, rfl⟩
    · cases h
  · cases h

theorem ops_sound (hC : CallOk P C) {out : Out} {S0 : Sim} : ∀ (l : List Oper) (so : List SO) (fr : Fr) (S : Sim) (a : Act), stripOps P N ops l = some so → evOps C so fr S.st = some out →
    S.B = S0.B → S.A = S0.A → Step S0 S → a.tmps.size = N → FrOk S fr a → wpList P ops (Post S0 N out) l a S.w
  | [], so, fr, S, a, hs, he, hB, hA, hst, hN, hf => by
    simp only [stripOps, Option.some.injEq] at hs; subst hs
    simp only [evOps, Option.some.injEq] at he; subst he
    exact ⟨S, rfl, rfl, hB, hA, hst, hN, hf, trivial⟩
  | o :: r, so, fr, S, a, hs, he, hB, hA, hst, hN, hf => by
    simp only [stripOps] at hs
    split at hs
    · rename_i s l h1 h2
      cases hs
      obtain ⟨hd, hop, hg, hdst⟩ := stripOne_inv h1
      have hd' : o.dst.all (fun d => decide (d < a.tmps.size)) = true := by rw [hN]; exact hd
      simp only [evOps, hdst] at he
      unfold wpList
      split at he
      · cases he
      · rename_i hw
        rw [wanted_ok hf hg hw]
        simp only [Bool.false_eq_true, if_false]
        exact ops_sound hC r l _ S _ h2 he hB hA hst (by rw [put_size, hN]) (hf.put (.tup .nil) hd')
      · rename_i hw
        rw [wanted_ok hf hg hw]
        simp only [if_true]
        refine .inl ?_
        split at he
        · cases he
        · rename_i x st1 hev
          have hgo := op_sound hC hst.inv hf hop hev
          refine hgo _ _ fun S' y e1 e2 e3 e4 e5 => ?_
          exact ops_sound hC r l _ S' _ h2 (by rw [e1]; exact he) (e2.trans hB) (e3.trans hA) (hst.trans e4) (by rw [put_size, hN]) ((hf.ext e4.ext).put e5 hd')
        · rename_i x st1 hev
          cases he
          have hgo := op_sound hC hst.inv hf hop hev
          refine hgo _ _ fun S' y e1 e2 e3 e4 e5 => ?_
          exact ⟨S', rfl, e1, e2.trans hB, e3.trans hA, hst.trans e4, hN, hf.ext e4.ext, y, rfl, e5⟩
        · rename_i f caps st1 hev
          obtain ⟨e1, ys, hl, hgo⟩ := op_sound hC hst.inv hf hop hev
          refine hgo _ _ ?_
          subst e1
          refine ops_sound hC r l _ S _ h2 he hB hA hst (by rw [put_size, hN]) ?_
          have hp := hf.put (x := und) (y := undef) (dst := o.dst) (.tup .nil) hd'
          refine ⟨?_, ?_⟩
          · cases hdd : o.dst with
            | none => rw [hdd] at hp; exact hf.s
            | some d => rw [hdd] at hp; exact hp.s
          · cases hdd : o.dst with
            | none => exact .cons hl hf.d
            | some d => exact .cons hl hf.d
    · cases hs

end

end VS
end Go.Proofs.Ytbnhmahkgeaajaa
