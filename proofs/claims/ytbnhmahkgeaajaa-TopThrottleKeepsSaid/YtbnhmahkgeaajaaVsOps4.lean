/- Numbers and tests; slices; addresses of fields and elements. -/
import Derived.Test.YtbnhmahkgeaajaaVsEq
namespace Go.Proofs.Ytbnhmahkgeaajaa
namespace VS

section
variable {P : Program} {S : Sim} {fr : Fr} {a : Act} {o : Oper}

theorem binInt_run {op : BinOp} {k : IntKind} {x y : Int} {z : Value} {t : TypeId} (hs : isShift op = false) (h : binInt op k x y = some z) (w : World) : (binOp op t (.int k x) (.int k y)).run P w = .ok z w ∧ atom z = true := by
  cases op <;> (try (cases hs; done)) <;> simp only [binInt, Option.some.injEq] at h <;>
    first
    | (cases h; done)
    | (subst h; exact ⟨by simp [binOp, Op.intArith, Op.intBits, Op.intCmp], rfl⟩)
    | (split at h
       · cases h
       · rename_i h0
         cases h
         exact ⟨by simp [binOp, Op.intDiv, h0], rfl⟩)

theorem shiftInt_run {op : BinOp} {k k' : IntKind} {x y : Int} {z : Value} {t : TypeId} (h : shiftInt op k x y = some z) (w : World) : (binOp op t (.int k x) (.int k' y)).run P w = .ok z w ∧ atom z = true := by
  unfold shiftInt at h
  split at h
  · cases h
  · rename_i h0
    cases op <;> simp only [Option.some.injEq, reduceCtorEq] at h <;> (subst h; exact ⟨by simp [binOp, Op.shift, h0], rfl⟩)

theorem negIf_run {op : BinOp} {b : Bool} {z : Value} {t : TypeId} {x y : Value} (h : negIf op b = some z) (w : World) (hx : ∀ k n, x ≠ .int k n) (hf : ∀ k n, x ≠ .float k n) (hc : ∀ k n m, x ≠ .complex k n m) (hst : ∀ s, x ≠ .string s)
    (he : (Op.equal t x y).run P w = .ok b w) : (binOp op t x y).run P w = .ok z w ∧ atom z = true := by
  cases op <;> simp only [negIf, Option.some.injEq, reduceCtorEq] at h <;> subst h <;> refine ⟨?_, rfl⟩ <;>
    (cases x <;> first | (exact absurd rfl (hx _ _)) | (exact absurd rfl (hf _ _)) | (exact absurd rfl (hc _ _ _)) | (exact absurd rfl (hst _)) | (simp [binOp, he]))

theorem sameCells_eqV {S : Sim} : ∀ {xs ys : List AV} {us vs : List Value} {b : Bool}, sameCells xs ys = some b → RepL S xs us → RepL S ys vs → eqV us vs = some b
  | [], [], _, _, b, h, .nil, .nil => by simpa [sameCells, eqV] using h
  | [], _ :: _, _, _, b, h, _, _ => by simp [sameCells] at h
  | x :: r, [], _, _, b, h, _, _ => by cases x <;> (try (rename_i v; cases v)) <;> simp [sameCells] at h
  | x :: r, y :: s, _, _, b, h, .cons h1 h2, .cons h3 h4 => by
    cases x <;> (try (simp [sameCells] at h; done))
    rename_i x
    cases x <;> (try (simp [sameCells] at h; done))
    cases y <;> (try (simp [sameCells] at h; done))
    rename_i y
    cases y <;> (try (simp [sameCells] at h; done))
    simp only [sameCells] at h
    split at h
    · rename_i hk
      rw [Option.map_eq_some_iff] at h
      obtain ⟨c, hc, rfl⟩ := h
      obtain ⟨rfl, _⟩ := h1.v_inv
      obtain ⟨rfl, _⟩ := h3.v_inv
      simp only [eqV, if_pos hk, sameCells_eqV hc h2 h4, Option.map_some]
    · cases h

theorem eqGuard_ok {op : BinOp} {t : TypeId} {x y : Operand} {u v : Value} (w : World) (h : (u = .nilIface → v = .nilIface → (isConstX x || isConstX y) = true)) (hg : ∀ xs ys, u = .agg xs → v = .agg ys → P.eqGuardType P.depth t = false) :
    (eqGuard op t x y u v).run P w = .ok () w := by
  have key : ∀ op, (op = BinOp.eql ∨ op = BinOp.neq) → (eqGuard op t x y u v).run P w = .ok () w := by
    intro op hop
    cases u <;> cases v <;> first
      | (rcases hop with rfl | rfl <;> rfl)
      | skip
    · have := h rfl rfl
      rcases hop with rfl | rfl <;> cases x <;> cases y <;> simp [isConstX] at this <;> simp [eqGuard]
    · have := hg _ _ rfl rfl
      rcases hop with rfl | rfl <;> simp [eqGuard, this]
  cases op <;> first
    | exact key _ (.inl rfl)
    | exact key _ (.inr rfl)
    | rfl

theorem nilEq_some {x y : Option Bool} {b : Bool} (h : nilEq x y = some b) : (x = some true ∧ y = some b) ∨ (x = some false ∧ y = some true ∧ b = false) := by
  cases x with
  | none => simp [nilEq] at h
  | some x => cases x <;> cases y with
    | none => simp [nilEq] at h
    | some y => cases y <;> simp [nilEq] at h <;> subst h <;> simp

theorem eqS1 (d : Nat) {t e : TypeId} (ht : P.underlying t = some (.slice e)) (w : World) (b : Option Addr) (n m k l : Nat) : (Op.equalIn (d + 1) t (.slice none n m) (.slice b k l)).run P w = .ok b.isNone w := by
  simp [Op.equalIn, run_underlying ht]
theorem eqS2 (d : Nat) {t e : TypeId} (ht : P.underlying t = some (.slice e)) (w : World) (b : Addr) (n m k l : Nat) : (Op.equalIn (d + 1) t (.slice (some b) k l) (.slice none n m)).run P w = .ok false w := by
  simp [Op.equalIn, run_underlying ht]
theorem eqF0 (d : Nat) {t : TypeId} {p r : Array TypeId} {vv : Bool} (ht : P.underlying t = some (.func p r vv)) (w : World) : (Op.equalIn (d + 1) t .nilFunc .nilFunc).run P w = .ok true w := by
  simp [Op.equalIn, run_underlying ht]
theorem eqF1 (d : Nat) {t : TypeId} {p r : Array TypeId} {vv : Bool} (ht : P.underlying t = some (.func p r vv)) (w : World) (f : Fn) (x y : Array Value) : (Op.equalIn (d + 1) t .nilFunc (.func f x y)).run P w = .ok false w := by
  simp [Op.equalIn, run_underlying ht]
theorem eqF2 (d : Nat) {t : TypeId} {p r : Array TypeId} {vv : Bool} (ht : P.underlying t = some (.func p r vv)) (w : World) (f : Fn) (x y : Array Value) : (Op.equalIn (d + 1) t (.func f x y) .nilFunc).run P w = .ok false w := by
  simp [Op.equalIn, run_underlying ht]
theorem eqP1 (d : Nat) {t e : TypeId} (ht : P.underlying t = some (.pointer e)) (w : World) (b : Option Addr) : (Op.equalIn (d + 1) t (.pointer none) (.pointer b)).run P w = .ok b.isNone w := by
  simp [Op.equalIn, run_underlying ht]
theorem eqP2 (d : Nat) {t e : TypeId} (ht : P.underlying t = some (.pointer e)) (w : World) (b : Addr) : (Op.equalIn (d + 1) t (.pointer (some b)) (.pointer none)).run P w = .ok false w := by
  simp [Op.equalIn, run_underlying ht]
theorem eqI0 (d : Nat) {t : TypeId} {ms : Array (String × TypeId)} (ht : P.underlying t = some (.interface ms)) (w : World) : (Op.equalIn (d + 1) t .nilIface .nilIface).run P w = .ok true w := by
  simp [Op.equalIn, run_underlying ht]
theorem eqI1 (d : Nat) {t : TypeId} {ms : Array (String × TypeId)} (ht : P.underlying t = some (.interface ms)) (w : World) (u : TypeId) (x : Value) : (Op.equalIn (d + 1) t .nilIface (.iface u x)).run P w = .ok false w := by
  simp [Op.equalIn, run_underlying ht]
theorem eqI2 (d : Nat) {t : TypeId} {ms : Array (String × TypeId)} (ht : P.underlying t = some (.interface ms)) (w : World) (u : TypeId) (x : Value) : (Op.equalIn (d + 1) t (.iface u x) .nilIface).run P w = .ok false w := by
  simp [Op.equalIn, run_underlying ht]

theorem isNilS_true {av : AV} {y : Value} (hr : Rep S av y) (h : isNilS av = some true) : y = .slice none 0 0 := by
  unfold isNilS at h
  split at h
  · exact hr.v_inv.1
  · cases h
  · cases h
  · cases h
  · cases h
theorem isNilS_false {av : AV} {y : Value} (hr : Rep S av y) (h : isNilS av = some false) : ∃ b n c, y = .slice (some b) n c := by
  unfold isNilS at h
  split at h
  · cases h
  · exact ⟨_, _, _, hr.v_inv.1⟩
  · cases hr; exact ⟨_, _, _, rfl⟩
  · cases hr; exact ⟨_, _, _, rfl⟩
  · cases h
theorem isNilF_true {av : AV} {y : Value} (hr : Rep S av y) (h : isNilF av = some true) : y = .nilFunc := by
  unfold isNilF at h
  split at h
  · exact hr.v_inv.1
  · cases h
  · cases h
theorem isNilF_false {av : AV} {y : Value} (hr : Rep S av y) (h : isNilF av = some false) : ∃ b n c, y = .func b n c := by
  unfold isNilF at h
  split at h
  · cases h
  · cases hr; exact ⟨_, _, _, rfl⟩
  · cases h
theorem isNilP_true {av : AV} {y : Value} (hr : Rep S av y) (h : isNilP av = some true) : y = .pointer none := by
  unfold isNilP at h
  split at h
  · exact hr.v_inv.1
  · cases h
  · cases h
  · cases h
theorem isNilP_false {av : AV} {y : Value} (hr : Rep S av y) (h : isNilP av = some false) : ∃ b, y = .pointer (some b) := by
  unfold isNilP at h
  split at h
  · cases h
  · cases hr; exact ⟨_, rfl⟩
  · cases hr; exact ⟨_, rfl⟩
  · cases h

theorem op_bin (I : Inv S) (hf : FrOk S fr a) {op : BinOp} {t ty : TypeId} {x y : Operand} {s1 s2 : SX} {u v : AV} {z : Value} (ho : o.op = .binOp op t x y ty) (hx : stripX x = some s1) (hy : stripX y = some s2)
    (e1 : evX fr s1 = some u) (e2 : evX fr s2 = some v) (hz : binAV op (eqkOf P t x y) u v = some z) : OpRet P o a S (.v z) S.st := by
  have hu := stripX_rep hf hx e1
  have hv := stripX_rep hf hy e2
  generalize hxe : a.eval x = xv at hu
  generalize hye : a.eval y = yv at hv
  suffices h : (eqGuard op t x y xv yv).run P S.w = .ok () S.w ∧ (binOp op t xv yv).run P S.w = .ok z S.w ∧ atom z = true by
    refine OpRet.same I (y := z) ?_ (.v h.2.2)
    simp only [execOp, ho, hxe, hye, Sem.run_bind, h.1, h.2.1, Result.andThen_ok, Sem.run_pure]
  have nilable : ∀ (f : AV → Option Bool) (N : Value) (hN : ∀ av y, Rep S av y → f av = some true → y = N) (hne : ∀ av y, Rep S av y → f av = some false → (Op.equal t y N).run P S.w = .ok false S.w ∧ (Op.equal t N y).run P S.w = .ok false S.w)
      (hNN : (Op.equal t N N).run P S.w = .ok true S.w) (hatom : (∀ k n, N ≠ .int k n) ∧ (∀ k n, N ≠ .float k n) ∧ (∀ k n m, N ≠ .complex k n m) ∧ (∀ s, N ≠ .string s) ∧ N ≠ .nilIface)
      (hnon : ∀ av y, Rep S av y → f av = some false → (∀ k n, y ≠ .int k n) ∧ (∀ k n, y ≠ .float k n) ∧ (∀ k n m, y ≠ .complex k n m) ∧ (∀ s, y ≠ .string s) ∧ y ≠ .nilIface ∧ ∀ xs, y ≠ .agg xs)
      (hag : ∀ xs, N ≠ .agg xs) (b : Bool), nilEq (f u) (f v) = some b → negIf op b = some z →
      (eqGuard op t x y xv yv).run P S.w = .ok () S.w ∧ (binOp op t xv yv).run P S.w = .ok z S.w ∧ atom z = true := by
    intro f N hN hne hNN hatom hnon hag b hb hop
    rcases nilEq_some hb with ⟨h1, h2⟩ | ⟨h1, h2, rfl⟩
    · have hxN := hN u xv hu h1
      subst hxN
      cases b
      · have hk := hnon v yv hv h2
        refine ⟨eqGuard_ok _ (fun h => absurd h hatom.2.2.2.2) (fun xs ys h => absurd h (hag xs)), negIf_run hop _ hatom.1 hatom.2.1 hatom.2.2.1 hatom.2.2.2.1 (hne v yv hv h2).2⟩
      · have hyN := hN v yv hv h2
        subst hyN
        exact ⟨eqGuard_ok _ (fun h => absurd h hatom.2.2.2.2) (fun xs ys h => absurd h (hag xs)), negIf_run hop _ hatom.1 hatom.2.1 hatom.2.2.1 hatom.2.2.2.1 hNN⟩
    · have hyN := hN v yv hv h2
      subst hyN
      have hk := hnon u xv hu h1
      exact ⟨eqGuard_ok _ (fun h => absurd h hk.2.2.2.2.1) (fun xs ys h => absurd h (hk.2.2.2.2.2 xs)), negIf_run hop _ hk.1 hk.2.1 hk.2.2.1 hk.2.2.2.1 (hne u xv hu h1).1⟩
  unfold binAV at hz
  split at hz
  · obtain ⟨rfl, _⟩ := hu.v_inv
    obtain ⟨rfl, _⟩ := hv.v_inv
    have hg : ∀ k k' m n, (eqGuard op t x y (.int k m) (.int k' n)).run P S.w = .ok () S.w := fun k k' m n => eqGuard_ok _ (fun h => by cases h) (fun _ _ h => by cases h)
    split at hz
    · exact ⟨hg _ _ _ _, shiftInt_run hz _⟩
    · split at hz
      · rename_i hs hk
        subst hk
        exact ⟨hg _ _ _ _, binInt_run (by simpa using hs) hz _⟩
      · cases hz
  · obtain ⟨rfl, _⟩ := hu.v_inv
    obtain ⟨rfl, _⟩ := hv.v_inv
    split at hz
    · rename_i hq
      have ht : P.underlying t = some .bool := by
        unfold eqkOf at hq
        split at hq <;> first | assumption | (cases hq; done) | (split at hq <;> cases hq)
      refine ⟨eqGuard_ok _ (fun h => by cases h) (fun _ _ h => by cases h), negIf_run hz _ (by simp) (by simp) (by simp) (by simp) ?_⟩
      show (Op.equalIn (9999 + 1) t _ _).run P S.w = _
      exact run_equalIn_bool' S.w 9999 t _ _ ht
    · cases hz
  · obtain ⟨rfl, _⟩ := hu.v_inv
    obtain ⟨rfl, _⟩ := hv.v_inv
    refine ⟨eqGuard_ok _ (fun h => by cases h) (fun _ _ h => by cases h), ?_⟩
    cases op <;> simp only [negIf] at hz <;> first | (cases hz; done) | (cases hz; exact ⟨by simp [binOp, Op.stringOp], rfl⟩)
  · rename_i xs ys
    split at hz
    · rename_i n hq
      split at hz
      · rename_i hn
        rw [Option.bind_eq_some_iff] at hz
        obtain ⟨b, hb, hop⟩ := hz
        have hq' : P.eqGuardType P.depth t = false ∧ intsOnly P 8 t = some n ∧ (∀ c, valOf P t c = .agg c.toArray) := by
          unfold eqkOf at hq
          split at hq <;> first | (cases hq; done) | skip
          · rename_i hu'
            split at hq
            · rename_i n' h1 h2; cases hq; exact ⟨h1, h2, fun c => by unfold valOf; rw [hu']⟩
            · cases hq
          · rename_i hu'
            split at hq
            · rename_i n' h1 h2; cases hq; exact ⟨h1, h2, fun c => by unfold valOf; rw [hu']⟩
            · cases hq
        cases hu with
        | agg hl1 ho1 =>
          cases hv with
          | agg hl2 ho2 =>
            rename_i us vs
            have he := sameCells_eqV hb hl1 hl2
            have hlen : us.length = n := by rw [hl1.length, hn]
            have hlen2 : vs.length = n := by
              have : ∀ (xs ys : List AV) (b : Bool), sameCells xs ys = some b → xs.length = ys.length := by
                intro xs
                induction xs with
                | nil => intro ys b h; cases ys <;> simp [sameCells] at h ⊢
                | cons x r ih =>
                  intro ys b h
                  cases x <;> (try (simp [sameCells] at h; done))
                  rename_i x
                  cases x <;> (try (simp [sameCells] at h; done))
                  cases ys with
                  | nil => simp [sameCells] at h
                  | cons y s =>
                    cases y <;> (try (simp [sameCells] at h; done))
                    rename_i y
                    cases y <;> (try (simp [sameCells] at h; done))
                    simp only [sameCells] at h
                    split at h
                    · rw [Option.map_eq_some_iff] at h
                      obtain ⟨c, hc, _⟩ := h
                      simp [ih s c hc]
                    · cases h
              rw [hl2.length, ← this _ _ _ hb, hn]
            refine ⟨eqGuard_ok _ (fun h => by cases h) (fun _ _ _ _ => hq'.1), negIf_run hop _ (by simp) (by simp) (by simp) (by simp) ?_⟩
            have := eq_ints 8 t n us vs b S.w hq'.2.1 hlen hlen2 he 10000 (by omega)
            rw [hq'.2.2, hq'.2.2] at this
            exact this
      · cases hz
    · cases hz
  · split at hz
    · rename_i hq
      have ht : ∃ e, P.underlying t = some (.slice e) := by
        unfold eqkOf at hq
        split at hq <;> first | exact ⟨_,  by assumption⟩ | (cases hq; done) | (split at hq <;> cases hq)
      obtain ⟨e, ht⟩ := ht
      rw [Option.bind_eq_some_iff] at hz
      obtain ⟨b, hb, hop⟩ := hz
      refine nilable isNilS (.slice none 0 0) ?_ ?_ ?_ ⟨by simp, by simp, by simp, by simp, by simp⟩ ?_ (by simp) b hb hop
      · exact fun av y hr h => isNilS_true hr h
      · intro av y hr h
        obtain ⟨_, _, _, rfl⟩ := isNilS_false hr h
        exact ⟨eqS2 9999 ht _ _ _ _ _ _, eqS1 9999 ht _ _ _ _ _ _⟩
      · exact eqS1 9999 ht _ _ _ _ _ _
      · intro av y hr h
        obtain ⟨_, _, _, rfl⟩ := isNilS_false hr h
        simp
    · rename_i hq
      have ht : ∃ p r v, P.underlying t = some (.func p r v) := by
        unfold eqkOf at hq
        split at hq <;> first | exact ⟨_, _, _,  by assumption⟩ | (cases hq; done) | (split at hq <;> cases hq)
      obtain ⟨p, r, vv, ht⟩ := ht
      rw [Option.bind_eq_some_iff] at hz
      obtain ⟨b, hb, hop⟩ := hz
      refine nilable isNilF (.nilFunc) ?_ ?_ ?_ ⟨by simp, by simp, by simp, by simp, by simp⟩ ?_ (by simp) b hb hop
      · exact fun av y hr h => isNilF_true hr h
      · intro av y hr h
        obtain ⟨_, _, _, rfl⟩ := isNilF_false hr h
        exact ⟨eqF2 9999 ht _ _ _ _, eqF1 9999 ht _ _ _ _⟩
      · exact eqF0 9999 ht _
      · intro av y hr h
        obtain ⟨_, _, _, rfl⟩ := isNilF_false hr h
        simp
    · rename_i hq
      have ht : ∃ e, P.underlying t = some (.pointer e) := by
        unfold eqkOf at hq
        split at hq <;> first | exact ⟨_,  by assumption⟩ | (cases hq; done) | (split at hq <;> cases hq)
      obtain ⟨e, ht⟩ := ht
      rw [Option.bind_eq_some_iff] at hz
      obtain ⟨b, hb, hop⟩ := hz
      refine nilable isNilP (.pointer none) ?_ ?_ ?_ ⟨by simp, by simp, by simp, by simp, by simp⟩ ?_ (by simp) b hb hop
      · exact fun av y hr h => isNilP_true hr h
      · intro av y hr h
        obtain ⟨_, rfl⟩ := isNilP_false hr h
        exact ⟨eqP2 9999 ht _ _, eqP1 9999 ht _ _⟩
      · exact eqP1 9999 ht _ _
      · intro av y hr h
        obtain ⟨_, rfl⟩ := isNilP_false hr h
        simp
    · rename_i c hq
      have ht : (∃ ms, P.underlying t = some (.interface ms)) ∧ c = (isConstX x || isConstX y) := by
        unfold eqkOf at hq
        split at hq <;> first | (cases hq; exact ⟨⟨_, by assumption⟩, rfl⟩) | (cases hq; done) | (split at hq <;> cases hq)
      obtain ⟨⟨ms, ht⟩, hcc⟩ := ht
      split at hz
      · split at hz
        · rename_i hc
          obtain ⟨rfl, _⟩ := hu.v_inv
          obtain ⟨rfl, _⟩ := hv.v_inv
          refine ⟨eqGuard_ok _ (fun _ _ => by rw [← hcc]; exact hc) (fun _ _ h => by cases h), negIf_run hz _ (by simp) (by simp) (by simp) (by simp) ?_⟩
          exact eqI0 9999 ht _
        · cases hz
      · obtain ⟨rfl, _⟩ := hv.v_inv
        cases hu
        refine ⟨eqGuard_ok _ (fun h => by cases h) (fun _ _ h => by cases h), negIf_run hz _ (by simp) (by simp) (by simp) (by simp) ?_⟩
        exact eqI2 9999 ht _ _ _
      · obtain ⟨rfl, _⟩ := hu.v_inv
        cases hv
        refine ⟨eqGuard_ok _ (fun _ h => by cases h) (fun _ _ h => by cases h), negIf_run hz _ (by simp) (by simp) (by simp) (by simp) ?_⟩
        exact eqI1 9999 ht _ _ _
      · cases hz
    · cases hz

end

end VS
end Go.Proofs.Ytbnhmahkgeaajaa
