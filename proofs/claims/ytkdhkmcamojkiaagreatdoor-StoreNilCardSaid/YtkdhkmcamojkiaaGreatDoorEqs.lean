/- Operators, second part: equality; the whole of a two-sided operator. -/
import Derived.Test.YtkdhkmcamojkiaaGreatDoorNums
namespace Go.Ev

section ops
variable {C : Ctx} {ρ : Env} {p : Nat → Prop} {tm : PT AV} {sz : Nat} {a : Act} {hp : Heap} {w : World}

set_option maxHeartbeats 1000000 in
theorem aeq_sound_at (hC : C.Ok) (dp : Nat) {t : Nat} {c : Bool} {x y : AV} {b : Bool} (h : aeq C.T t c x y = some b) :
    (Op.equalIn (dp + 1 + 1) t (x.conc ρ) (y.conc ρ)).run C.P w = .ok b w := by
  unfold aeq at h
  split at h
  · cases h
  rename_i i hi
  obtain ⟨d, hd, hrel⟩ := (hC.ty _ _ hi).desc
  split at h <;> (rename_i hdesc; try rw [hdesc] at hrel)
  case h_1 =>
    have e : d = .bool := hrel
    subst e
    simp only [Option.some.injEq] at h
    subst h
    simp only [AV.conc, Op.equalIn, Sem.run_bind, run_underlying' hd, Result.andThen_ok, Sem.run_pure, beqB_eq]
  case h_2 =>
    have e : d = .pointer _ := hrel
    subst e
    simp only [Option.some.injEq] at h
    subst h
    rw [Op.equalIn, Sem.run_bind, run_underlying' hd]; rfl
  case h_3 =>
    have e : d = .pointer _ := hrel
    subst e
    simp only [Option.some.injEq] at h
    subst h
    rw [Op.equalIn, Sem.run_bind, run_underlying' hd]; rfl
  case h_4 =>
    have e : d = .pointer _ := hrel
    subst e
    simp only [Option.some.injEq] at h
    subst h
    rw [Op.equalIn, Sem.run_bind, run_underlying' hd]; rfl
  case h_5 =>
    have e : d = .pointer _ := hrel
    subst e
    simp only [Option.some.injEq] at h
    subst h
    rw [Op.equalIn, Sem.run_bind, run_underlying' hd]; rfl
  case h_6 =>
    have e : d = .pointer _ := hrel
    subst e
    simp only [Option.some.injEq] at h
    subst h
    rw [Op.equalIn, Sem.run_bind, run_underlying' hd]; rfl
  case h_8 =>
    have e : d = .slice _ := hrel
    subst e
    simp only [Option.some.injEq] at h
    subst h
    rw [Op.equalIn, Sem.run_bind, run_underlying' hd]; rfl
  case h_9 =>
    have e : d = .slice _ := hrel
    subst e
    simp only [Option.some.injEq] at h
    subst h
    rw [Op.equalIn, Sem.run_bind, run_underlying' hd]; rfl
  case h_10 =>
    have e : d = .slice _ := hrel
    subst e
    simp only [Option.some.injEq] at h
    subst h
    rw [Op.equalIn, Sem.run_bind, run_underlying' hd]; rfl
  case h_11 =>
    have e : d = .slice _ := hrel
    subst e
    simp only [Option.some.injEq] at h
    subst h
    rw [Op.equalIn, Sem.run_bind, run_underlying' hd]; rfl
  case h_12 =>
    have e : d = .slice _ := hrel
    subst e
    simp only [Option.some.injEq] at h
    subst h
    rw [Op.equalIn, Sem.run_bind, run_underlying' hd]; rfl
  case h_13 =>
    obtain ⟨_, _, _, rfl⟩ := hrel
    simp only [Option.some.injEq] at h
    subst h
    rw [Op.equalIn, Sem.run_bind, run_underlying' hd]; rfl
  case h_14 =>
    obtain ⟨_, _, _, rfl⟩ := hrel
    simp only [Option.some.injEq] at h
    subst h
    rw [Op.equalIn, Sem.run_bind, run_underlying' hd]; rfl
  case h_15 =>
    obtain ⟨_, _, _, rfl⟩ := hrel
    simp only [Option.some.injEq] at h
    subst h
    rw [Op.equalIn, Sem.run_bind, run_underlying' hd]; rfl
  case h_16 =>
    obtain ⟨_, rfl⟩ := hrel
    cases c with
    | false => cases h
    | true =>
      simp only [cond_true, Option.some.injEq] at h
      subst h
      rw [Op.equalIn, Sem.run_bind, run_underlying' hd]; rfl
  case h_17 =>
    obtain ⟨_, rfl⟩ := hrel
    simp only [Option.some.injEq] at h
    subst h
    rw [Op.equalIn, Sem.run_bind, run_underlying' hd]; rfl
  case h_18 =>
    obtain ⟨_, rfl⟩ := hrel
    simp only [Option.some.injEq] at h
    subst h
    rw [Op.equalIn, Sem.run_bind, run_underlying' hd]; rfl
  case h_7 =>
    rename_i e' b1 o1 b2 o2
    have e : d = .pointer _ := hrel
    subst e
    split at h
    · cases h
    rename_i j hj
    cases hz : Nat.beq j.size 0 with
    | true => rw [hz] at h; cases h
    | false =>
      have hz' := Nat.ne_of_beq_eq_false hz
      rw [hz, cond_false] at h
      cases hb : Nat.beq b1 b2 with
      | false => rw [hb] at h; cases h
      | true =>
        have hb' := Nat.eq_of_beq_eq_true hb
        subst hb'
        rw [hb, cond_true] at h
        simp only [Option.some.injEq] at h
        subst h
        simp only [AV.conc, Op.equalIn, Sem.run_bind, run_underlying' hd, Result.andThen_ok, (hC.ty _ _ hj).run_size, ne_eq, hz', not_false_eq_true, if_true, sameAddr, BEq.rfl, Sem.run_pure]
        congr 1
        rw [Bool.eq_iff_iff, Nat.beq_eq, beq_iff_eq]
        simp
  case h_19 =>
    rename_i tx vx ty vy
    obtain ⟨_, rfl⟩ := hrel
    cases hb : Nat.beq tx ty with
    | false =>
      have hb' := Nat.ne_of_beq_eq_false hb
      rw [hb, cond_false] at h
      simp only [Option.some.injEq] at h
      subst h
      simp only [AV.conc, Op.equalIn, Sem.run_bind, run_underlying' hd, Result.andThen_ok, Sem.run_pure, ne_eq, hb', not_false_eq_true, if_true]
    | true =>
      have hb' := Nat.eq_of_beq_eq_true hb
      subst hb'
      rw [hb, cond_true] at h
      split at h
      · cases h
      rename_i j hj
      have hT := hC.ty _ _ hj
      obtain ⟨inf, h1, _, _, h4⟩ := hT.run_info (w := w)
      cases hcmp : j.cmp with
      | false => rw [hcmp] at h; cases h
      | true =>
        rw [hcmp, cond_true] at h
        split at h
        · rename_i k0 k n k' m hjd
          obtain ⟨d', hd', hrel'⟩ := hT.desc
          rw [hjd] at hrel'
          have e : d' = .int _ := hrel'
          subst e
          cases hk : kindEq k k' with
          | false => rw [hk] at h; cases h
          | true =>
            have := kindEq_eq hk
            subst this
            rw [hk, cond_true] at h
            simp only [Option.some.injEq] at h
            subst h
            simp only [AV.conc, Op.equalIn, Sem.run_bind, run_underlying' hd, Result.andThen_ok, ne_eq, not_true_eq_false, if_false, h1, h4, hcmp, Bool.not_true, Bool.false_eq_true, run_underlying' hd', if_true,
              Sem.run_pure, eqI_eq]
            rfl
        · cases h
  case h_20 => cases h

theorem aeq_sound (hC : C.Ok) {t : Nat} {c : Bool} {x y : AV} {b : Bool} (h : aeq C.T t c x y = some b) : (Op.equal t (x.conc ρ) (y.conc ρ)).run C.P w = .ok b w :=
  aeq_sound_at hC 9998 h

theorem eqGuard_ok {P : Program} {op : BinOp} {t : Nat} {X Y : Operand} {u v : Value} (h1 : ∀ l, u ≠ .agg l) (h2 : u = .nilIface → (isConst X || isConst Y) = true ∨ v ≠ .nilIface) :
    (eqGuard op t X Y u v).run P w = .ok () w := by
  have key : ∀ op : BinOp, op = .eql ∨ op = .neq → (eqGuard op t X Y u v).run P w = .ok () w := fun op hop => by
    cases u with
    | agg l => exact absurd rfl (h1 l)
    | nilIface =>
      cases v with
      | nilIface =>
        rcases h2 rfl with h | h
        · rcases hop with rfl | rfl <;> (cases X <;> cases Y <;> first | (simp [isConst] at h; done) | rfl)
        · exact absurd rfl h
      | _ => rcases hop with rfl | rfl <;> rfl
    | _ => rcases hop with rfl | rfl <;> rfl
  cases op <;> first | exact key _ (.inl rfl) | exact key _ (.inr rfl) | rfl

theorem aeq_guard {P : Program} {T : Tabs} {op : BinOp} {t : Nat} {X Y : Operand} {x y : AV} {b : Bool} (h : aeq T t (isConst X || isConst Y) x y = some b) :
    (eqGuard op t X Y (x.conc ρ) (y.conc ρ)).run P w = .ok () w := by
  unfold aeq at h
  split at h
  · cases h
  split at h
  case h_16 =>
    refine eqGuard_ok (by simp [AV.conc]) fun _ => .inl ?_
    cases hc : (isConst X || isConst Y) with
    | false => rw [hc] at h; cases h
    | true => rfl
  case h_17 => exact eqGuard_ok (by simp [AV.conc]) fun _ => .inr (by simp [AV.conc])
  case h_20 => cases h
  all_goals exact eqGuard_ok (by simp [AV.conc]) fun e => by simp [AV.conc] at e

/-- Of which make two values are that '==' is asked of. -/
theorem aeq_plain {T : Tabs} {t : Nat} {c : Bool} {x y : AV} {b : Bool} (h : aeq T t c x y = some b) : 
    (binOp .eql t (x.conc ρ) (y.conc ρ) = do pure (.bool (← Op.equal t (x.conc ρ) (y.conc ρ)))) ∧ (binOp .neq t (x.conc ρ) (y.conc ρ) = do pure (.bool (!(← Op.equal t (x.conc ρ) (y.conc ρ))))) := by
  unfold aeq at h
  split at h
  · cases h
  split at h <;> first | (cases h; done) | exact ⟨rfl, rfl⟩

theorem binA_sound (hC : C.Ok) {op : BinOp} {t : Nat} {X Y : Operand} {x y v : AV} (h : binA C.T op t (isConst X || isConst Y) x y = some v) :
    (do eqGuard op t X Y (x.conc ρ) (y.conc ρ); binOp op t (x.conc ρ) (y.conc ρ)).run C.P w = .ok (v.conc ρ) w ∧ v.ok ρ p := by
  have g : ∀ op X Y (x y : AV), (∀ l, x.conc ρ ≠ .agg l) → x.conc ρ ≠ .nilIface → (eqGuard op t X Y (x.conc ρ) (y.conc ρ)).run C.P w = .ok () w := fun op X Y x y h1 h2 => eqGuard_ok h1 fun e => absurd e h2
  unfold binA at h
  split at h
  · rename_i k n k' m
    have g := g op X Y (.int k n) (.int k' m) (by simp [AV.conc]) (by simp [AV.conc])
    split at h
    · obtain ⟨h1, h2⟩ := shiftI_sound (ρ := ρ) (p := p) (w := w) (t := t) (P := C.P) (k' := k') h
      exact ⟨by rw [Sem.run_bind, g]; exact h1, h2⟩
    · obtain ⟨h1, h2⟩ := shiftI_sound (ρ := ρ) (p := p) (w := w) (t := t) (P := C.P) (k' := k') h
      exact ⟨by rw [Sem.run_bind, g]; exact h1, h2⟩
    · rename_i ns1 ns2
      cases hk : kindEq k k' with
      | false => rw [hk] at h; cases h
      | true =>
        have := kindEq_eq hk
        subst this
        rw [hk, cond_true] at h
        obtain ⟨h1, h2⟩ := binI_sound (ρ := ρ) (p := p) (w := w) (t := t) (P := C.P) h (fun e => ns1 e) (fun e => ns2 e)
        exact ⟨by rw [Sem.run_bind, g]; exact h1, h2⟩
  · rename_i s1 s2
    have g := g op X Y (.str s1) (.str s2) (by simp [AV.conc]) (by simp [AV.conc])
    obtain ⟨h1, h2⟩ := binS_sound (ρ := ρ) (p := p) (w := w) (t := t) (P := C.P) h
    exact ⟨by rw [Sem.run_bind, g]; exact h1, h2⟩
  · split at h
    · cases hb : aeq C.T t (isConst X || isConst Y) x y with
      | none => rw [hb] at h; cases h
      | some b =>
        rw [hb] at h
        simp only [Option.some.injEq] at h
        subst h
        refine ⟨?_, trivial⟩
        rw [(aeq_plain hb).1]
        simp only [Sem.run_bind, aeq_guard hb, Result.andThen_ok, aeq_sound (ρ := ρ) (w := w) hC hb, Sem.run_pure, AV.conc]
    · cases hb : aeq C.T t (isConst X || isConst Y) x y with
      | none => rw [hb] at h; cases h
      | some b =>
        rw [hb] at h
        simp only [Option.some.injEq] at h
        subst h
        refine ⟨?_, trivial⟩
        rw [(aeq_plain hb).2]
        simp only [Sem.run_bind, aeq_guard hb, Result.andThen_ok, aeq_sound (ρ := ρ) (w := w) hC hb, Sem.run_pure, AV.conc]
    · cases h

theorem aBin_sound (hC : C.Ok) (htm : Tm ρ p tm sz a.tmps) {op : BinOp} {t : Nat} {X Y : Operand} {v : AV} (h : aBin C.T tm op t X Y = some v) :
    (do eqGuard op t X Y (a.eval X) (a.eval Y); binOp op t (a.eval X) (a.eval Y)).run C.P w = .ok (v.conc ρ) w ∧ v.ok ρ p := by
  unfold aBin at h
  split at h
  · cases h
  rename_i x hx
  split at h
  · cases h
  rename_i y hy
  rw [(evalO_some htm hx).1, (evalO_some htm hy).1]
  exact binA_sound hC h

theorem aUn_sound (htm : Tm ρ p tm sz a.tmps) {op : UnOp} {X : Operand} {v : AV} {P : Program} (h : aUn tm op X = some v) :
    (Op.unary op (a.eval X)).run P w = .ok (v.conc ρ) w ∧ v.ok ρ p := by
  unfold aUn at h
  split at h
  · rename_i x hx
    rw [(evalO_some htm hx).1]
    unfold unA at h
    split at h
    · simp only [Option.some.injEq] at h; subst h; exact ⟨by simp [Op.unary, AV.conc], trivial⟩
    · simp only [intK_eq, wrapF_eq, Option.some.injEq] at h; subst h
      exact ⟨by simp [Op.unary, Op.intArith, AV.conc], trivial⟩
    · rename_i k n
      simp only [intK_eq, wrapF_eq, Option.some.injEq] at h; subst h
      refine ⟨?_, trivial⟩
      simp only [Op.unary, Op.intBits, AV.conc, Sem.run_pure]
      rw [toNat_xor]
      congr 4
      have : natOf k (if k.signed = true then -1 else k.max) = 2 ^ k.bits - 1 := by cases k <;> decide
      rw [this]
    · cases h
  · cases h

end ops
end Go.Ev
