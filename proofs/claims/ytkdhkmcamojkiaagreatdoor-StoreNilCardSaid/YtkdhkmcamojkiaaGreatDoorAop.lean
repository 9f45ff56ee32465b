/- ONE OPERATION: what 'aop' says is what the model does. -/
import Derived.Test.YtkdhkmcamojkiaaGreatDoorAppends
namespace Go.Ev

section aop
variable {C : Ctx} {ρ : Env} {p : Nat → Prop} {tm : PT AV} {sz : Nat} {a : Act} {hp : Heap} {w : World}

/-- What the model's answer 'x' must be, given the evaluator's. -/
def OpR.good (C : Ctx) (ρ : Env) (p : Nat → Prop) (hp : Heap) (w : World) (nx : Nat) (x : Result Next) : OpR → Prop
  | .val v => x = .ok (.value (v.conc ρ)) w ∧ v.ok ρ p
  | .new v none => ∃ ρ' w', x = .ok (.value (v.conc ρ')) w' ∧ v.ok ρ' (more p nx (nx + 1)) ∧ Step C ρ p hp w ρ' (more p nx (nx + 1)) hp w'
  | .new v (some ob) => ∃ ρ' w', x = .ok (.value (v.conc ρ')) w' ∧ v.ok ρ' (more p nx (nx + 1)) ∧ Step C ρ p hp w ρ' (more p nx (nx + 1)) (hp.set nx (some ob)) w'
  | .heap v hp' nx' => nx ≤ nx' ∧ ∃ ρ' w', (x = .ok (.value (v.conc ρ')) w' ∨ (x = .ok .skip w' ∧ v = .undef)) ∧ v.ok ρ' (more p nx nx') ∧ Step C ρ p hp w ρ' (more p nx nx') hp' w'
  | .call f args => x = .ok (.enter f (concs ρ args).toArray) w ∧ oks ρ p args
  | .round l args => x = (Instr.yield (ρ.blk l) (concs ρ args).toArray).run C.P w ∧ p l ∧ oks ρ p args

theorem run_v {P : Program} {s : Sem Value} {v : Value} {w' : World} (h : s.run P w = .ok v w') : (do pure (Next.value (← s)) : Sem Next).run P w = .ok (.value v) w' := by
  simp only [Sem.run_bind, h, Result.andThen_ok, Sem.run_pure]
theorem run_u {P : Program} {s : Sem Unit} {w' : World} (h : s.run P w = .ok () w') : (do s; pure Next.skip : Sem Next).run P w = .ok .skip w' := by
  simp only [Sem.run_bind, h, Result.andThen_ok, Sem.run_pure]

theorem ofVal_some {o : Option AV} {r : OpR} (h : ofVal o = some r) : ∃ v, o = some v ∧ r = .val v := by
  cases o with
  | none => cases h
  | some v => simp only [ofVal, Option.some.injEq] at h; exact ⟨v, rfl, h.symm⟩

theorem good_val {nx : Nat} {s : Sem Value} {v : AV} (h : s.run C.P w = .ok (v.conc ρ) w ∧ v.ok ρ p) : (OpR.val v).good C ρ p hp w nx ((do pure (Next.value (← s)) : Sem Next).run C.P w) :=
  ⟨run_v h.1, h.2⟩

theorem more_zero {n : Nat} : ∀ id, p id → more p n n id := fun _ => more_left

theorem good_heap {nx : Nat} {x : Result Next} {v : AV} {hp' : Heap} {w' : World} (h : x = .ok (.value (v.conc ρ)) w' ∨ (x = .ok .skip w' ∧ v = .undef)) (hv : v.ok ρ p) (hs : Step C ρ p hp w ρ p hp' w') :
    (OpR.heap v hp' nx).good C ρ p hp w nx x :=
  ⟨Nat.le_refl _, ρ, w', h, AV.ok_mono (.refl _ _) more_zero _ hv, hs.widen more_zero⟩

theorem good_made {nx : Nat} {s : Sem Value} {r : OpR} (h : ∃ v ob ρ' w', r = .new v (some ob) ∧ s.run C.P w = .ok (v.conc ρ') w' ∧ v.ok ρ' (more p nx (nx + 1)) ∧ Step C ρ p hp w ρ' (more p nx (nx + 1)) (hp.set nx (some ob)) w') :
    r.good C ρ p hp w nx ((do pure (Next.value (← s)) : Sem Next).run C.P w) := by
  obtain ⟨v, ob, ρ', w', rfl, h1, h2, h3⟩ := h
  exact ⟨ρ', w', run_v h1, h2, h3⟩

theorem good_wrote {nx : Nat} {s : Sem Unit} {r : OpR} (h : ∃ hp' w', r = .heap .undef hp' nx ∧ s.run C.P w = .ok () w' ∧ Step C ρ p hp w ρ p hp' w') :
    r.good C ρ p hp w nx ((do s; pure Next.skip : Sem Next).run C.P w) := by
  obtain ⟨hp', w', rfl, h1, h2⟩ := h
  exact good_heap (.inr ⟨run_u h1, rfl⟩) trivial h2

theorem args_first {c : Array Operand} {x : Operand} {xs : List Operand} (h : c.toList = x :: xs) : (c.map a.eval)[0]? = some (a.eval x) := by
  rw [Array.getElem?_map, ← Array.getElem?_toList, h]; rfl

theorem aBuiltin_sound (hC : C.Ok) (hf : ρ.fine) (hi : Inv C ρ p hp w) (htm : Tm ρ p tm sz a.tmps) {nx : Nat} (hn : ¬ p nx) {b : Builtin} {ts : Array Nat} {args : Array Operand} {ty : Nat} {cs : Array Bool} {r : OpR}
    (h : aBuiltin C.T tm hp nx b ts.toList args.toList = some r) : r.good C ρ p hp w nx ((builtin b ts ty cs (args.map a.eval)).run C.P w) := by
  unfold aBuiltin at h
  split at h
  · cases h
  rename_i t more' hts
  have h0 : ts[0]? = some t := by rw [← Array.getElem?_toList, hts]; rfl
  split at h
  · -- len
    split at h
    · rename_i x xs hargs
      obtain ⟨v, hv, rfl⟩ := ofVal_some h
      exact good_val (lenA_sound hC hi htm h0 (args_first hargs) hv)
    · cases h
  · -- min
    obtain ⟨v, hv, rfl⟩ := ofVal_some h
    cases ha : evalL tm args.toList with
    | none => rw [ha] at hv; cases hv
    | some vs =>
      rw [ha] at hv
      obtain ⟨e1, _⟩ := args_list htm ha
      have := aMinMax_sound (P := C.P) (w := w) (ρ := ρ) (p := p) (ts := ts) (ty := ty) hv
      rw [← e1] at this
      exact good_val this
  · -- max
    obtain ⟨v, hv, rfl⟩ := ofVal_some h
    cases ha : evalL tm args.toList with
    | none => rw [ha] at hv; cases hv
    | some vs =>
      rw [ha] at hv
      obtain ⟨e1, _⟩ := args_list htm ha
      have := aMinMax_sound (P := C.P) (w := w) (ρ := ρ) (p := p) (ts := ts) (ty := ty) hv
      rw [← e1] at this
      exact good_val this
  · -- SliceData
    obtain ⟨v, hv, rfl⟩ := ofVal_some h
    cases ha : evalL tm args.toList with
    | none => rw [ha] at hv; cases hv
    | some vs =>
      rw [ha] at hv
      obtain ⟨e1, e2⟩ := args_list htm ha
      have := aSliceData_sound (P := C.P) (w := w) (ρ := ρ) (p := p) (ts := ts) (ty := ty) e2 hv
      rw [← e1] at this
      exact good_val this
  · -- append
    cases hz : noMake C.T more' with
    | false => rw [hz] at h; cases h
    | true =>
      rw [hz, cond_true] at h
      obtain ⟨hz1, _⟩ := noMake_sound hC hts hz
      obtain ⟨v, hp', nx', ρ', w', rfl, h1, h2, h3, h4⟩ := aAppend_sound (ty := ty) hC hf hi htm hn h0 hz1 h
      exact ⟨h1, ρ', w', .inl (run_v h2), h3, h4⟩
  · -- copy
    obtain ⟨v, hp', w', rfl, h2, h3, h4⟩ := aCopy_sound (ty := ty) hC hf hi htm h0 h
    exact good_heap (.inl (run_v h2)) h3 h4
  · -- delete
    obtain ⟨hp', w', rfl, h2, h4⟩ := aDelete_sound (ty := ty) hC hi htm h0 h
    exact good_heap (.inl (run_v h2)) trivial h4
  · -- String over bytes
    obtain ⟨v, hp', w', rfl, h2, h3, h4⟩ := aUnsafeString_sound (ty := ty) hC hi htm h0 h
    exact good_heap (.inl (run_v h2)) h3 h4
  · cases h

theorem aCallFn_sound (hC : C.Ok) {nx fn : Nat} {args : List AV} (hargs : oks ρ p args) {r : OpR} (h : aCallFn C.T fn args = some r) (hbody : ∀ f as, r = .call f as → ∃ i, C.P.funcs[f]? = some i ∧ i.body.isSome = true) :
    r.good C ρ p hp w nx ((callFunc fn (concs ρ args).toArray).run C.P w) := by
  unfold aCallFn at h
  split at h
  · rename_i e he
    obtain ⟨v, hv, rfl⟩ := ofVal_some h
    obtain ⟨i, h1, h2, h3, h4, h5⟩ := hC.ext _ _ he
    obtain ⟨q1, q2⟩ := extA_sound (P := C.P) (w := w) hargs hv
    refine ⟨?_, q2⟩
    have hname : (i.name == "runtime.NumGoroutine") = false := by simpa using h3
    simp only [callFunc, Sem.run_bind, run_program, Result.andThen_ok, h1, hname, Bool.false_eq_true, if_false, h2, Option.isNone_none, if_true, run_mark, h4, h5, q1, Sem.run_pure]
  · simp only [Option.some.injEq] at h
    subst h
    obtain ⟨i, h1, h2⟩ := hbody _ _ rfl
    refine ⟨?_, hargs⟩
    have hname : (i.name == "runtime.NumGoroutine") = false := by simpa using hC.names _ _ h1 h2
    have hbn : i.body.isNone = false := by cases hb : i.body <;> simp_all
    simp only [callFunc, Sem.run_bind, run_program, Result.andThen_ok, h1, hname, Bool.false_eq_true, if_false, hbn, Sem.run_pure]

theorem aCall_sound (hC : C.Ok) (hf : ρ.fine) (hi : Inv C ρ p hp w) (htm : Tm ρ p tm sz a.tmps) {nx : Nat} (hn : ¬ p nx) {c : Call} {ty : Nat} {r : OpR}
    (h : aCall C.T tm hp nx c = some r) (hbody : ∀ f as, r = .call f as → ∃ i, C.P.funcs[f]? = some i ∧ i.body.isSome = true) :
    r.good C ρ p hp w nx ((do let d ← resolve a.eval c ty; invoke d.target d.args : Sem Next).run C.P w) := by
  unfold aCall at h
  split at h
  · rename_i b hc
    have := aBuiltin_sound (ty := ty) (cs := c.args.map fun | .const _ => true | _ => false) hC hf hi htm hn h
    simp only [resolve, hc, Sem.run_bind, Sem.run_pure, Result.andThen_ok, invoke]
    exact this
  · rename_i g hc
    split at h
    · rename_i fn caps hg
      obtain ⟨e1, e2⟩ := evalO_some htm hg
      split at h
      · cases h
      rename_i args hargs
      obtain ⟨e3, e4⟩ := args_list htm hargs
      rw [appK_eq] at h
      have hoks : oks ρ p (args ++ caps) := (oks_iff _ _ _).2 fun v hv => (List.mem_append.1 hv).elim ((oks_iff _ _ _).1 e4 v) ((oks_iff _ _ _).1 e2 v)
      have := aCallFn_sound (hp := hp) (w := w) (nx := nx) hC hoks h hbody
      have hcat : c.args.map a.eval ++ (concs ρ caps).toArray = (concs ρ (args ++ caps)).toArray := by rw [e3]; simp [concs_eq]
      simp only [resolve, hc, Sem.run_bind, e1, AV.conc, Deferred.ofValue, Sem.run_pure, Result.andThen_ok, invoke, Array.empty_append, hcat]
      exact this
    · rename_i l hg
      obtain ⟨e1, e2⟩ := evalO_some htm hg
      split at h
      · cases h
      rename_i args hargs
      obtain ⟨e3, e4⟩ := args_list htm hargs
      simp only [Option.some.injEq] at h
      subst h
      refine ⟨?_, e2, e4⟩
      simp only [resolve, hc, Sem.run_bind, e1, AV.conc, Deferred.ofValue, Sem.run_pure, Result.andThen_ok, invoke, Array.empty_append, e3]
    · cases h
  · cases h

/-- ONE OPERATION. -/
theorem aop_sound (hC : C.Ok) (hf : ρ.fine) (hi : Inv C ρ p hp w) (htm : Tm ρ p tm sz a.tmps) {nx : Nat} (hn : ¬ p nx) {o : Oper} {r : OpR}
    (h : aop C.T o.op tm hp nx = some r) (hbody : ∀ f as, r = .call f as → ∃ i, C.P.funcs[f]? = some i ∧ i.body.isSome = true) :
    r.good C ρ p hp w nx ((execOp a.eval o).run C.P w) := by
  obtain ⟨dst, op, type, pos, after, guard⟩ := o
  simp only at h
  cases op <;> simp only [aop, reduceCtorEq] at h <;> simp only [execOp]
  case move x =>
    obtain ⟨v, hv, rfl⟩ := ofVal_some h
    obtain ⟨e1, e2⟩ := evalO_some htm hv
    exact ⟨by rw [e1]; rfl, e2⟩
  case assign x =>
    obtain ⟨v, hv, rfl⟩ := ofVal_some h
    obtain ⟨e1, e2⟩ := evalO_some htm hv
    exact ⟨by rw [e1]; rfl, e2⟩
  case pick c x y =>
    obtain ⟨v, hv, rfl⟩ := ofVal_some h
    exact aPick_sound htm hv
  case nilCheck x =>
    obtain ⟨v, hv, rfl⟩ := ofVal_some h
    obtain ⟨b, o, e1, e2, e3⟩ := aNilCheck_sound htm hv
    refine ⟨?_, e3⟩
    rw [← e2, e1]
    rfl
  case binOp op t x y yt =>
    obtain ⟨v, hv, rfl⟩ := ofVal_some h
    exact good_val (aBin_sound hC htm hv)
  case unOp op t x =>
    obtain ⟨v, hv, rfl⟩ := ofVal_some h
    exact good_val (aUn_sound htm hv)
  case makeInterface t x =>
    obtain ⟨v, hv, rfl⟩ := ofVal_some h
    exact good_val (aMakeIface_sound hC htm hv)
  case makeFunc fn first caps =>
    obtain ⟨v, hv, rfl⟩ := ofVal_some h
    exact good_val (aMakeFunc_sound htm hv)
  case fieldAddr s x f =>
    obtain ⟨v, hv, rfl⟩ := ofVal_some h
    exact good_val (aFieldAddr_sound hC htm hv)
  case field s x f =>
    obtain ⟨v, hv, rfl⟩ := ofVal_some h
    exact good_val (aField_sound hC htm hv)
  case indexAddr t x ix =>
    obtain ⟨v, hv, rfl⟩ := ofVal_some h
    exact good_val (aIndexAddr_sound hC htm hv)
  case index t x ix =>
    obtain ⟨v, hv, rfl⟩ := ofVal_some h
    exact good_val (aIndex_sound hC htm hv)
  case extract x ix =>
    obtain ⟨v, hv, rfl⟩ := ofVal_some h
    exact good_val (aExtract_sound htm hv)
  case build t parts =>
    obtain ⟨v, hv, rfl⟩ := ofVal_some h
    exact good_val (aBuild_sound hC hf htm hv)
  case slice t x lo hi' mx =>
    rcases aSlice_sound hC hi htm hn h with ⟨v, rfl, h1, h2⟩ | ⟨v, ρ', rfl, h1, h2, h3⟩
    · exact good_val ⟨h1, h2⟩
    · exact ⟨ρ', w, run_v h1, h2, h3⟩
  case load t x =>
    obtain ⟨v, hv, rfl⟩ := ofVal_some h
    exact good_val (aLoad_sound hC hi htm hv)
  case lookup t m k ok =>
    obtain ⟨v, hv, rfl⟩ := ofVal_some h
    exact good_val (aLookup_sound hC hi htm hv)
  case convert s d x =>
    rcases aConvert_sound hC hi htm hn h with ⟨v, rfl, h1, h2⟩ | ⟨v, ob, ρ', w', rfl, h1, h2, h3⟩
    · exact good_val ⟨h1, h2⟩
    · exact ⟨ρ', w', run_v h1, h2, h3⟩
  case alloc t => exact good_made (aAlloc_sound hC hi hn h)
  case box t x => exact good_made (aBox_sound hf hi htm hn h)
  case buildSlice t len parts => exact good_made (aBuildSlice_sound hC hf hi htm hn h)
  case makeSlice t l c => exact good_made (aMakeSlice_sound hC hi htm hn h)
  case makeMap t r =>
    cases r with
    | none =>
      simp only [Option.some.injEq] at h
      subst h
      obtain ⟨ρ', w', h1, h2, h3⟩ := aMakeMap_sound (t := t) hi hn
      exact ⟨ρ', w', run_v h1, h2, h3⟩
    | some _ => cases h
  case range t x => exact good_made (aRange_sound hC hi htm hn h)
  case store t x y => exact good_wrote (aStore_sound hC hf hi htm h)
  case mapUpdate t m k x => exact good_wrote (aMapUpdate_sound hC hi htm h)
  case insert t m k x => exact good_wrote (aMapUpdate_sound hC hi htm h)
  case next it s =>
    cases s with
    | true =>
      obtain ⟨v, hp', w', rfl, h1, h2, h3⟩ := aNext_sound (ty := type) hi htm h
      exact good_heap (.inl (run_v h1)) h2 h3
    | false => cases h
  case call c => exact aCall_sound hC hf hi htm hn h hbody

end aop
end Go.Ev
