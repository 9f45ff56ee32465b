/- THE WALK: ranges over functions; a piece of code; all of it, but drawn regions (asked as a premise here). -/
import Derived.Test.YtkdhkmcamojkiaaGreatDoorCalls
namespace Go.Ev

section range
variable {C : Ctx} {rec : Task → Option Res}

/-- A block that no number will name. -/
theorem Step.push {ρ : Env} {p : Nat → Prop} {hp : Heap} {w : World} (h : Inv C ρ p hp w) (o : Obj) : Step C ρ p hp w ρ p hp { w with heap := w.heap.push o } := by
  have hget : ∀ b : Nat, b < w.heap.size → (w.heap.push o)[b]? = w.heap[b]? := fun b hb => by rw [Array.getElem?_push_lt hb, Array.getElem?_eq_getElem hb]
  refine ⟨⟨fun id ob ho => ?_, h.inj, h.own, fun b hb => ?_, ?_, h.atom⟩, .refl _ _, fun _ x => x, by simp, fun b hb _ => hget b hb, fun id ob ho => .inr ⟨id, ob, ho, rfl⟩, .refl _⟩
  · obtain ⟨a, b, o', c, d⟩ := h.sat id ob ho
    exact ⟨a, b, o', by show (w.heap.push o)[ρ.blk id]? = _; rw [hget _ (h.lt ho)]; exact c, d⟩
  · show (w.heap.push o)[b]? = _
    rw [hget b (by have := h.size; omega)]
    exact h.old b hb
  · have := h.size; simp; omega

theorem blk_agree {p : Nat → Prop} {ρ ρ' : Env} (h : Env.agree p ρ ρ') {id : Nat} (hid : p id) : ρ'.blk id = ρ.blk id := (h.2 id hid).1

/-- From the record on: the call, the end. -/
theorem range_tail (hC : C.Ok) (hrec : ∀ t r, rec t = some r → Good C t r) {ro : Option Nat} {g : Operand} {sz : Nat} {tm : PT AV} {l fn : Nat} {caps : List AV} {hp1 hp2 : Heap} {n2 : Nat} {v : AV} {r : Res}
    (hg : evalO tm g = some (.func fn caps)) (hext : C.T.ext fn = none) (hr : rec (.call fn (.yld l :: caps) hp1 (l + 1)) = some (.val v hp2 n2)) (hend : doRangeEnd l tm hp2 n2 = some r) :
    ∃ x hp' , r = .out x tm hp' n2 ∧ l + 1 ≤ n2 ∧ ∀ (F : Fence) (n : Nat) (ρ : Env) (p : Nat → Prop) (w₁ : World) (a : Act) (mark : List Deferred) (Q : Exit → Act → World → Prop), FOk F ρ p ro → Inv C ρ p hp1 w₁ → Fresh p (l + 1) → p l → Tm ρ p tm sz a.tmps →
      (∀ ρ' w', Step C ρ p hp1 w₁ ρ' (more p (l + 1) n2) hp' w' → Q x.conc { a with defers := mark ++ a.defers } w') →
      ∃ (dd : Deferred) (w₁' : World) (f : FuncId) (args : Array Value) (w₂ : World),
        (resolve a.eval (rangeCall g (ρ.blk l)) 0).run C.P w₁ = .ok dd w₁' ∧ (∀ f', Target.leads C.P w₁' dd.target dd.args = some f' → F.fn f') ∧ (invoke dd.target dd.args).run C.P w₁' = .ok (.enter f args) w₂ ∧
        (F.depth.isSome = true → 1 ≤ n) ∧ CallsIn F (n - 1) C.P f args w₂ (rangePost F n C.P (ρ.blk l) Q { a with defers := mark ++ a.defers }) := by
  have gc := hrec _ _ hr
  unfold doRangeEnd at hend
  split at hend
  rotate_left
  · cases hend
  rename_i st pend tm0 sz0 ps0 as0 bd0 d0 hl2
  split at hend
  · cases hend
  rename_i hst
  simp only [setObj, PT.setK_eq, Option.some.injEq] at hend
  subst hend
  refine ⟨_, _, rfl, gc.1, fun F n ρ p w₁ a mark Q hF hi hfr hpl htm hpost => ?_⟩
  obtain ⟨e1, e2⟩ := evalO_some htm hg
  have hok : oks ρ p (.yld l :: caps) := ⟨hpl, e2⟩
  have hinv := aCallFn_sound (hp := hp1) (w := w₁) (nx := 0) (r := .call fn (.yld l :: caps)) hC hok (by unfold aCallFn; rw [hext]) (fun f as e => by
    simp only [OpR.call.injEq] at e
    obtain ⟨rfl, rfl⟩ := e
    exact gc.2.1)
  have hargs : #[Value.func (.yield (ρ.blk l)) #[] #[]] ++ (concs ρ caps).toArray = (concs ρ (.yld l :: caps)).toArray := by
    rw [← Array.toList_inj]
    simp [concs, AV.conc]
  have hm : (#[Operand.const (Value.func (.yield (ρ.blk l)) #[] #[])] : Array Operand).map a.eval = #[.func (.yield (ρ.blk l)) #[] #[]] := by
    rw [← Array.toList_inj]
    simp
    rfl
  refine ⟨{ target := .fn (.func fn) (concs ρ caps).toArray, args := #[] ++ #[.func (.yield (ρ.blk l)) #[] #[]] }, w₁, fn, (concs ρ (.yld l :: caps)).toArray, w₁, ?_, fun f' _ => hF.fn f', ?_, hF.nodepth, ?_⟩
  · simp only [resolve, e1, AV.conc, Deferred.ofValue, Sem.run_pure, hm]
  · simp only [invoke, Array.empty_append, hargs]
    exact hinv.1
  · refine CallsIn.mono (hF.calls (gc.2.2 (n - 1) ρ p w₁ hi hfr hok)) fun e w₃ he => ?_
    obtain ⟨ρ', rfl, hv, hs⟩ := he
    have hb : ρ'.blk l = ρ.blk l := blk_agree hs.agree hpl
    obtain ⟨fn2, tmps2, hw2, htm2, hpl2, hpd2⟩ := hs.inv.loop hl2
    obtain ⟨w₄, s1, s2⟩ := Step.loop (st' := .exhausted) (pend' := pend) hs.inv hl2 hw2 htm2 hpd2 C.P
    have hq := hpost ρ' w₄ (hs.trans s2)
    refine ⟨pend.conc, w₄, ?_, ?_⟩
    · rw [← hb]
      have hnb : (st.conc == LoopState.busy) = false := by
        cases st with
        | busy => exact absurd rfl hst
        | ready => rfl
        | done => rfl
        | exhausted => rfl
      simp only [Instr.endLoop, Sem.run_bind, run_getLoop hw2, Result.andThen_ok, hnb, Bool.false_eq_true, if_false]
      simp only [LState.conc] at s1
      rw [s1]
      rfl
    · cases pend with
      | none => exact hq
      | ret => exact wpIn_ret hq
      | exit id => exact wpIn_exit hq
      | goto t => exact wpIn_goto hq

theorem range_good (hC : C.Ok) (hrec : ∀ t r, rec t = some r → Good C t r) {ro : Option Nat} {g : Operand} {ps : Array Tmp} {assign body : Code} {sz : Nat} {tm : PT AV} {hp : Heap} {nx : Nat} {r : Res}
    (h : doRange C.T rec ro g ps assign body sz tm hp nx = some r) : Good C (.code ro (.rangeFunc g ps assign body) sz tm hp nx) r := by
  unfold doRange at h
  split at h
  · cases h
  rename_i d hp0 l hd
  split at h
  · cases h
  rename_i hp1 hset
  simp only [setObj, PT.setK_eq, Option.some.injEq] at hset
  subst hset
  split at h
  rotate_left
  · cases h
  rename_i fn caps hg
  split at h
  · cases h
  rename_i hext
  rw [natK_eq] at h
  split at h
  rotate_left
  · cases h
  rename_i v hp2 n2 hr
  obtain ⟨x, hp', rfl, hle, tail⟩ := range_tail (ro := ro) (g := g) (sz := sz) hC hrec hg hext hr h
  unfold dfrOf at hd
  split at hd
  · -- within a round of l0
    rename_i l0
    split at hd
    rotate_left
    · cases hd
    rename_i st0 pend0 tm0 sz0 ps0 as0 bd0 d0 hl0
    simp only [Option.some.injEq, Prod.mk.injEq] at hd
    obtain ⟨rfl, rfl, rfl⟩ := hd
    refine ⟨by omega, fun F n ρ p w a Q hF hi hfr htm hpost => wpIn_rangeFunc fun fn' _ => ?_⟩
    obtain ⟨fn0, tmps0, hw0, htm0, hpl0, hpd0⟩ := hi.loop hl0
    have hst := Step.alloc' (ρ := ρ) (w₁ := w) (c := 0) (ob := .loop .ready .none tm sz ps assign body d0)
      (o := .loop { state := .ready, pending := none, fn := fn', tmps := a.tmps, params := ps, assign := assign, body := body, defers := ρ.blk d0 }) hi (hfr nx (Nat.le_refl _)) rfl (.refl _)
      ⟨fn', a.tmps, by rw [blk_agree (Env.with_agree (hfr nx (Nat.le_refl _)) _ _ _) hpd0]; rfl, htm.size, fun t => by rw [AV.conc_congr (Env.with_agree (hfr nx (Nat.le_refl _)) _ _ _) _ (htm.ok t)]; exact htm.val t⟩
      ⟨fun t => AV.ok_mono (Env.with_agree (hfr nx (Nat.le_refl _)) _ _ _) (fun _ => more_left) _ (htm.ok t), more_left hpd0⟩
    have hbl : (ρ.with nx w.heap.size 0 0).blk nx = w.heap.size := Env.with_blk _ _ _ _ _
    obtain ⟨dd, w₁', f, args, w₂, t1, t2, t3, t4, t5⟩ := tail F n _ _ _ a [] Q (hF.step hst.agree hst.mono) hst.inv (hfr.more (Nat.le_succ _)) more_one (htm.mono hst.agree hst.mono) (fun ρ' w' hs => by
      rw [more_trans (Nat.le_succ _) hle] at hs
      exact hpost ρ' _ w' ⟨hst.trans hs, htm.mono (hst.trans hs).agree (hst.trans hs).mono, [], rfl, .nil _ _ _ _⟩)
    rw [hbl] at t1 t5
    refine ⟨w.heap.size, [], _, dd, w₁', f, args, w₂, ?_, t1, t2, t3, t4, t5⟩
    have hround : F.round = some (ρ.blk l0) := by rw [hF.2]; rfl
    rw [hround]
    simp only [Instr.enterLoop, Sem.run_bind, run_getLoop hw0, Result.andThen_ok, Sem.run_pure, run_newObj]
  · -- an outermost loop
    rw [natK_eq] at hd
    simp only [Option.some.injEq, Prod.mk.injEq] at hd
    obtain ⟨rfl, rfl, rfl⟩ := hd
    refine ⟨by omega, fun F n ρ p w a Q hF hi hfr htm hpost => wpIn_rangeFunc fun fn' _ => ?_⟩
    have s1 := Step.push hi (.deferred (some []))
    have s2 := s1.trans (Step.name (w' := { w with heap := w.heap.push (.deferred (some [])) }) s1.inv (hfr nx (Nat.le_refl _)) w.heap.size 0 0 rfl (.refl _))
    have hbd : (ρ.with nx w.heap.size 0 0).blk nx = w.heap.size := Env.with_blk _ _ _ _ _
    have htm2 := htm.mono s2.agree s2.mono
    have hfr2 : Fresh (more p nx (nx + 1)) (nx + 1) := hfr.more (Nat.le_succ _)
    have hag := Env.with_agree (ρ := ρ.with nx w.heap.size 0 0) (hfr2 (nx + 1) (Nat.le_refl _)) (w.heap.push (.deferred (some []))).size 0 0
    have hst := Step.alloc' (w₁ := { w with heap := w.heap.push (.deferred (some [])) }) (c := 0) (ob := .loop .ready .none tm sz ps assign body nx)
      (o := .loop { state := .ready, pending := none, fn := fn', tmps := a.tmps, params := ps, assign := assign, body := body, defers := w.heap.size }) s2.inv (hfr2 (nx + 1) (Nat.le_refl _)) rfl (.refl _)
      ⟨fn', a.tmps, by rw [blk_agree hag more_one, hbd]; rfl, htm2.size, fun t => by rw [AV.conc_congr hag _ (htm2.ok t)]; exact htm2.val t⟩
      ⟨fun t => AV.ok_mono hag (fun _ => more_left) _ (htm2.ok t), more_left more_one⟩
    have hbl : ((ρ.with nx w.heap.size 0 0).with (nx + 1) (w.heap.push (.deferred (some []))).size 0 0).blk (nx + 1) = w.heap.size + 1 := by rw [Env.with_blk]; simp
    have s3 := s2.trans hst
    have hm2 : MarkAt (ρ.with nx w.heap.size 0 0) hp { w with heap := w.heap.push (.deferred (some [])) } w.heap.size w.heap.size := by
      refine ⟨Nat.le_refl _, by simp, fun id o ho e => ?_, by simp⟩
      rw [blk_agree (Env.with_agree (hfr nx (Nat.le_refl _)) _ _ _) (hi.sat id o ho).1] at e
      have := hi.lt ho
      omega
    obtain ⟨dd, w₁', f, args, w₂, t1, t2, t3, t4, t5⟩ := tail F n _ _ _ a [markOf w.heap.size] Q (hF.step s3.agree s3.mono) hst.inv (hfr2.more (Nat.le_succ _)) more_one (htm.mono s3.agree s3.mono) (fun ρ' w' hs => by
      have hall := s3.trans hs
      rw [more_trans (Nat.le_succ _) (Nat.le_succ _), more_trans (by omega) hle] at hall
      refine hpost ρ' _ w' ⟨hall, htm.mono hall.agree hall.mono, [markOf w.heap.size], rfl, [w.heap.size], rfl, by simp, fun r hr => ?_⟩
      rw [List.mem_singleton] at hr
      subst hr
      exact (hm2.step hst).step hs)
    rw [hbl] at t1 t5
    refine ⟨w.heap.size + 1, [markOf w.heap.size], _, dd, w₁', f, args, w₂, ?_, t1, t2, t3, t4, t5⟩
    have hround : F.round = none := by rw [show F = Fence.wide from hF]; rfl
    rw [hround]
    simp only [Instr.enterLoop, Sem.run_bind, Sem.run_pure, Result.andThen_ok, run_newObj, Array.size_push]
    rfl

/-! ### All of it -/
/-- What is asked of drawn regions. -/
def DrawnOk (C : Ctx) : Prop := ∀ (rec : Task → Option Res), (∀ t r, rec t = some r → Good C t r) → ∀ (ro : Option Nat) (id : Nat) (ops : Array Oper) (sz : Nat) (tm : PT AV) (hp : Heap) (nx : Nat) (r : Res),
  doDrawn C.T rec ops sz tm hp nx = some r → Good C (.code ro (.region id ops true) sz tm hp nx) r

theorem range_ops (ops : Array Oper) : (List.range ops.size).map (ops[·]?) = ops.toList.map some := by
  apply List.ext_getElem
  · simp
  · intro i h1 h2
    simp at h1
    simp [h1]

theorem code_good (hC : C.Ok) (hD : DrawnOk C) (hrec : ∀ t r, rec t = some r → Good C t r) {ro : Option Nat} {c : Code} {sz : Nat} {tm : PT AV} {hp : Heap} {nx : Nat} {r : Res}
    (h : doCode C.T rec ro c sz tm hp nx = some r) : Good C (.code ro c sz tm hp nx) r := by
  cases c <;> simp only [doCode, Option.some.injEq] at h
  case skip => subst h; exact .here fun _ _ _ _ _ q => wpIn_skip q
  case label l => subst h; exact .here fun _ _ _ _ _ q => wpIn_label q
  case exit id => subst h; exact .here fun _ _ _ _ _ q => wpIn_exit q
  case goto l => subst h; exact .here fun _ _ _ _ _ q => wpIn_goto q
  case ret => subst h; exact .here fun _ _ _ _ _ q => wpIn_ret q
  case seq x y => exact seq_good hrec h
  case cond x y z => exact cond_good hrec h
  case block id b => exact block_good hrec h
  case loop b => exact loop_good hrec h
  case scope b => exact scope_good hrec h
  case rangeFunc g ps as bd => exact range_good hC hrec h
  case refuse => cases h
  case region id ops draw =>
    cases draw with
    | true => exact hD rec hrec ro id ops sz tm hp nx r h
    | false =>
      rw [cond_false] at h
      have g := hrec _ _ h
      cases r with
      | val _ _ _ => exact g.elim
      | out x tm' hp' nx' =>
        obtain ⟨rfl, g⟩ := g
        exact ⟨(g ro).1, fun F n ρ p w a Q hF hi hfr htm hpost => wpIn_region ((g ro).2 F n ρ p w a Q hF hi hfr htm hpost _ (range_ops ops))⟩

theorem run_good (hC : C.Ok) (hM : MemoOk C) (hH : HookOk C) (hS : SortOk C) (hD : DrawnOk C) : ∀ (f : Nat) (t : Task) (r : Res), run C.T f t = some r → Good C t r
  | 0, _, _, h => by cases h
  | f + 1, t, r, h => by
    have ih := run_good hC hM hH hS hD f
    have h' : doTask C.T (run C.T f) t = some r := h
    cases t <;> simp only [doTask] at h'
    · exact code_good hC hD ih h'
    · exact loopTask_good ih h'
    · exact scopeTask_good ih h'
    · exact ops_good hC ih h'
    · exact call_good hC hM hH hS ih h'
    · exact round_good ih h'

end range
end Go.Ev
