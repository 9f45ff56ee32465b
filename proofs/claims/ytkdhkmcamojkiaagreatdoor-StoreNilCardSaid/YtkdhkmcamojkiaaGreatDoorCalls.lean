/- THE WALK: calls, rounds, ranges over functions; and all of it, but drawn regions. -/
import Derived.Test.YtkdhkmcamojkiaaGreatDoorWalk
namespace Go.Ev

section calls
variable {C : Ctx} {rec : Task → Option Res}

/-- What is known of functions of no argument is so. -/
def MemoOk (C : Ctx) : Prop := ∀ fn v, C.T.memo.get fn = some v → (∃ i, C.P.funcs[fn]? = some i ∧ i.body.isSome = true) ∧ v.ground = true ∧
  ∀ (n : Nat) (ρ : Env) (p : Nat → Prop) (hp : Heap) (w : World), Inv C ρ p hp w → CallsIn Fence.wide n C.P fn #[] w fun e w' => e = .returned (v.conc ρ) ∧ Step C ρ p hp w ρ p hp w'

def SortOk (C : Ctx) : Prop := ∀ args hp nx r, sortedA C.T args hp nx = some r → ∃ v hp' nx', r = .val v hp' nx' ∧ CallOk C C.T.sorted args hp nx v hp' nx'

def HookOk (C : Ctx) : Prop := ∀ fn args hp nx r, hookA C.T.hooks fn args hp nx = some r → ∃ v hp' nx', r = .val v hp' nx' ∧ CallOk C fn args hp nx v hp' nx'

/-! ### A function's arguments and results -/
theorem rdTmp_argsTm : ∀ (vs : List AV) (i : Nat) (t : PT AV) (k : Nat), rdTmp (argsTm vs i t) k = if i ≤ k ∧ k < i + vs.length then (vs[k - i]?).getD .undef else rdTmp t k
  | [], i, t, k => by rw [if_neg (by simp only [List.length_nil]; omega)]; rfl
  | v :: vs, i, t, k => by
    rw [argsTm, PT.setK_eq, rdTmp_argsTm vs (i + 1)]
    simp only [List.length_cons]
    by_cases h1 : i + 1 ≤ k ∧ k < i + 1 + vs.length
    · rw [if_pos h1, if_pos (by omega)]
      obtain ⟨m, rfl⟩ : ∃ m, k = i + 1 + m := ⟨k - (i + 1), by omega⟩
      rw [show i + 1 + m - (i + 1) = m from by omega, show i + 1 + m - i = m + 1 from by omega]
      rfl
    · rw [if_neg h1, rdTmp_set]
      by_cases h2 : k = i
      · subst h2
        rw [if_pos rfl, if_pos (by omega), Nat.sub_self]
        rfl
      · rw [if_neg h2, if_neg (by omega)]

theorem args_tm {ρ : Env} {p : Nat → Prop} {args : List AV} {ntmps : Nat} (h : oks ρ p args) :
    Tm ρ p (argsTm args 0 .leaf) (bif Nat.ble args.length ntmps then ntmps else args.length) ((concs ρ args).toArray ++ Array.replicate (ntmps - (concs ρ args).toArray.size) undef) := by
  have hl : (concs ρ args).toArray.size = args.length := by simp [concs_eq]
  have hrd : ∀ t : Nat, rdTmp (argsTm args 0 .leaf) t = (args[t]?).getD .undef := fun t => by
    rw [rdTmp_argsTm]
    by_cases ht : t < args.length
    · rw [if_pos (by omega), Nat.sub_zero]
    · rw [if_neg (by omega), List.getElem?_eq_none (by omega)]
      rfl
  refine ⟨?_, fun t => ?_, fun t => ?_⟩
  · rw [Array.size_append, hl, Array.size_replicate]
    cases hb : Nat.ble args.length ntmps with
    | true => rw [Nat.ble_eq] at hb; rw [cond_true]; omega
    | false =>
      rw [cond_false]
      have : ¬ args.length ≤ ntmps := fun x => by rw [← Nat.ble_eq] at x; rw [x] at hb; cases hb
      omega
  · rw [hrd, Array.getD_eq_getD_getElem?]
    by_cases ht : t < args.length
    · rw [Array.getElem?_append_left (by omega), List.getElem?_toArray, concs_get, List.getElem?_eq_getElem ht]
      rfl
    · rw [Array.getElem?_append_right (by omega), List.getElem?_eq_none (by omega)]
      simp only [Array.getElem?_replicate]
      split <;> rfl
  · rw [hrd]
    by_cases ht : t < args.length
    · rw [List.getElem?_eq_getElem ht]
      exact (oks_iff _ _ _).1 h _ (List.getElem_mem ht)
    · rw [List.getElem?_eq_none (by omega)]
      trivial

theorem readRes_sound (hC : C.Ok) {ρ : Env} {p : Nat → Prop} {hp : Heap} {w : World} {tm : PT AV} {sz : Nat} {tmps : Array Value} (hi : Inv C ρ p hp w) (htm : Tm ρ p tm sz tmps) {g : ResultVar → Sem Value}
    (g1 : ∀ t, g (.tmp t) = pure (tmps.getD t undef)) (g2 : ∀ a t, g (.cell a t) = (do loadVar t (← asAddr (tmps.getD a undef)))) : ∀ {l : List ResultVar} {vs : List AV}, readRes C.T tm hp l = some vs →
    (l.mapM g).run C.P w = .ok (concs ρ vs) w ∧ oks ρ p vs
  | [], vs, h => by simp only [readRes, Option.some.injEq] at h; subst h; exact ⟨rfl, trivial⟩
  | .tmp t :: l, vs, h => by
    simp only [readRes] at h
    split at h
    · rename_i vs' hvs
      simp only [Option.some.injEq] at h
      subst h
      obtain ⟨h1, h2⟩ := readRes_sound hC hi htm g1 g2 hvs
      refine ⟨?_, htm.ok t, h2⟩
      rw [List.mapM_cons, g1]
      simp only [Sem.run_bind, Sem.run_pure, Result.andThen_ok, htm.val t, h1, concs]
    · cases h
  | .cell a t :: l, vs, h => by
    simp only [readRes] at h
    split at h
    · cases h
    rename_i v hv
    split at h
    · rename_i vs' hvs
      simp only [Option.some.injEq] at h
      subst h
      obtain ⟨h1, h2⟩ := readRes_sound hC hi htm g1 g2 hvs
      obtain ⟨⟨ad, q1, q2⟩, q3⟩ := loadA_sound hC hi hv (htm.ok a)
      refine ⟨?_, q3, h2⟩
      have ha : (asAddr (tmps.getD a undef)).run C.P w = .ok ad w := by rw [htm.val a, q1]; rfl
      rw [List.mapM_cons, g2]
      simp only [Sem.run_bind, ha, Sem.run_pure, Result.andThen_ok, q2, h1, concs]
    · cases h

theorem results_sound (hC : C.Ok) {ρ : Env} {p : Nat → Prop} {hp : Heap} {w : World} {tm : PT AV} {sz : Nat} {tmps : Array Value} (hi : Inv C ρ p hp w) (htm : Tm ρ p tm sz tmps) {fn : Func} {vs : List AV} (h : readRes C.T tm hp fn.results.toList = some vs) :
    (results fn tmps).run C.P w = .ok ((oneOf vs).conc ρ) w ∧ (oneOf vs).ok ρ p := by
  constructor
  · have key : ∀ g : ResultVar → Sem Value, (∀ t, g (.tmp t) = pure (tmps.getD t undef)) → (∀ a t, g (.cell a t) = (do loadVar t (← asAddr (tmps.getD a undef)))) →
        (do
          let vs ← fn.results.mapM g
          pure (if h : vs.size = 1 then vs[0] else .tuple vs) : Sem Value).run C.P w = .ok ((oneOf vs).conc ρ) w := by
      intro g g1 g2
      obtain ⟨h1, h2⟩ := readRes_sound hC hi htm g1 g2 h
      rw [← Array.toArray_toList (xs := fn.results), List.mapM_toArray]
      simp only [Sem.run_bind, Sem.run_map]
      rw [h1]
      simp only [Result.andThen_ok, Sem.run_pure]
      congr 1
      match vs with
      | [] => rfl
      | [v] => rfl
      | v :: v' :: vs => simp [oneOf, AV.conc, concs]
    unfold results
    exact key _ (fun _ => rfl) (fun _ _ => rfl)
  · obtain ⟨_, h2⟩ := readRes_sound (g := fun | .tmp t => pure (tmps.getD t undef) | .cell a t => do loadVar t (← asAddr (tmps.getD a undef))) hC hi htm (fun _ => rfl) (fun _ _ => rfl) h
    match vs, h2 with
    | [], _ => trivial
    | [v], h2 => exact h2.1
    | v :: v' :: vs, h2 => exact h2

/-- A function leaves with marks among its deferred calls. -/
theorem leaves_marks {F : Fence} {n : Nat} {fn : Func} {tmps : Array Value} {R : Ending → World → Prop} {ρ ρ' : Env} {p p' : Nat → Prop} {hp hp' : Heap} {w₀ : World} (hw0 : C.w0.heap.size ≤ w₀.heap.size)
    (h : ∀ w, Step C ρ p hp w₀ ρ' p' hp' w → ∃ v, (results fn tmps).run C.P w = .ok v w ∧ R (.returned v) w) :
    ∀ (rs : List Nat) (w : World), Step C ρ p hp w₀ ρ' p' hp' w → rs.Nodup → (∀ r ∈ rs, MarkAt ρ' hp' w w₀.heap.size r) → LeavesInM F n C.P fn tmps R (rs.map markOf) .returning w
  | [], w, hs, _, _ => h w hs
  | r :: rs, w, hs, hnd, hm => by
    obtain ⟨m1, m2, m3, m4⟩ := hm r (List.mem_cons_self ..)
    rw [List.nodup_cons] at hnd
    refine ⟨by simp, .inl ⟨r, _, rfl, run_takeDeferred m4, leaves_marks hw0 h rs _ (hs.touch m1 m3 hw0) hnd.2 fun r' hr' => ?_⟩⟩
    obtain ⟨k1, k2, k3, k4⟩ := hm r' (List.mem_cons_of_mem _ hr')
    refine ⟨k1, by simpa using k2, k3, ?_⟩
    show (w.heap.setIfInBounds r (.deferred none))[r']? = _
    rw [Array.getElem?_setIfInBounds_ne (fun e => hnd.1 (by rw [e]; exact hr'))]
    exact k4

theorem body_good (hC : C.Ok) (hrec : ∀ t r, rec t = some r → Good C t r) {fn : Nat} {args : List AV} {hp : Heap} {nx : Nat} {r : Res} (h : doBodyOf C.T rec fn args hp nx = some r) : Good C (.call fn args hp nx) r := by
  unfold doBodyOf at h
  split at h
  · cases h
  rename_i i hi
  rw [nth_eq, hC.funcs, Array.getElem?_toList] at hi
  split at h
  · cases h
  rename_i c hc
  have key : ∀ {x : X} {tm' : PT AV} {hp' : Heap} {nx' : Nat}, rec (.code none c (bif Nat.ble args.length i.ntmps then i.ntmps else args.length) (argsTm args 0 .leaf) hp nx) = some (.out x tm' hp' nx') → (x = .normal ∨ x = .ret) →
      ∀ {vs : List AV}, readRes C.T tm' hp' i.results.toList = some vs → CallOk C fn args hp nx (oneOf vs) hp' nx' := by
    intro x tm' hp' nx' hr hx vs hvs
    have g := hrec _ _ hr
    refine ⟨g.1, ⟨i, hi, by rw [hc]; rfl⟩, fun n ρ p w hinv hfr hok => ?_⟩
    refine callsIn_of_wp_marks hi hc trivial ?_
    refine g.2 Fence.wide n ρ p w _ _ rfl hinv hfr (args_tm hok) fun ρ' a' w' hpost => ?_
    obtain ⟨ms, e1, rs, rfl, nd, hrs⟩ := hpost.marks
    have hdef : a'.defers = rs.map markOf := by rw [e1, List.append_nil]
    have hl := leaves_marks (F := Fence.wide) (n := n) (fn := i) (tmps := a'.tmps)
      (R := fun e w' => ∃ ρ', e = .returned ((oneOf vs).conc ρ') ∧ (oneOf vs).ok ρ' (more p nx nx') ∧ Step C ρ p hp w ρ' (more p nx nx') hp' w') hinv.size
      (fun w'' hs => by
        obtain ⟨q1, q2⟩ := results_sound hC hs.inv hpost.tm hvs
        exact ⟨_, q1, ρ', rfl, q2, hs⟩) rs w' hpost.step nd hrs
    rw [← hdef] at hl
    rcases hx with rfl | rfl
    · exact hl
    · exact hl
  split at h
  · rename_i tm' hp' nx' hr
    split at h
    · rename_i vs hvs
      simp only [Option.some.injEq] at h
      subst h
      exact key hr (.inl rfl) hvs
    · cases h
  · rename_i tm' hp' nx' hr
    split at h
    · rename_i vs hvs
      simp only [Option.some.injEq] at h
      subst h
      exact key hr (.inr rfl) hvs
    · cases h
  · cases h

theorem call_good (hC : C.Ok) (hM : MemoOk C) (hH : HookOk C) (hS : SortOk C) (hrec : ∀ t r, rec t = some r → Good C t r) {fn : Nat} {args : List AV} {hp : Heap} {nx : Nat} {r : Res} (h : doCall C.T rec fn args hp nx = some r) : Good C (.call fn args hp nx) r := by
  unfold doCall at h
  split at h
  · rename_i v hv
    simp only [Option.some.injEq] at h
    subst h
    unfold memoA at hv
    split at hv
    · obtain ⟨m1, m2, m3⟩ := hM _ _ hv
      refine ⟨Nat.le_refl _, m1, fun n ρ p w hi _ _ => CallsIn.mono (m3 n ρ p hp w hi) fun e w' he => ?_⟩
      obtain ⟨rfl, hs⟩ := he
      rw [more_refl]
      exact ⟨ρ, rfl, AV.ground_ok _ _ v m2, hs⟩
    · cases hv
  · split at h
    · rename_i r' hr'
      simp only [Option.some.injEq] at h
      subst h
      obtain ⟨v, hp', nx', rfl, hc⟩ := hH _ _ _ _ _ hr'
      exact hc
    · cases hf : Nat.beq fn C.T.sorted with
      | true =>
        rw [hf, cond_true] at h
        have := Nat.eq_of_beq_eq_true hf
        subst this
        obtain ⟨v, hp', nx', rfl, hc⟩ := hS _ _ _ _ h
        exact hc
      | false =>
        rw [hf, cond_false] at h
        exact body_good hC hrec h

/-! ### Rounds -/
theorem layArgs_sound {ρ : Env} {p : Nat → Prop} {sz : Nat} : ∀ {ps : List Tmp} {vs : List AV} {tm tm' : PT AV} {tmps : Array Value}, layArgs sz tm ps vs = some tm' → Tm ρ p tm sz tmps → oks ρ p vs →
    ps.length = vs.length ∧ Tm ρ p tm' sz ((ps.zip (concs ρ vs)).foldl (fun tmps (x : Tmp × Value) => tmps.setIfInBounds x.1 x.2) tmps)
  | [], [], tm, tm', tmps, h, htm, _ => by simp only [layArgs, Option.some.injEq] at h; subst h; exact ⟨rfl, htm⟩
  | [], _ :: _, _, _, _, h, _, _ => by simp [layArgs] at h
  | _ :: _, [], _, _, _, h, _, _ => by simp [layArgs] at h
  | t :: ps, v :: vs, tm, tm', tmps, h, htm, hok => by
    simp only [layArgs] at h
    split at h
    · rename_i tm1 hput
      rcases putTm_some hput with ⟨h0, _⟩ | ⟨t', h0, hlt, rfl⟩
      · cases h0
      · simp only [Option.some.injEq] at h0
        subst h0
        obtain ⟨h1, h2⟩ := layArgs_sound h (htm.set hlt hok.1) hok.2
        exact ⟨by simp [h1], by simpa [concs] using h2⟩
    · cases h

theorem Inv.loop {ρ : Env} {p : Nat → Prop} {hp : Heap} {w : World} (hi : Inv C ρ p hp w) {l : Nat} {st : LState} {pend : Jump} {tm : PT AV} {sz : Nat} {ps : Array Tmp} {as bd : Code} {d : Nat} (h : hp.get l = some (.loop st pend tm sz ps as bd d)) :
    ∃ fn tmps, w.heap[ρ.blk l]? = some (.loop { state := st.conc, pending := pend.conc, fn, tmps, params := ps, assign := as, body := bd, defers := ρ.blk d }) ∧ Tm ρ p tm sz tmps ∧ p l ∧ p d := by
  obtain ⟨h1, h2, o', h3, fn, tmps, rfl, h5, h6⟩ := hi.sat _ _ h
  exact ⟨fn, tmps, h3, ⟨h5, h6, h2.1⟩, h1, h2.2⟩

theorem run_getLoop {P : Program} {w : World} {l : Nat} {r : Loop} (h : w.heap[l]? = some (.loop r)) : (Instr.getLoop l).run P w = .ok r w := by
  simp only [Instr.getLoop, Sem.run_bind, run_getObj h (by simp), Result.andThen_ok, Sem.run_pure]

/-- A loop's record is turned. -/
theorem Step.loop {ρ : Env} {p : Nat → Prop} {hp : Heap} {w : World} (hi : Inv C ρ p hp w) {l : Nat} {st st' : LState} {pend pend' : Jump} {tm : PT AV} {sz : Nat} {ps : Array Tmp} {as bd : Code} {d : Nat} (h : hp.get l = some (.loop st pend tm sz ps as bd d))
    {fn : FuncId} {tmps : Array Value} (hw : w.heap[ρ.blk l]? = some (.loop { state := st.conc, pending := pend.conc, fn, tmps, params := ps, assign := as, body := bd, defers := ρ.blk d })) (htm : Tm ρ p tm sz tmps) (hd : p d) (P : Program) :
    ∃ w', (Go.setObj (ρ.blk l) (.loop { state := st'.conc, pending := pend'.conc, fn, tmps, params := ps, assign := as, body := bd, defers := ρ.blk d })).run P w = .ok () w' ∧ Step C ρ p hp w ρ p (hp.set l (some (.loop st' pend' tm sz ps as bd d))) w' := by
  obtain ⟨w', s1, s2, _⟩ := Step.setObj (P := P) (ob := .loop st' pend' tm sz ps as bd d) hi h hw (by simp) ⟨fn, tmps, rfl, htm.size, htm.val⟩ ⟨htm.ok, hd⟩
  exact ⟨w', s1, s2⟩

theorem wide_inRound {F : Fence} {ρ : Env} {p : Nat → Prop} {ro : Option Nat} (h : FOk F ρ p ro) (l : Nat) : F.inRound l = Fence.wide.inRound l := by
  cases ro with
  | none => rw [show F = Fence.wide from h]
  | some l0 => rw [h.2]; rfl

def stOf : X → LState
  | .normal => .ready
  | _ => .done
def okOf : X → Bool
  | .normal => true
  | _ => false

theorem round_good (hrec : ∀ t r, rec t = some r → Good C t r) {l : Nat} {args : List AV} {hp : Heap} {nx : Nat} {r : Res} (h : doRound rec l args hp nx = some r) : Good C (.round l args hp nx) r := by
  unfold doRound at h
  split at h
  rotate_left
  · cases h
  rename_i st pend tm sz ps assign body d hl
  split at h
  · cases h
  rename_i tm1 hlay
  split at h
  rotate_left
  · cases h
  rename_i tm2 hp1 n1 hr1
  have g1 := hrec _ _ hr1
  unfold doBody at h
  split at h
  rotate_left
  · cases h
  rename_i pend1 tmB szB psB asB bdB dB hl1
  split at h
  · cases h
  rename_i hpB hsetB
  simp only [setObj, PT.setK_eq, Option.some.injEq] at hsetB
  subst hsetB
  split at h
  rotate_left
  · cases h
  rename_i x tm3 hp2 n2 hr2
  have g2 := hrec _ _ hr2
  split at h
  rotate_left
  · cases h
  rename_i st3 pend3 tmC szC psC asC bdC dC hl2
  -- what the round hands back, the record as the body's way out asks
  have hres : r = .val (.bool (okOf x)) (hp2.set l (some (.loop (stOf x) (toJump x) tmC szC psC asC bdC dC))) n2 := by
    cases x <;> simp only [setObj, PT.setK_eq, Option.some.injEq] at h <;> exact h.symm
  clear h
  subst hres
  refine ⟨Nat.le_trans g1.1 g2.1, fun F ro n ρ p w hF hi hfr hpl hok => ?_⟩
  obtain ⟨fn, tmps, hw, htm, _, hpd⟩ := hi.loop hl
  obtain ⟨hlen, htm1⟩ := layArgs_sound hlay htm hok
  refine ⟨fn, (ps.zip (concs ρ args).toArray).foldl (fun tmps (x : Tmp × Value) => tmps.setIfInBounds x.1 x.2) tmps, assign, body, ?_, ?_⟩
  · have hsz : ¬ ((concs ρ args).toArray.size ≠ ps.size) := by simp [concs_eq, ← hlen]
    simp only [Instr.yield, Sem.run_bind, run_getLoop hw, Result.andThen_ok, if_neg hsz, Sem.run_pure]
  · refine roundIn_of_wpIn (hF.fn fn) ?_
    rw [wide_inRound hF]
    have hz : (ps.zip (concs ρ args).toArray).foldl (fun tmps (x : Tmp × Value) => tmps.setIfInBounds x.1 x.2) tmps = (ps.toList.zip (concs ρ args)).foldl (fun tmps (x : Tmp × Value) => tmps.setIfInBounds x.1 x.2) tmps := by
      rw [← Array.foldl_toList, Array.toList_zip]
    rw [hz]
    refine g1.2 (Fence.wide.inRound (ρ.blk l)) n ρ p w _ _ ⟨hpl, rfl⟩ hi hfr htm1 fun ρ1 a1 w1 hpost1 => ?_
    have hb1 : ρ1.blk l = ρ.blk l := (hpost1.step.agree.2 l hpl).1
    obtain ⟨fn1, tmps1, hw1, htmB, hpl1, hpd1⟩ := hpost1.step.inv.loop hl1
    obtain ⟨wB, sB1, sB2⟩ := Step.loop (st' := .busy) (pend' := pend1) hpost1.step.inv hl1 hw1 htmB hpd1 C.P
    show ∃ w2, (Instr.beginRound (ρ.blk l)).run C.P w1 = .ok () w2 ∧ _
    refine ⟨wB, ?_, ?_⟩
    · rw [← hb1]
      simp only [Instr.beginRound, Sem.run_bind, run_getLoop hw1, Result.andThen_ok, LState.conc]
      simp only [LState.conc] at sB1
      rw [sB1]
      rfl
    · have hF2 : FOk (Fence.wide.inRound (ρ.blk l)) ρ1 (more p nx n1) (some l) := ⟨hpl1, by rw [hb1]⟩
      refine g2.2 (Fence.wide.inRound (ρ.blk l)) n ρ1 _ wB a1 _ hF2 sB2.inv (hfr.more g1.1) hpost1.tm fun ρ2 a2 w2 hpost2 => ?_
      have hb2 : ρ2.blk l = ρ.blk l := ((hpost2.step.agree.2 l hpl1).1).trans hb1
      have hstep2 : Step C ρ p hp w ρ2 (more p nx n2) hp2 w2 := by
        have := hpost2.step
        rw [more_trans g1.1 g2.1] at this
        exact (hpost1.step.trans sB2).trans this
      obtain ⟨fn2, tmps2, hw2, htmC, hpl2, hpd2⟩ := hstep2.inv.loop hl2
      have fin : ∀ (jump : Option Code) (st' : LState) (pend' : Jump), pend'.conc = jump → st'.conc = (if jump.isNone then .ready else .done) →
          ∃ v w', (Instr.endRound (ρ.blk l) jump).run C.P w2 = .ok v w' ∧ v = .bool jump.isNone ∧ Step C ρ p hp w ρ2 (more p nx n2) (hp2.set l (some (.loop st' pend' tmC szC psC asC bdC dC))) w' := by
        intro jump st' pend' e1 e2
        obtain ⟨wC, sC1, sC2⟩ := Step.loop (st' := st') (pend' := pend') hstep2.inv hl2 hw2 htmC hpd2 C.P
        refine ⟨_, wC, ?_, rfl, hstep2.trans sC2⟩
        rw [← hb2]
        rw [e1, e2] at sC1
        simp only [Instr.endRound, Sem.run_bind, run_getLoop hw2, Result.andThen_ok]
        rw [sC1]
        rfl
      cases x with
      | normal =>
        obtain ⟨v, w', f1, rfl, f2⟩ := fin none .ready .none rfl rfl
        exact ⟨_, w', f1, ρ2, rfl, trivial, f2⟩
      | ret =>
        obtain ⟨v, w', f1, rfl, f2⟩ := fin (some .ret) .done .ret rfl rfl
        exact ⟨_, w', f1, ρ2, rfl, trivial, f2⟩
      | exit id =>
        obtain ⟨v, w', f1, rfl, f2⟩ := fin (some (.exit id)) .done (.exit id) rfl rfl
        exact ⟨_, w', f1, ρ2, rfl, trivial, f2⟩
      | goto t =>
        obtain ⟨v, w', f1, rfl, f2⟩ := fin (some (.goto t)) .done (.goto t) rfl rfl
        exact ⟨_, w', f1, ρ2, rfl, trivial, f2⟩

end calls
end Go.Ev
