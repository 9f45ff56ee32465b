/- DRAWN REGIONS: whatever order is drawn, the region does what the evaluator does in its own order. -/
import Derived.Test.YtkdhkmcamojkiaaGreatDoorEffect
namespace Go.Ev

section region
variable {C : Ctx} {rec : Task → Option Res} {ops : Array Oper} {sz n0 l d nx nx' : Nat} {W : List DW} {tm tm' tmR : PT AV} {hp hp' hpR : Heap} {ρ : Env} {p : Nat → Prop} {a : Act} {w : World}

/-- Where a region may be left. -/
structure DPost (C : Ctx) (sz n0 nx' : Nat) (tm' : PT AV) (hp' : Heap) (ρ : Env) (p : Nat → Prop) (hpR : Heap) (a : Act) (w : World) (ρ' : Env) (p' : Nat → Prop) (a' : Act) (w' : World) : Prop where
  step : Step C ρ p hpR w ρ' p' hp' w'
  names : ∀ id, p' id → p id ∨ (n0 ≤ id ∧ id < nx')
  tm : Tm ρ' p' tm' sz a'.tmps
  defers : a'.defers = a.defers

def DGoal (C : Ctx) (sz n0 nx' : Nat) (tm' : PT AV) (hp' : Heap) (Q : Exit → Act → World → Prop) (ρ : Env) (p : Nat → Prop) (hpR : Heap) (a : Act) (w : World) : Prop :=
  ∀ ρ' p' a' w', DPost C sz n0 nx' tm' hp' ρ p hpR a w ρ' p' a' w' → Q .normal a' w'

theorem DGoal.step {Q : Exit → Act → World → Prop} (h : DGoal C sz n0 nx' tm' hp' Q ρ p hpR a w) {ρ1 : Env} {p1 : Nat → Prop} {hpR1 : Heap} {a1 : Act} {w1 : World} (hs : Step C ρ p hpR w ρ1 p1 hpR1 w1)
    (hn : ∀ id, p1 id → p id ∨ (n0 ≤ id ∧ id < nx')) (hd : a1.defers = a.defers) : DGoal C sz n0 nx' tm' hp' Q ρ1 p1 hpR1 a1 w1 := fun ρ' p' a' w' hp => h ρ' p' a' w'
  ⟨hs.trans hp.step, fun id hid => (hp.names id hid).elim (hn id) .inr, hp.tm, hp.defers.trans hd⟩

/-- While some are outstanding: what is left to show. -/
theorem outs_good (hC : C.Ok) {F : Fence} {n : Nat} {ro : Option Nat} {Q : Exit → Act → World → Prop} (hM : Mid C ops sz n0 l W tm hp nx) (hle : nx ≤ nx')
    (Hend : ∀ d ρ p tmR hpR a w, FOk F ρ p ro → Mach C ops sz l d W tm tmR hp hpR nx ρ p a w → DGoal C sz n0 nx' tm' hp' Q ρ p hpR a w → (∀ x ∈ allOps ops.toList 0, readyAt d x = false) → Q .normal a w)
    (Heff : ∀ d ρ p tmR hpR a w, FOk F ρ p ro → Mach C ops sz l d W tm tmR hp hpR nx ρ p a w → DGoal C sz n0 nx' tm' hp' Q ρ p hpR a w → ∀ x ∈ allOps ops.toList 0, readyAt d x = true → l.testBit x.i = false →
      ∀ listed fuel, Lst ops listed (Nat.lor d (2 ^ x.i)) → unlisted ops (Nat.lor d (2 ^ x.i)) ≤ fuel → wpOpIn F n C.P ops Q x.i (wpAnyIn F n C.P .any ops Q fuel listed) a w) :
    ∀ (m d : Nat) (listed : Array Bool) (fuel : Nat) (ρ : Env) (p : Nat → Prop) (tmR : PT AV) (hpR : Heap) (a : Act) (w : World), unlisted ops d ≤ m → unlisted ops d ≤ fuel → Lst ops listed d → FOk F ρ p ro →
      Mach C ops sz l d W tm tmR hp hpR nx ρ p a w → DGoal C sz n0 nx' tm' hp' Q ρ p hpR a w → wpAnyIn F n C.P .any ops Q fuel listed a w := by
  intro m
  induction m with
  | zero =>
    intro d listed fuel ρ p tmR hpR a w hm hf hl hF hR hG
    refine wpAny_step hl hf (fun h0 => Hend d ρ p tmR hpR a w hF hR hG h0) fun x hx hr fuel' hf' => ?_
    have := unlisted_set (allOps_get hx).1 (readyAt_iff.1 hr).1
    omega
  | succ m ih =>
    intro d listed fuel ρ p tmR hpR a w hm hf hl hF hR hG
    refine wpAny_step hl hf (fun h0 => Hend d ρ p tmR hpR a w hF hR hG h0) fun x hx hr fuel' hf' => ?_
    have hlt := unlisted_set (allOps_get hx).1 (readyAt_iff.1 hr).1
    have hl' := hl.set (allOps_get hx).1
    obtain ⟨r1, r2⟩ := readyAt_iff.1 hr
    cases hlx : l.testBit x.i with
    | false => exact Heff d ρ p tmR hpR a w hF hR hG x hx hr hlx _ _ hl' hf'
    | true =>
      rcases hR.rest x.i hlx with h | ⟨e, he, hi⟩
      · rw [r1] at h; cases h
      · have hex := allOps_uniq (hM.op e he) hx hi
        subst hex
        refine ent_run (e := e) hC hF hR.inv hR.tmv (allOps_get hx).2 (hM.kind e he) (hM.res e he) (hR.look hM he r2) hR.heaps (hR.names e he r1) ⟨nx, hR.fresh nx (Nat.le_refl _)⟩ fun ρ' w' hs hv => ?_
        obtain ⟨tmR', hR'⟩ := hR.ent hM he r2 hs hv
        refine ih _ _ _ ρ' _ tmR' _ _ w' (by omega) hf' hl' (hF.step hs.agree hs.mono) hR' (hG.step hs (fun id hid => ?_) (Act.put_defers' _ _ _))
        rcases e.names_or hid with h | ⟨h, rfl⟩
        · exact .inl h
        · have q1 := hM.lt e he h
          have q2 := hM.ge e he h
          exact .inr ⟨q2, by omega⟩

/-- THE EFFECT, done by the machine. -/
theorem eff_run (hC : C.Ok) (hrec : ∀ t r, rec t = some r → Good C t r) {F : Fence} {n : Nat} {ro : Option Nat} {Q : Exit → Act → World → Prop} (hF : FOk F ρ p ro) (hM : Mid C ops sz n0 l W tm hp nx) (hR : Mach C ops sz l d W tm tmR hp hpR nx ρ p a w)
    {c : WS} {i : Nat} (hc : c ∈ allOps ops.toList 0) (hr : readyAt d c = true) (hl : l.testBit c.i = false) (hok : okEff ops c (prune (W.map DW.x) c.m) = true) (hwant : wantedA ops tm c.o.guard = true)
    {next : PT AV → Heap → Nat → Option Res} {r : Res} (h : dEff C.T rec ops ⟨i, c.o, true, readsOf C.T (prune (W.map DW.x) c.m), islOf C.T (prune (W.map DW.x) c.m)⟩ sz tm hp nx next = some r) :
    ∃ (v : AV) (tm1 : PT AV) (hp2 : Heap) (nx1 : Nat), next tm1 hp2 nx1 = some r ∧ nx ≤ nx1 ∧ ∀ (K : Act → World → Prop), (∀ ρ' w' tmR1 hpR2, Step C ρ p hpR w ρ' (more p nx nx1) hpR2 w' → Mid C ops sz n0 (Nat.lor l (2 ^ c.i)) (pruneD W c.m) tm1 hp2 nx1 →
      Mach C ops sz (Nat.lor l (2 ^ c.i)) (Nat.lor d (2 ^ c.i)) (pruneD W c.m) tm1 tmR1 hp2 hpR2 nx1 ρ' (more p nx nx1) (a.put c.o.dst (v.conc ρ')) w' → K (a.put c.o.dst (v.conc ρ')) w') → wpOpIn F n C.P ops Q c.i K a w := by
  obtain ⟨r1, r2⟩ := readyAt_iff.1 hr
  have hrl : readyAt l c = true := readyAt_iff.2 ⟨hl, fun b hb => hR.within b (r2 b hb)⟩
  unfold dEff at h
  split at h
  rename_i hpc sv hcv
  split at h
  · cases h
  rename_i r0 hop
  split at h
  · cases h
  rename_i v hp1 nx1 hrun
  split at h
  · cases h
  rename_i tm1 hput
  rw [restoreK_eq] at h
  cases hrc : recheck C.T ops tm1 (restore sv hp1) nx1 (readsOf C.T (prune (W.map DW.x) c.m)) with
  | false => simp only [hrc, cond_false, reduceCtorEq] at h
  | true =>
  simp only at h hop hput
  rw [hrc, cond_true] at h
  have hcar := carve_spec (hp0 := hp) (tm := tm) (islOf C.T (prune (W.map DW.x) c.m)) hp [] ⟨fun id => by simp, fun _ h => nomatch h⟩
  simp only at hcv
  rw [hcv] at hcar
  obtain ⟨⟨k1, k2⟩, _, k3⟩ := hcar
  simp only at k1 k2 k3
  have hlook := hR.look_eff hM r2 hok
  -- blocks of what is kept lie among the carved ones
  have hin : ∀ e ∈ pruneD W c.m, e.ob ≠ none → e.nn ∈ sv.map (·.1) := by
    intro e he hob
    obtain ⟨dd, q1, q2, ⟨ob, q3⟩, q4, q5⟩ := hM.ob_spec ((pruneD_sub _ _).subset he) hob
    refine k3 e.x.o (islOf_mem ?_ q4 q5) dd e.nn ob q1 q2 q3
    rw [← pruneD_map]
    exact List.mem_map.2 ⟨e, he, rfl⟩
  have hlagin : ∀ e ∈ W, d.testBit e.x.i = false → e.ob ≠ none → e.nn ∈ sv.map (·.1) := fun e he hd => hin e (hR.kept hM r2 e he hd)
  have hcsub : ∀ id o, hpc.get id = some o → hpR.get id = some o := by
    intro id o ho
    have hn : ¬ id ∈ sv.map (·.1) := fun hm => by rw [k1, if_pos hm] at ho; cases ho
    rw [k1, if_neg hn] at ho
    rw [hR.heap id fun e he hd hob hnn => hn (hnn ▸ hlagin e he hd hob)]
    exact ho
  have hoc : aop C.T c.o.op tmR hpc nx = some r0 := by rw [aop_congr (evalO_congr hlook)]; exact hop
  obtain ⟨hle, hopg⟩ := op_good (sz := sz) hC hrec hoc hrun
  obtain ⟨tmR1, hputR⟩ := putTm_ex hput tmR
  refine ⟨v, tm1, restore sv hp1, nx1, h, hle, fun K hK => ?_⟩
  have hw := wantedA_sound hC hR.inv hR.tmv ops c.o
  rw [wantedA_congr hlook, hwant] at hw
  unfold wpOpIn
  simp only [(allOps_get hc).2, hw, if_true]
  refine hopg F ro n ρ p w a K Q hF (hR.inv.sub hcsub) hR.fresh hR.tmv fun ρ' w' hs hv => ?_
  have hsR : Step C ρ p hpR w ρ' (more p nx nx1) (backR hpR sv hp1) w' :=
    Step.around hR.inv hcsub hs (fun id => id ∈ sv.map (·.1)) (fun id hid => by rw [k1, if_pos hid]) (fun id hid => by rw [backR_get, if_pos hid]) (fun id o hid ho => by rw [backR_get, if_neg hid] at ho; exact ho)
  have hg2 : ∀ id, (restore sv hp1).get id = if id ∈ sv.map (·.1) then hp.get id else hp1.get id := restore_get sv hp1 k2
  have hM' : Mid C ops sz n0 (Nat.lor l (2 ^ c.i)) (pruneD W c.m) tm1 (restore sv hp1) nx1 := by
    refine hM.eff hc hrl hok hput hle (fun e he hob => by rw [hg2, if_pos (hin e he hob)]) (fun e he hk u hu hwe ha => ?_) (fun id hid => ?_)
    · obtain ⟨dd, v', q1, q2, q3⟩ := recheck_mem hrc (readsOf_mem (T := C.T) (l := prune (W.map DW.x) c.m) (x := e.x) (by rw [← pruneD_map]; exact List.mem_map.2 ⟨e, he, rfl⟩) hk) hwe
      obtain ⟨d2, p1, _, p3⟩ := hM.slot e ((pruneD_sub _ _).subset he)
      rw [q1] at p1
      simp only [Option.some.injEq] at p1
      subst p1
      have hev : e.v = u := by unfold DW.v; rw [hu]
      have hdne : c.o.dst ≠ some dd := by
        rw [← pruneD_map] at hok
        exact fun h' => (okEff_spec hok e he).2.2 dd h' q1
      rw [putTm_other hput hdne, p3, hev] at q3
      subst q3
      exact (aop_value (.inr hk) q2).2
    · rw [hg2]
      by_cases hm : id ∈ sv.map (·.1)
      · rw [if_pos hm]; exact hM.top id (by omega)
      · rw [if_neg hm]
        cases hgi : hp1.get id with
        | none => rfl
        | some o => exact absurd (hs.inv.sat id o hgi).1 (hR.fresh.more hle id hid)
  refine hK ρ' w' tmR1 _ hsR hM' ?_
  refine hR.eff hM hc hrl r2 hput hputR hle hsR hv (fun id hid => ?_) (fun e he hd hob => ?_)
  · rw [backR_get, hg2]
    by_cases hm : id ∈ sv.map (·.1)
    · rw [if_pos hm, if_pos hm]; exact hR.heap id hid
    · rw [if_neg hm, if_neg hm]
  · rw [backR_get, if_pos (hlagin e he hd hob)]
    exact hR.gone e he hd hob

theorem dSteps_le (hC : C.Ok) (hrec : ∀ t r, rec t = some r → Good C t r) : ∀ (ss : List DStep) (tm : PT AV) (hp : Heap) (nx : Nat) (r : Res), dSteps C.T rec ops sz ss tm hp nx = some r → ∃ tm' hp' nx', r = .out .normal tm' hp' nx' ∧ nx ≤ nx'
  | [], tm, hp, nx, r, h => by
    simp only [dSteps, Option.some.injEq] at h
    exact ⟨tm, hp, nx, h.symm, Nat.le_refl _⟩
  | s :: ss, tm, hp, nx, r, h => by
    have ih := dSteps_le hC hrec ss
    simp only [dSteps] at h
    cases hw : wantedA ops tm s.o.guard with
    | false =>
      rw [hw, cond_false] at h
      split at h
      · cases h
      · exact ih _ _ _ _ h
    | true =>
      rw [hw, cond_true] at h
      cases he : s.eff with
      | true =>
        rw [he, cond_true] at h
        unfold dEff at h
        split at h
        rename_i hpc sv hcv
        split at h
        · cases h
        rename_i r0 hop
        split at h
        · cases h
        rename_i v hp1 nx1 hrun
        split at h
        · cases h
        rename_i tm1 hput
        have hle := (op_good (sz := sz) hC hrec hop hrun).1
        rw [restoreK_eq] at h
        cases hrc : recheck C.T ops tm1 (restore sv hp1) nx1 s.reads with
        | false => rw [hrc] at h; cases h
        | true =>
          rw [hrc, cond_true] at h
          obtain ⟨tm', hp', nx', q1, q2⟩ := ih _ _ _ _ h
          exact ⟨tm', hp', nx', q1, by omega⟩
      | false =>
        rw [he, cond_false] at h
        unfold dNon at h
        split at h
        · split at h
          · cases h
          · exact ih _ _ _ _ h
        · split at h
          · cases h
          · rw [natK_eq] at h
            obtain ⟨tm', hp', nx', q1, q2⟩ := ih _ _ _ _ h
            exact ⟨tm', hp', nx', q1, by omega⟩
        · split at h
          · cases h
          · split at h
            · cases h
            · rw [natK_eq] at h
              obtain ⟨tm', hp', nx', q1, q2⟩ := ih _ _ _ _ h
              exact ⟨tm', hp', nx', q1, by omega⟩
        · cases h

/-- THE MAIN INDUCTION: along the evaluator's order. -/
theorem plan_good (hC : C.Ok) (hrec : ∀ t r, rec t = some r → Good C t r) {F : Fence} {n : Nat} {ro : Option Nat} {Q : Exit → Act → World → Prop} :
    ∀ (f l : Nat) (W : List DW) (ss : List DStep) (tm : PT AV) (hp : Heap) (nx : Nat), planGo C.T ops (allOps ops.toList 0) f l (W.map DW.x) = some ss → dSteps C.T rec ops sz ss tm hp nx = some (.out .normal tm' hp' nx') →
      n0 ≤ nx → Mid C ops sz n0 l W tm hp nx → ∀ (d : Nat) (listed : Array Bool) (fuel : Nat) (ρ : Env) (p : Nat → Prop) (tmR : PT AV) (hpR : Heap) (a : Act) (w : World), unlisted ops d ≤ fuel → Lst ops listed d → FOk F ρ p ro →
        Mach C ops sz l d W tm tmR hp hpR nx ρ p a w → DGoal C sz n0 nx' tm' hp' Q ρ p hpR a w → wpAnyIn F n C.P .any ops Q fuel listed a w := by
  intro f
  induction f with
  | zero => intro l W ss tm hp nx h; cases h
  | succ f ih =>
    intro l W ss tm hp nx h hd hn0 hM d listed fuel ρ p tmR hpR a w hf hl hF hR hG
    obtain ⟨_, _, _, hout, hle⟩ := dSteps_le hC hrec ss tm hp nx _ hd
    simp only [Res.out.injEq, true_and] at hout
    obtain ⟨_, _, rfl⟩ := hout
    rw [planGo] at h
    split at h
    · -- an operation that is no effect
      rename_i c hfn
      obtain ⟨c1, c2, c3⟩ := firstNon_some hfn
      cases hok : okNon ops c (W.map DW.x) with
      | false => rw [hok] at h; cases h
      | true =>
      rw [hok, cond_true] at h
      split at h
      rotate_left
      · cases h
      rename_i ss' hss
      simp only [Option.some.injEq] at h
      subst h
      -- the entry, however it came
      have go : ∀ (r : Option OpR) (tm1 : PT AV) (hp1 : Heap) (nx1 : Nat), putTm tm sz c.o.dst (DW.v ⟨c, nx, r⟩) = some tm1 → hp1 = DW.heap ⟨c, nx, r⟩ hp → nx ≤ nx1 → (DW.made ⟨c, nx, r⟩ → nx < nx1) →
          resOk C.T ops tm hp c.o nx r →
          dSteps C.T rec ops sz ss' tm1 hp1 nx1 = some (.out .normal tm' hp' nx') → wpAnyIn F n C.P .any ops Q fuel listed a w := by
        intro r tm1 hp1 nx1 hput hhp hnx hlt hres hgo
        exact ih _ (⟨c, nx, r⟩ :: W) ss' tm1 hp1 nx1 hss hgo (by omega) (hM.take hn0 c1 c2 c3 hok hput hhp hnx hlt hres) d listed fuel ρ p tmR hpR a w hf hl hF (hR.take c2 hput hhp hnx) hG
      simp only [dSteps] at hd
      cases hw : wantedA ops tm c.o.guard with
      | false =>
        rw [hw, cond_false] at hd
        split at hd
        · cases hd
        rename_i tm1 hput
        exact go none tm1 hp nx hput rfl (Nat.le_refl _) (fun ⟨_, _, h⟩ => nomatch h) hw hd
      | true =>
        rw [hw, cond_true, cond_false] at hd
        unfold dNon at hd
        split at hd
        · rename_i v hop
          split at hd
          · cases hd
          rename_i tm1 hput
          exact go (some (.val v)) tm1 hp nx hput rfl (Nat.le_refl _) (fun ⟨_, _, h⟩ => nomatch h) ⟨hw, hop, v, .inl rfl⟩ hd
        · rename_i v hop
          split at hd
          · cases hd
          rename_i tm1 hput
          rw [natK_eq] at hd
          exact go (some (.new v none)) tm1 hp (nx + 1) hput rfl (Nat.le_succ _) (fun _ => Nat.lt_succ_self _) ⟨hw, hop, v, .inr ⟨none, rfl⟩⟩ hd
        · rename_i v ob hop
          split at hd
          · cases hd
          rename_i tm1 hput
          split at hd
          · cases hd
          rename_i hp1 hset
          rw [natK_eq] at hd
          simp only [setObj, PT.setK_eq, Option.some.injEq] at hset
          exact go (some (.new v (some ob))) tm1 hp1 (nx + 1) hput hset.symm (Nat.le_succ _) (fun _ => Nat.lt_succ_self _) ⟨hw, hop, v, .inr ⟨some ob, rfl⟩⟩ hd
        · cases hd
    · rename_i hfn
      split at h
      · -- the end
        rename_i hro
        cases hall : (allOps ops.toList 0).all (fun x => bitAt l x.i) with
        | false => rw [hall] at h; cases h
        | true =>
        rw [hall, cond_true, Option.some.injEq] at h
        subst h
        rw [List.all_eq_true] at hall
        simp only [dSteps, Option.some.injEq, Res.out.injEq, true_and] at hd
        obtain ⟨rfl, rfl, rfl⟩ := hd
        refine outs_good hC hM (Nat.le_refl _) (fun d ρ p tmR hpR a w hF hR hG hno => ?_) (fun d ρ p tmR hpR a w hF hR hG x hx hr hlx => ?_) _ d listed fuel ρ p tmR hpR a w (Nat.le_refl _) hf hl hF hR hG
        · have hdone := hR.none_out hM hno
          have hheap : ∀ id, hpR.get id = hp.get id := fun id => hR.heap id fun e he hd => by rw [hdone e he] at hd; cases hd
          have htm : ∀ t, rdTmp tmR t = rdTmp tm t := fun t => hR.slots t fun e he hd => by rw [hdone e he] at hd; cases hd
          refine hG ρ p a w ⟨?_, fun id hid => .inl hid, ⟨hR.tmv.size, fun t => by rw [← htm t]; exact hR.tmv.val t, fun t => by rw [← htm t]; exact hR.tmv.ok t⟩, rfl⟩
          have hi : Inv C ρ p hp w := hR.inv.sub fun id o ho => by rw [hheap id]; exact ho
          exact ⟨hi, .refl _ _, fun _ x => x, Nat.le_refl _, fun _ _ _ => rfl, fun id o ho => .inr ⟨id, o, by rw [hheap id]; exact ho, rfl⟩, .refl _⟩
        · have := hall x hx
          rw [bitAt_iff, hlx] at this
          cases this
      · -- an effect
        rename_i c hro
        have hmem : c ∈ allOps ops.toList 0 ∧ readyAt l c = true := readyOnes_mem.1 (by rw [hro]; exact List.mem_cons_self ..)
        simp only at h
        cases hok : okEff ops c (prune (W.map DW.x) c.m) with
        | false => rw [hok] at h; cases h
        | true =>
        rw [hok, cond_true] at h
        split at h
        rotate_left
        · cases h
        rename_i ss' hss
        simp only [Option.some.injEq] at h
        subst h
        rw [← pruneD_map] at hss
        refine outs_good hC hM hle (fun d ρ p tmR hpR a w hF hR hG hno => ?_) (fun d ρ p tmR hpR a w hF hR hG x hx hr hlx listed fuel hl hf => ?_) _ d listed fuel ρ p tmR hpR a w (Nat.le_refl _) hf hl hF hR hG
        · exfalso
          have hdone := hR.none_out hM hno
          obtain ⟨r1, r2⟩ := readyAt_iff.1 hmem.2
          have : readyAt d c = true := by
            refine readyAt_iff.2 ⟨?_, fun b hb => ?_⟩
            · cases h : d.testBit c.i with
              | false => rfl
              | true => rw [hR.within _ h] at r1; cases r1
            · rcases hR.rest b (r2 b hb) with h | ⟨e, he, rfl⟩
              · exact h
              · exact hdone e he
          rw [hno c hmem.1] at this
          cases this
        · have hxc : x = c := by
            have : x ∈ readyOnes l (allOps ops.toList 0) := readyOnes_mem.2 ⟨hx, readyAt_iff.2 ⟨hlx, fun b hb => hR.within b ((readyAt_iff.1 hr).2 b hb)⟩⟩
            rw [hro, List.mem_singleton] at this
            exact this
          subst hxc
          obtain ⟨r1, r2⟩ := readyAt_iff.1 hr
          simp only [dSteps] at hd
          cases hw : wantedA ops tm x.o.guard with
          | false =>
            rw [hw, cond_false] at hd
            split at hd
            · cases hd
            rename_i tm1 hput
            have hlook := hR.look_eff hM r2 hok
            have hwm := wantedA_sound hC hR.inv hR.tmv ops x.o
            rw [wantedA_congr hlook, hw] at hwm
            unfold wpOpIn
            simp only [(allOps_get hx).2, hwm, Bool.false_eq_true, if_false]
            refine ⟨fun f _ => hF.fn f, ?_⟩
            obtain ⟨tmR1, hputR⟩ := putTm_ex hput tmR
            have hs : Step C ρ p hpR w ρ (more p nx nx) hpR w := by rw [more_refl]; exact .refl hR.inv rfl (.refl _) fun _ x => x
            have hM' := hM.eff hx hmem.2 hok hput (Nat.le_refl _) (fun _ _ _ => rfl) (fun e he hk u hu hwe ha => by
              rw [aop_congr (evalO_congr (look_put hput (okEff_spec (by rw [← pruneD_map] at hok; exact hok) e he).2.1))]; exact ha) hM.top
            have hR' := hR.eff hM hx hmem.2 r2 hput hputR (Nat.le_refl _) hs trivial hR.heap hR.gone
            refine ih _ _ ss' tm1 hp nx hss hd hn0 hM' _ listed fuel ρ _ tmR1 hpR _ w hf hl (hF.step hs.agree hs.mono) hR' (hG.step hs (fun id hid => .inl ?_) (Act.put_defers' _ _ _))
            rw [more_refl] at hid
            exact hid
          | true =>
            rw [hw, cond_true, cond_true] at hd
            obtain ⟨v, tm1, hp2, nx1, hnext, hle1, hrun⟩ := eff_run hC hrec (n := n) (Q := Q) hF hM hR hx hr hlx hok hw hd
            refine hrun _ fun ρ' w' tmR1 hpR2 hs hM' hR' => ?_
            obtain ⟨_, _, _, hout2, hle2⟩ := dSteps_le hC hrec _ _ _ _ _ hnext
            simp only [Res.out.injEq, true_and] at hout2
            obtain ⟨_, _, rfl⟩ := hout2
            refine ih _ _ ss' tm1 hp2 nx1 hss hnext (by omega) hM' _ listed fuel ρ' _ tmR1 hpR2 _ w' hf hl (hF.step hs.agree hs.mono) hR' (hG.step hs (fun id hid => ?_) (Act.put_defers' _ _ _))
            rcases hid with h | ⟨h1, h2⟩
            · exact .inl h
            · exact .inr ⟨by omega, by omega⟩
      · cases h

/-- WHAT IS ASKED OF DRAWN REGIONS. -/
theorem drawn_ok (hC : C.Ok) : DrawnOk C := by
  intro rec hrec ro id ops sz tm hp nx r h
  unfold doDrawn at h
  split at h
  · cases h
  rename_i ss hss
  obtain ⟨tm', hp', nx', rfl, hle⟩ := dSteps_le hC hrec ss tm hp nx _ h
  refine ⟨hle, fun F n ρ p w a Q hF hi hfr htm hpost => wpIn_region_any hC.mixed ?_⟩
  have hM : Mid C ops sz nx 0 [] tm hp nx := by
    have htop : ∀ id, nx ≤ id → hp.get id = none := fun id hid => by
      cases hg : hp.get id with
      | none => rfl
      | some o => exact absurd (hi.sat id o hg).1 (hfr id hid)
    refine ⟨fun j hj => by simp at hj, fun x _ hx => by simp at hx, ?_, ?_, ?_, ?_, ?_, ?_, ?_, ?_, ?_, ?_, ?_, ?_, .nil, ?_, htop⟩
    all_goals (intro e he; cases he)
  have hi' : Inv C ρ p hp { w with drawn := w.drawn + 1 } := hi.of_heap rfl
  have hR : Mach C ops sz 0 0 [] tm tm hp hp nx ρ p a { w with drawn := w.drawn + 1 } := by
    refine ⟨hi', htm, hfr, fun j hj => hj, fun j hj => by simp at hj, fun x _ hx => by simp at hx, fun _ _ => rfl, fun _ _ => rfl, ?_, ?_⟩
    all_goals (intro e he; cases he)
  refine plan_good hC hrec (n0 := nx) _ 0 [] ss tm hp nx hss h (Nat.le_refl _) hM 0 _ _ ρ p tm hp a _ ?_ (Lst.init ops) hF hR fun ρ' p' a' w' hp => ?_
  · unfold unlisted
    exact Nat.le_trans (List.countP_le_length) (by simp)
  · have hs : Step C ρ p _ w ρ' p' hp' w' := (Step.refl hi (w' := { w with drawn := w.drawn + 1 }) rfl ⟨rfl, rfl, rfl⟩ fun _ x => x).trans hp.step
    have hn : ∀ id, p' id → more p nx nx' id := fun id hid => hp.names id hid
    exact hpost ρ' a' w' ⟨hs.widen hn, hp.tm.mono (.refl _ _) hn, [], by rw [hp.defers]; rfl, .nil _ _ _ _⟩

end region
end Go.Ev
