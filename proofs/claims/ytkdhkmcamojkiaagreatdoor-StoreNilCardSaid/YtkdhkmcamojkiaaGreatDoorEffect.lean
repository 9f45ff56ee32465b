/- Drawn regions: an effect, among outstanding operations. -/
import Derived.Test.YtkdhkmcamojkiaaGreatDoorSteps
namespace Go.Ev

/-! ### Blocks carved out -/
def Carved (hp0 hp : Heap) (sv : List (Nat × AObj)) : Prop := (∀ id, hp.get id = if id ∈ sv.map (·.1) then none else hp0.get id) ∧ ∀ e ∈ sv, hp0.get e.1 = some e.2

theorem carve_spec {hp0 : Heap} {tm : PT AV} : ∀ (os : List Oper) (hp : Heap) (sv : List (Nat × AObj)), Carved hp0 hp sv →
    Carved hp0 (carve tm os hp sv).1 (carve tm os hp sv).2 ∧ (∀ n ∈ sv.map (·.1), n ∈ (carve tm os hp sv).2.map (·.1)) ∧
      ∀ o ∈ os, ∀ d n ob, o.dst = some d → ment (rdTmp tm d) = some n → hp0.get n = some ob → n ∈ (carve tm os hp sv).2.map (·.1)
  | [], hp, sv, h => ⟨h, fun _ x => x, fun _ h => nomatch h⟩
  | o :: os, hp, sv, h => by
    rw [carve]
    split
    · rename_i hd
      obtain ⟨q1, q2, q3⟩ := carve_spec os hp sv h
      refine ⟨q1, q2, fun o' ho' d n ob hd' hm hob => ?_⟩
      rcases List.mem_cons.1 ho' with rfl | ho'
      · rw [hd] at hd'; cases hd'
      · exact q3 o' ho' d n ob hd' hm hob
    · rename_i d0 hd
      split
      · rename_i hm0
        obtain ⟨q1, q2, q3⟩ := carve_spec os hp sv h
        refine ⟨q1, q2, fun o' ho' d n ob hd' hm hob => ?_⟩
        rcases List.mem_cons.1 ho' with rfl | ho'
        · rw [hd] at hd'; cases hd'; rw [hm0] at hm; cases hm
        · exact q3 o' ho' d n ob hd' hm hob
      · rename_i n0 hm0
        split
        · rename_i hg
          obtain ⟨q1, q2, q3⟩ := carve_spec os hp sv h
          refine ⟨q1, q2, fun o' ho' d n ob hd' hm hob => ?_⟩
          rcases List.mem_cons.1 ho' with rfl | ho'
          · rw [hd] at hd'; cases hd'
            rw [hm0] at hm; cases hm
            refine q2 _ ?_
            rw [h.1] at hg
            by_cases hin : n0 ∈ sv.map (·.1)
            · exact hin
            · rw [if_neg hin, hob] at hg; cases hg
          · exact q3 o' ho' d n ob hd' hm hob
        · rename_i ob0 hg
          rw [PT.setK_eq]
          have hin : ¬ n0 ∈ sv.map (·.1) := fun hin => by rw [h.1, if_pos hin] at hg; cases hg
          have hg0 : hp0.get n0 = some ob0 := by rw [h.1, if_neg hin] at hg; exact hg
          have h' : Carved hp0 (hp.set n0 none) ((n0, ob0) :: sv) := by
            refine ⟨fun id => ?_, fun e he => ?_⟩
            · rw [PT.get_set]
              by_cases e : id = n0
              · rw [if_pos e, if_pos]; rw [e]; exact List.mem_cons_self ..
              · rw [if_neg e, h.1]
                simp only [List.map_cons, List.mem_cons, e, false_or]
            · rcases List.mem_cons.1 he with rfl | he
              · exact hg0
              · exact h.2 e he
          obtain ⟨q1, q2, q3⟩ := carve_spec os _ _ h'
          refine ⟨q1, fun n hn => q2 n (List.mem_cons_of_mem _ hn), fun o' ho' d n ob hd' hm hob => ?_⟩
          rcases List.mem_cons.1 ho' with rfl | ho'
          · rw [hd] at hd'; cases hd'
            rw [hm0] at hm; cases hm
            exact q2 _ (List.mem_cons_self ..)
          · exact q3 o' ho' d n ob hd' hm hob

theorem restore_get {hp0 : Heap} : ∀ (sv : List (Nat × AObj)) (hp : Heap), (∀ e ∈ sv, hp0.get e.1 = some e.2) → ∀ id, (restore sv hp).get id = if id ∈ sv.map (·.1) then hp0.get id else hp.get id
  | [], hp, _, id => by simp [restore]
  | (n, ob) :: sv, hp, h, id => by
    rw [restore, PT.setK_eq, restore_get sv _ fun e he => h e (List.mem_cons_of_mem _ he)]
    have h0 := h (n, ob) (List.mem_cons_self ..)
    simp only at h0
    by_cases h1 : id ∈ sv.map (·.1)
    · rw [if_pos h1, if_pos]; exact List.mem_cons_of_mem _ h1
    · rw [if_neg h1, PT.get_set]
      by_cases e : id = n
      · subst e; rw [if_pos rfl, if_pos, h0]; exact List.mem_cons_self ..
      · rw [if_neg e, if_neg]
        simp only [List.map_cons, List.mem_cons, e, false_or]
        exact h1

theorem restoreK_eq {β : Type} : ∀ (sv : List (Nat × AObj)) (hp : Heap) (c : Heap → β), restoreK sv hp c = c (restore sv hp)
  | [], _, _ => rfl
  | (n, ob) :: sv, hp, c => by rw [restoreK, PT.setK_eq, restoreK_eq sv, restore, PT.setK_eq]

/-- The machine's part of them is put back. -/
def backR (hpR : Heap) : List (Nat × AObj) → Heap → Heap
  | [], hp => hp
  | (n, _) :: sv, hp => backR hpR sv (hp.set n (hpR.get n))

theorem backR_get {hpR : Heap} : ∀ (sv : List (Nat × AObj)) (hp : Heap) (id : Nat), (backR hpR sv hp).get id = if id ∈ sv.map (·.1) then hpR.get id else hp.get id
  | [], hp, id => by simp [backR]
  | (n, ob) :: sv, hp, id => by
    rw [backR, backR_get sv]
    by_cases h1 : id ∈ sv.map (·.1)
    · rw [if_pos h1, if_pos]; exact List.mem_cons_of_mem _ h1
    · rw [if_neg h1, PT.get_set]
      by_cases e : id = n
      · subst e; rw [if_pos rfl, if_pos]; exact List.mem_cons_self ..
      · rw [if_neg e, if_neg]
        simp only [List.map_cons, List.mem_cons, e, false_or]
        exact h1

/-! ### Those that are kept -/
def pruneD : List DW → Nat → List DW
  | [], _ => []
  | e :: es, need => bif bitAt need e.x.i then pruneD es (Nat.lor need e.x.m) else e :: pruneD es need

theorem pruneD_map : ∀ (W : List DW) (need : Nat), (pruneD W need).map DW.x = prune (W.map DW.x) need
  | [], _ => rfl
  | e :: es, need => by
    simp only [pruneD, List.map_cons, prune]
    cases bitAt need e.x.i with
    | true => exact pruneD_map es _
    | false => rw [cond_false, cond_false, List.map_cons, pruneD_map es]

theorem pruneD_sub : ∀ (W : List DW) (need : Nat), (pruneD W need).Sublist W
  | [], _ => .slnil
  | e :: es, need => by
    simp only [pruneD]
    cases bitAt need e.x.i with
    | true => exact (pruneD_sub es _).cons _
    | false => exact (pruneD_sub es _).cons_cons _

theorem readsOf_mem {T : Tabs} : ∀ {l : List WS} {x : WS}, x ∈ l → kindOp T x.o.op = .read → x.o ∈ readsOf T l
  | [], _, h, _ => nomatch h
  | y :: l, x, h, hk => by
    simp only [readsOf]
    rcases List.mem_cons.1 h with rfl | h
    · rw [hk]; exact List.mem_cons_self ..
    · cases isRead (kindOp T y.o.op) with
      | true => exact List.mem_cons_of_mem _ (readsOf_mem h hk)
      | false => exact readsOf_mem h hk

theorem islOf_mem {T : Tabs} : ∀ {l : List WS} {x : WS}, x ∈ l → kindOp T x.o.op = .make → isSlice x.o.op = false → x.o ∈ islOf T l
  | [], _, h, _, _ => nomatch h
  | y :: l, x, h, hk, hs => by
    simp only [islOf]
    rcases List.mem_cons.1 h with rfl | h
    · rw [hk, hs]; exact List.mem_cons_self ..
    · cases (isMake (kindOp T y.o.op) && !isSlice y.o.op) with
      | true => exact List.mem_cons_of_mem _ (islOf_mem h hk hs)
      | false => exact islOf_mem h hk hs

theorem recheck_mem {T : Tabs} {ops : Array Oper} {tm : PT AV} {hp : Heap} {nx : Nat} : ∀ {l : List Oper} {o : Oper}, recheck T ops tm hp nx l = true → o ∈ l → wantedA ops tm o.guard = true →
    ∃ d v, o.dst = some d ∧ aop T o.op tm hp nx = some (.val v) ∧ v = rdTmp tm d
  | [], _, _, h, _ => nomatch h
  | o' :: l, o, hr, h, hw => by
    simp only [recheck] at hr
    rcases List.mem_cons.1 h with rfl | h
    · rw [hw, cond_true] at hr
      split at hr
      · rename_i d v hd hv
        cases he : eqAV v (rdTmp tm d) with
        | true => exact ⟨d, v, hd, hv, eqAV_eq he⟩
        | false => rw [he] at hr; cases hr
      · cases hr
    · cases hw' : wantedA ops tm o'.guard with
      | false => rw [hw', cond_false] at hr; exact recheck_mem hr h hw
      | true =>
        rw [hw', cond_true] at hr
        split at hr
        · rename_i d v hd hv
          cases he : eqAV v (rdTmp tm d) with
          | true => rw [he, cond_true] at hr; exact recheck_mem hr h hw
          | false => rw [he] at hr; cases hr
        · cases hr

/-- A slice expression makes no block. -/
theorem aop_slice_none {T : Tabs} {op : Op} {tm : PT AV} {hp : Heap} {nx : Nat} {v : AV} {ob : Option AObj} (hs : isSlice op = true) (h : aop T op tm hp nx = some (.new v ob)) : ob = none := by
  cases op <;> first | (cases hs; done) | skip
  case slice t x lo hi mx =>
    simp only [aop, aSlice] at h
    cases mx with
    | some m => cases h
    | none =>
      simp only at h
      split at h
      · cases h
      · split at h
        · rename_i s _ _
          cases hh : aSliceStr tm s lo hi with
          | none => rw [hh] at h; cases h
          | some u => rw [hh] at h; simp [ofVal] at h
        · split at h
          · cases h
          · split at h
            · cases h
            · split at h
              · cases h
              · split at h
                · cases h
                · simp only [Option.some.injEq, OpR.new.injEq] at h
                  exact h.2.symm
        · split at h
          · cases h
          · split at h
            · split at h
              · simp only [Option.some.injEq, OpR.new.injEq] at h
                exact h.2.symm
              · cases h
            · cases h
        · cases h

section effect
variable {C : Ctx} {ops : Array Oper} {sz n0 l d nx : Nat} {W : List DW} {tm tmR : PT AV} {hp hpR : Heap} {ρ : Env} {p : Nat → Prop} {a : Act} {w : World}

/-- An outstanding one that has made a block: where its slot leads. -/
theorem Mid.ob_spec (hM : Mid C ops sz n0 l W tm hp nx) {e : DW} (he : e ∈ W) (hob : e.ob ≠ none) : ∃ dd, e.x.o.dst = some dd ∧ ment (rdTmp tm dd) = some e.nn ∧ (∃ ob, hp.get e.nn = some ob) ∧ kindOp C.T e.x.o.op = .make ∧ isSlice e.x.o.op = false := by
  obtain ⟨dd, h1, h2, h3⟩ := hM.slot e he
  have hr := hM.res e he
  cases hr' : e.r with
  | none => unfold DW.ob at hob; rw [hr'] at hob; exact absurd rfl hob
  | some r =>
    rw [hr'] at hr
    obtain ⟨q1, q2, v, hv⟩ := hr
    rcases hv with rfl | ⟨ob, rfl⟩
    · unfold DW.ob at hob; rw [hr'] at hob; exact absurd rfl hob
    · have hob' : e.ob = ob := by unfold DW.ob; rw [hr']
      rw [hob'] at hob
      have hk : kindOp C.T e.x.o.op = .make := by
        cases hk : kindOp C.T e.x.o.op with
        | make => rfl
        | eff => exact absurd hk (hM.kind e he)
        | pure => obtain ⟨⟨v', hv'⟩, _⟩ := aop_value (nx' := nx) (.inl hk) q2; cases hv'
        | read => obtain ⟨⟨v', hv'⟩, _⟩ := aop_value (nx' := nx) (.inr hk) q2; cases hv'
      have hs : isSlice e.x.o.op = false := by
        cases hs : isSlice e.x.o.op with
        | false => rfl
        | true => exact absurd (aop_slice_none hs q2) hob
      obtain ⟨v', ob', k1, k2, _⟩ := aop_make hk q2
      simp only [OpR.new.injEq] at k1
      obtain ⟨rfl, rfl⟩ := k1
      cases ob with
      | none => exact absurd rfl hob
      | some o =>
        refine ⟨dd, h1, ?_, ⟨o, hM.block e he o hob'⟩, hk, hs⟩
        rw [h3]
        have : e.v = v := by unfold DW.v; rw [hr']
        rw [this]
        exact k2 o rfl

/-- What the machine has not done is kept. -/
theorem Mach.kept (hM : Mid C ops sz n0 l W tm hp nx) (hR : Mach C ops sz l d W tm tmR hp hpR nx ρ p a w) {c : WS} (hm : ∀ b, c.m.testBit b = true → d.testBit b = true) : ∀ e ∈ W, d.testBit e.x.i = false → e ∈ pruneD W c.m := by
  intro e he hd
  have h := prune_keeps (W := W.map DW.x) (need := c.m) (fun x => d.testBit x.i = false) (fun x _ hx => ?_) (fun x _ y hy hx hny => ?_) e.x (List.mem_map.2 ⟨e, he, rfl⟩) hd
  · rw [← pruneD_map] at h
    obtain ⟨e', he', hx⟩ := List.mem_map.1 h
    have := hM.uniq e he e' ((pruneD_sub _ _).subset he') (by rw [hx])
    subst this
    exact he'
  · cases hb : c.m.testBit x.i with
    | false => rfl
    | true => rw [hm _ hb] at hx; cases hx
  · cases hb : y.m.testBit x.i with
    | false => rfl
    | true =>
      obtain ⟨e', he', rfl⟩ := List.mem_map.1 hy
      have : d.testBit e'.x.i = true := by simpa using hny
      rw [hR.down e'.x (hM.op e' he') this _ hb] at hx
      cases hx

/-- What okEff says. -/
theorem okEff_spec {c : WS} {W : List DW} (h : okEff ops c (W.map DW.x) = true) : ∀ e ∈ W, (∀ d, e.x.o.dst = some d → d ∉ c.o.looksAt ops) ∧ (∀ d, c.o.dst = some d → d ∉ e.x.o.looksAt ops) ∧ ∀ d, c.o.dst = some d → e.x.o.dst ≠ some d := by
  intro e he
  unfold okEff at h
  rw [List.all_eq_true] at h
  have := h e.x (List.mem_map.2 ⟨e, he, rfl⟩)
  rw [Bool.and_eq_true, Bool.and_eq_true, Bool.not_eq_true', Bool.not_eq_true', Bool.not_eq_true'] at this
  obtain ⟨⟨q1, q2⟩, q3⟩ := this
  exact ⟨dstIn_false q1, dstIn_false q2, sameDst_false q3⟩

/-- A ready effect sees the evaluator's slots. -/
theorem Mach.look_eff (hM : Mid C ops sz n0 l W tm hp nx) (hR : Mach C ops sz l d W tm tmR hp hpR nx ρ p a w) {c : WS} (hm : ∀ b, c.m.testBit b = true → d.testBit b = true) (hok : okEff ops c (prune (W.map DW.x) c.m) = true) :
    ∀ t ∈ c.o.looksAt ops, rdTmp tmR t = rdTmp tm t := fun t ht => hR.slots t fun e he hd hdst => by
  rw [← pruneD_map] at hok
  exact (okEff_spec hok e (hR.kept hM hm e he hd)).1 t hdst ht

/-- THE EFFECT IS TAKEN: what the evaluator knows. 'hp2': the heap behind it, blocks put back. -/
theorem Mid.eff (hM : Mid C ops sz n0 l W tm hp nx) {c : WS} {v : AV} {tm1 : PT AV} {hp2 : Heap} {nx1 : Nat}
    (hc : c ∈ allOps ops.toList 0) (hr : readyAt l c = true) (hok : okEff ops c (prune (W.map DW.x) c.m) = true) (hput : putTm tm sz c.o.dst v = some tm1) (hnx : nx ≤ nx1)
    (hblock : ∀ e ∈ pruneD W c.m, e.ob ≠ none → hp2.get e.nn = hp.get e.nn) (hread : ∀ e ∈ pruneD W c.m, kindOp C.T e.x.o.op = .read → ∀ u, e.r = some (.val u) → wantedA ops tm1 e.x.o.guard = true → aop C.T e.x.o.op tm hp e.nn = some (.val u) → aop C.T e.x.o.op tm1 hp2 e.nn = some (.val u))
    (htop : ∀ id, nx1 ≤ id → hp2.get id = none) : Mid C ops sz n0 (Nat.lor l (2 ^ c.i)) (pruneD W c.m) tm1 hp2 nx1 := by
  obtain ⟨r1, r2⟩ := readyAt_iff.1 hr
  have sub : ∀ {e}, e ∈ pruneD W c.m → e ∈ W := fun h => (pruneD_sub _ _).subset h
  rw [← pruneD_map] at hok
  have hall := okEff_spec hok
  refine ⟨fun j hj => ?_, fun x hx hxl b hb => ?_, fun e he => hM.op e (sub he), fun e he => hM.kind e (sub he), fun e he => lor_true.2 (.inl (hM.listed e (sub he))), fun e he => ?_, fun e he => ?_, fun e he ob hob => ?_, fun e he hm => Nat.lt_of_lt_of_le (hM.lt e (sub he) hm) hnx,
    fun e he => hM.ge e (sub he), fun e he e' he' => hM.uniq e (sub he) e' (sub he'), fun e he e' he' => hM.nns e (sub he) e' (sub he'), fun e he e' he' => hM.dsts e (sub he) e' (sub he'), fun e he e' he' => hM.looks e (sub he) e' (sub he'), hM.ord.sublist (pruneD_sub _ _), fun e he => hM.self e (sub he), htop⟩
  · rcases lor_true.1 hj with h | rfl
    · exact hM.bound j h
    · exact (allOps_get hc).1
  · rcases lor_true.1 hxl with h | h
    · exact lor_true.2 (.inl (hM.down x hx h b hb))
    · have := allOps_uniq hc hx h
      subst this
      exact lor_true.2 (.inl (r2 b hb))
  · obtain ⟨dd, q1, q2, q3⟩ := hM.slot e (sub he)
    exact ⟨dd, q1, q2, by rw [putTm_other hput fun e' => (hall e he).2.2 dd e' q1]; exact q3⟩
  · exact res_keep (hM.kind e (sub he)) (look_put hput (hall e he).2.1) (hread e he) (hM.res e (sub he))
  · rw [hblock e he (by rw [hob]; simp)]
    exact hM.block e (sub he) ob hob

/-- And where the machine stands. -/
theorem Mach.eff (hM : Mid C ops sz n0 l W tm hp nx) (hR : Mach C ops sz l d W tm tmR hp hpR nx ρ p a w) {c : WS} {v : AV} {tm1 tmR1 : PT AV} {hp2 hpR2 : Heap} {nx1 : Nat} {ρ' : Env} {w' : World}
    (hc : c ∈ allOps ops.toList 0) (hr : readyAt l c = true) (hm : ∀ b, c.m.testBit b = true → d.testBit b = true) (hput : putTm tm sz c.o.dst v = some tm1) (hputR : putTm tmR sz c.o.dst v = some tmR1) (hnx : nx ≤ nx1)
    (hs : Step C ρ p hpR w ρ' (more p nx nx1) hpR2 w') (hv : v.ok ρ' (more p nx nx1))
    (hheap : ∀ id, (∀ e ∈ W, d.testBit e.x.i = false → e.ob ≠ none → e.nn ≠ id) → hpR2.get id = hp2.get id) (hgone : ∀ e ∈ W, d.testBit e.x.i = false → e.ob ≠ none → hpR2.get e.nn = none) :
    Mach C ops sz (Nat.lor l (2 ^ c.i)) (Nat.lor d (2 ^ c.i)) (pruneD W c.m) tm1 tmR1 hp2 hpR2 nx1 ρ' (more p nx nx1) (a.put c.o.dst (v.conc ρ')) w' := by
  obtain ⟨r1, r2⟩ := readyAt_iff.1 hr
  have sub : ∀ {e}, e ∈ pruneD W c.m → e ∈ W := fun h => (pruneD_sub _ _).subset h
  have lag : ∀ {e}, e ∈ W → d.testBit e.x.i = false → e ∈ pruneD W c.m ∧ (Nat.lor d (2 ^ c.i)).testBit e.x.i = false := fun {e} he hd => by
    refine ⟨hR.kept hM hm e he hd, lor_false.2 ⟨hd, fun h => ?_⟩⟩
    have := hM.listed e he
    rw [← h, r1] at this
    cases this
  have unlag : ∀ {e : DW}, (Nat.lor d (2 ^ c.i)).testBit e.x.i = false → d.testBit e.x.i = false := fun h => (lor_false.1 h).1
  refine ⟨hs.inv, (hR.tmv.mono hs.agree hs.mono).put hputR hv, hR.fresh.more hnx, fun j hj => ?_, fun j hj => ?_, fun x hx hxd b hb => ?_, fun t ht => ?_, fun id hid => ?_, fun e he hd hob => ?_, fun e he hd hmd => ?_⟩
  · rcases lor_true.1 hj with h | h
    · exact lor_true.2 (.inl (hR.within j h))
    · exact lor_true.2 (.inr h)
  · rcases lor_true.1 hj with h | h
    · rcases hR.rest j h with h | ⟨e, he, rfl⟩
      · exact .inl (lor_true.2 (.inl h))
      · cases hd : d.testBit e.x.i with
        | true => exact .inl (lor_true.2 (.inl hd))
        | false => exact .inr ⟨e, (lag he hd).1, rfl⟩
    · exact .inl (lor_true.2 (.inr h))
  · rcases lor_true.1 hxd with h | h
    · exact lor_true.2 (.inl (hR.down x hx h b hb))
    · have := allOps_uniq hc hx h
      subst this
      exact lor_true.2 (.inl (hm b hb))
  · by_cases h : c.o.dst = some t
    · rw [h] at hput hputR
      rw [(putTm_same hput).1, (putTm_same hputR).1]
    · rw [putTm_other hput h, putTm_other hputR h]
      exact hR.slots t fun e he hd => ht e (lag he hd).1 (lag he hd).2
  · exact hheap id fun e he hd => hid e (lag he hd).1 (lag he hd).2
  · exact hgone e (sub he) (unlag hd) hob
  · intro h
    rcases h with h | ⟨h1, h2⟩
    · exact hR.names e (sub he) (unlag hd) hmd h
    · have := hM.lt e (sub he) hmd
      omega

end effect
end Go.Ev
