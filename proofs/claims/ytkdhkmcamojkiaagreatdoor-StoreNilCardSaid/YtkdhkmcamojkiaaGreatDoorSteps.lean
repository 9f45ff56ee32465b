/- Drawn regions, step by step: an entry that is taken up, an outstanding one that the machine does. -/
import Derived.Test.YtkdhkmcamojkiaaGreatDoorDrawn
namespace Go.Ev

theorem Act.put_defers' (a : Act) (x : Option Tmp) (v : Value) : (a.put x v).defers = a.defers := by
  cases x <;> rfl

theorem allOps_uniq {os : List Oper} {x y : WS} (hx : x ∈ allOps os 0) (hy : y ∈ allOps os 0) (h : x.i = y.i) : x = y := by
  obtain ⟨j, h1, h2, h3⟩ := (allOps_mem _ _ _).1 hx
  obtain ⟨k, h4, h5, h6⟩ := (allOps_mem _ _ _).1 hy
  rw [Nat.zero_add] at h1 h4
  have : j = k := by omega
  subst this
  rw [h2] at h5
  obtain ⟨xi, xo, xm⟩ := x
  obtain ⟨yi, yo, ym⟩ := y
  simp only [Option.some.injEq] at *
  subst h5
  subst h1
  subst h4
  rw [h3, h6]

theorem allOps_get {ops : Array Oper} {x : WS} (hx : x ∈ allOps ops.toList 0) : x.i < ops.size ∧ ops[x.i]? = some x.o := by
  obtain ⟨k, h1, h2, _⟩ := (allOps_mem _ _ _).1 hx
  rw [Nat.zero_add] at h1
  rw [h1]
  exact ⟨by simpa using (List.getElem?_eq_some_iff.1 h2).1, by rw [← Array.getElem?_toList]; exact h2⟩

theorem readyAt_iff {l : Nat} {x : WS} : readyAt l x = true ↔ l.testBit x.i = false ∧ ∀ b, x.m.testBit b = true → l.testBit b = true := by
  unfold readyAt
  rw [Bool.and_eq_true, bitAt_iff, subMask_iff, Bool.not_eq_true']

theorem lor_true {l i j : Nat} : (Nat.lor l (2 ^ i)).testBit j = true ↔ l.testBit j = true ∨ i = j := by
  rw [lor_bit, Bool.or_eq_true, decide_eq_true_eq]
theorem lor_false {l i j : Nat} : (Nat.lor l (2 ^ i)).testBit j = false ↔ l.testBit j = false ∧ i ≠ j := by
  rw [lor_bit, Bool.or_eq_false_iff, decide_eq_false_iff_not]

theorem dstIn_false {o : Oper} {l : List Tmp} (h : dstIn o l = false) : ∀ d, o.dst = some d → d ∉ l := by
  intro d hd hm
  unfold dstIn at h
  rw [hd] at h
  simp only at h
  rw [inL_iff.2 hm] at h
  cases h
theorem dstIn_true {o : Oper} {l : List Tmp} {d : Tmp} (h : o.dst = some d) (hm : d ∈ l) : dstIn o l = true := by
  unfold dstIn
  rw [h]
  exact inL_iff.2 hm
theorem sameDst_false {o o' : Oper} (h : sameDst o o' = false) : ∀ d, o.dst = some d → o'.dst ≠ some d := by
  intro d hd hd'
  unfold sameDst at h
  rw [hd, hd'] at h
  simp at h

/-- The machine's slots, and what is put in one. -/
theorem look_put {tm tm' : PT AV} {sz : Nat} {o o' : Oper} {ops : Array Oper} {v : AV} (h : putTm tm sz o.dst v = some tm') (hn : ∀ d, o.dst = some d → d ∉ o'.looksAt ops) : ∀ t ∈ o'.looksAt ops, rdTmp tm' t = rdTmp tm t := by
  intro t ht
  rcases putTm_some h with ⟨_, rfl⟩ | ⟨d, hd, _, rfl⟩
  · rfl
  · rw [rdTmp_set, if_neg fun e : t = d => hn d hd (e ▸ ht)]

theorem putTm_other {tm tm' : PT AV} {sz : Nat} {d : Option Tmp} {v : AV} (h : putTm tm sz d v = some tm') {t : Nat} (hn : d ≠ some t) : rdTmp tm' t = rdTmp tm t := by
  rcases putTm_some h with ⟨_, rfl⟩ | ⟨d, rfl, _, rfl⟩
  · rfl
  · rw [rdTmp_set, if_neg fun e => hn (by rw [e])]
theorem putTm_same {tm tm' : PT AV} {sz : Nat} {d : Tmp} {v : AV} (h : putTm tm sz (some d) v = some tm') : rdTmp tm' d = v ∧ d < sz := by
  rcases putTm_some h with ⟨h0, _⟩ | ⟨d, hd, hlt, rfl⟩
  · cases h0
  · cases hd
    exact ⟨by rw [rdTmp_set, if_pos rfl], hlt⟩
theorem putTm_ex {tm tm' : PT AV} {sz : Nat} {d : Option Tmp} {v : AV} (h : putTm tm sz d v = some tm') (tmR : PT AV) : ∃ tmR', putTm tmR sz d v = some tmR' := by
  cases d with
  | none => exact ⟨tmR, rfl⟩
  | some d =>
    have h' : (bif Nat.blt d sz then PT.setK tm d (some v) some else none) = some tm' := h
    cases hb : Nat.blt d sz with
    | false => rw [hb] at h'; cases h'
    | true => exact ⟨tmR.set d (some v), by show (bif Nat.blt d sz then PT.setK tmR d (some v) some else none) = _; rw [hb, cond_true, PT.setK_eq]⟩

theorem DW.names_or : ∀ (e : DW) {p : Nat → Prop} {id : Nat}, e.names p id → p id ∨ (e.made ∧ id = e.nn)
  | ⟨_, nn, none⟩, p, id, h => .inl h
  | ⟨_, nn, some (.val _)⟩, p, id, h => .inl h
  | ⟨_, nn, some (.heap ..)⟩, p, id, h => .inl h
  | ⟨_, nn, some (.call ..)⟩, p, id, h => .inl h
  | ⟨_, nn, some (.round ..)⟩, p, id, h => .inl h
  | ⟨_, nn, some (.new v ob)⟩, p, id, h => by
    have h' : more p nn (nn + 1) id := h
    rcases h' with h' | h'
    · exact .inl h'
    · refine .inr ⟨⟨v, ob, rfl⟩, ?_⟩
      show id = nn
      omega

section steps
variable {C : Ctx} {ops : Array Oper} {sz n0 l d nx : Nat} {W : List DW} {tm tmR : PT AV} {hp hpR : Heap} {ρ : Env} {p : Nat → Prop} {a : Act} {w : World}

/-- What of a taken one stays as it was: its slots, its result, where others were put. -/
theorem res_keep {e : DW} {tm1 : PT AV} {hp1 : Heap} (hk : kindOp C.T e.x.o.op ≠ .eff) (hl : ∀ t ∈ e.x.o.looksAt ops, rdTmp tm1 t = rdTmp tm t)
    (hr : kindOp C.T e.x.o.op = .read → ∀ v, e.r = some (.val v) → wantedA ops tm1 e.x.o.guard = true → aop C.T e.x.o.op tm hp e.nn = some (.val v) → aop C.T e.x.o.op tm1 hp1 e.nn = some (.val v))
    (h : resOk C.T ops tm hp e.x.o e.nn e.r) : resOk C.T ops tm1 hp1 e.x.o e.nn e.r := by
  have hw := wantedA_congr hl
  have hc := evalO_congr hl
  obtain ⟨x, nn, r⟩ := e
  simp only at *
  cases r with
  | none => exact hw.trans h
  | some r =>
    obtain ⟨h1, h2, h3⟩ := h
    refine ⟨by rw [hw]; exact h1, ?_, h3⟩
    cases hkk : kindOp C.T x.o.op with
    | eff => exact absurd hkk hk
    | pure => rw [aop_congr hc, aop_heap (hp' := hp) (.inl hkk)]; exact h2
    | make => rw [aop_congr hc, aop_heap (hp' := hp) (.inr hkk)]; exact h2
    | read =>
      obtain ⟨⟨v, rfl⟩, _⟩ := aop_value (nx' := nn) (.inr hkk) h2
      exact hr hkk v rfl (by rw [hw]; exact h1) h2

/-- AN OPERATION IS TAKEN: no step of the machine. -/
theorem Mid.take (hM : Mid C ops sz n0 l W tm hp nx) (hn0 : n0 ≤ nx) {c : WS} {r : Option OpR} {tm1 : PT AV} {hp1 : Heap} {nx1 : Nat}
    (hc : c ∈ allOps ops.toList 0) (hr : readyAt l c = true) (hk : kindOp C.T c.o.op ≠ .eff) (hok : okNon ops c (W.map DW.x) = true)
    (hput : putTm tm sz c.o.dst (DW.v ⟨c, nx, r⟩) = some tm1) (hhp : hp1 = DW.heap ⟨c, nx, r⟩ hp) (hnx : nx ≤ nx1) (hlt : DW.made ⟨c, nx, r⟩ → nx < nx1)
    (hres : resOk C.T ops tm hp c.o nx r) : Mid C ops sz n0 (Nat.lor l (2 ^ c.i)) (⟨c, nx, r⟩ :: W) tm1 hp1 nx1 := by
  obtain ⟨r1, r2⟩ := readyAt_iff.1 hr
  unfold okNon at hok
  rw [Bool.and_eq_true, Bool.and_eq_true, List.all_eq_true] at hok
  obtain ⟨⟨k1, k2⟩, k3⟩ := hok
  obtain ⟨dc, hdc⟩ : ∃ dc, c.o.dst = some dc := by
    cases h : c.o.dst with
    | none => rw [h] at k1; cases k1
    | some dc => exact ⟨dc, rfl⟩
  have hself : ∀ d, c.o.dst = some d → d ∉ c.o.looksAt ops := dstIn_false (by simpa using k2)
  have hall : ∀ e ∈ W, (∀ d, e.x.o.dst = some d → d ∈ c.o.looksAt ops → c.m.testBit e.x.i = true) ∧ (∀ d, c.o.dst = some d → d ∉ e.x.o.looksAt ops) ∧ ∀ d, c.o.dst = some d → e.x.o.dst ≠ some d := by
    intro e he
    have := k3 e.x (List.mem_map.2 ⟨e, he, rfl⟩)
    rw [Bool.and_eq_true, Bool.and_eq_true, Bool.or_eq_true, Bool.not_eq_true', Bool.not_eq_true', Bool.not_eq_true', bitAt_iff] at this
    obtain ⟨⟨q1, q2⟩, q3⟩ := this
    refine ⟨fun d hd hm => ?_, dstIn_false q2, sameDst_false q3⟩
    rcases q1 with q1 | q1
    · rw [dstIn_true hd hm] at q1; cases q1
    · exact q1
  have hne : ∀ e ∈ W, c.i ≠ e.x.i := fun e he h => by
    have := hM.listed e he
    rw [← h, r1] at this
    cases this
  have hget : ∀ id, id ≠ nx → hp1.get id = hp.get id := by
    intro id hid
    rw [hhp]
    unfold DW.heap
    split
    · rw [PT.get_set_ne _ _ hid]
    · rfl
  have hkeepH : ∀ id o, hp.get id = some o → hp1.get id = some o := fun id o ho => by
    rw [hget id fun e => ?_]
    · exact ho
    · rw [e, hM.top nx (Nat.le_refl _)] at ho; cases ho
  have hres' : ∀ e ∈ ((⟨c, nx, r⟩ : DW) :: W), resOk C.T ops tm1 hp1 e.x.o e.nn e.r := by
    intro e he
    have key : ∀ e : DW, kindOp C.T e.x.o.op ≠ .eff → (∀ d, c.o.dst = some d → d ∉ e.x.o.looksAt ops) → resOk C.T ops tm hp e.x.o e.nn e.r → resOk C.T ops tm1 hp1 e.x.o e.nn e.r := by
      intro e hk hd h
      have hl := look_put hput hd
      refine res_keep hk hl (fun hkk v _ _ h2 => ?_) h
      rw [aop_congr (evalO_congr hl)]
      exact aop_read hkk h2 fun y _ u b o _ _ hb => hkeepH b o hb
    rcases List.mem_cons.1 he with rfl | he
    · exact key _ hk hself hres
    · exact key e (hM.kind e he) (hall e he).2.1 (hM.res e he)
  refine ⟨fun j hj => ?_, fun x hx hxl b hb => ?_, fun e he => ?_, fun e he => ?_, fun e he => ?_, fun e he => ?_, hres', fun e he ob hob => ?_, fun e he hm => ?_, fun e he hm => ?_, fun e he e' he' h => ?_, fun e he e' he' hi hm hm' => ?_, fun e he e' he' hi => ?_,
    fun e he e' he' d hd hm => ?_, ?_, fun e he => ?_, fun id hid => ?_⟩
  · rcases lor_true.1 hj with h | rfl
    · exact hM.bound j h
    · exact (allOps_get hc).1
  · rcases lor_true.1 hxl with h | h
    · exact lor_true.2 (.inl (hM.down x hx h b hb))
    · have := allOps_uniq hc hx h
      subst this
      exact lor_true.2 (.inl (r2 b hb))
  · rcases List.mem_cons.1 he with rfl | he
    · exact hc
    · exact hM.op e he
  · rcases List.mem_cons.1 he with rfl | he
    · exact hk
    · exact hM.kind e he
  · rcases List.mem_cons.1 he with rfl | he
    · exact lor_true.2 (.inr rfl)
    · exact lor_true.2 (.inl (hM.listed e he))
  · rcases List.mem_cons.1 he with rfl | he
    · rw [hdc] at hput
      obtain ⟨q1, q2⟩ := putTm_same hput
      exact ⟨dc, hdc, q2, q1⟩
    · obtain ⟨d, q1, q2, q3⟩ := hM.slot e he
      refine ⟨d, q1, q2, ?_⟩
      rw [putTm_other hput fun e' => (hall e he).2.2 d e' q1]
      exact q3
  · rcases List.mem_cons.1 he with rfl | he
    · rw [hhp]
      unfold DW.ob at hob
      split at hob
      · rename_i v ob' hr'
        subst hob
        simp only at hr'
        subst hr'
        simp only [DW.heap]
        rw [PT.get_set_same]
      · cases hob
    · rw [hget]
      · exact hM.block e he ob hob
      · have := hM.lt e he (DW.made_of (by rw [hob]; simp))
        omega
  · rcases List.mem_cons.1 he with rfl | he
    · exact hlt hm
    · exact Nat.lt_of_lt_of_le (hM.lt e he hm) hnx
  · rcases List.mem_cons.1 he with rfl | he
    · exact hn0
    · exact hM.ge e he hm
  · rcases List.mem_cons.1 he with rfl | he
    · rcases List.mem_cons.1 he' with rfl | he'
      · rfl
      · exact absurd h (hne e' he')
    · rcases List.mem_cons.1 he' with rfl | he'
      · exact absurd h.symm (hne e he)
      · exact hM.uniq e he e' he' h
  · rcases List.mem_cons.1 he with rfl | he
    · rcases List.mem_cons.1 he' with rfl | he'
      · exact absurd rfl hi
      · have := hM.lt e' he' hm'
        simp only
        omega
    · rcases List.mem_cons.1 he' with rfl | he'
      · have := hM.lt e he hm
        simp only
        omega
      · exact hM.nns e he e' he' hi hm hm'
  · rcases List.mem_cons.1 he with rfl | he
    · rcases List.mem_cons.1 he' with rfl | he'
      · exact absurd rfl hi
      · intro h
        exact (hall e' he').2.2 dc hdc (h.symm.trans hdc)
    · rcases List.mem_cons.1 he' with rfl | he'
      · intro h
        exact (hall e he).2.2 dc hdc (h.trans hdc)
      · exact hM.dsts e he e' he' hi
  · rcases List.mem_cons.1 he with rfl | he
    · rcases List.mem_cons.1 he' with rfl | he'
      · exact absurd hm (hself d hd)
      · exact absurd hm ((hall e' he').2.1 d hd)
    · rcases List.mem_cons.1 he' with rfl | he'
      · exact (hall e he).1 d hd hm
      · exact hM.looks e he e' he' d hd hm
  · refine List.pairwise_cons.2 ⟨fun e he => ?_, hM.ord⟩
    cases h : e.x.m.testBit c.i with
    | false => rfl
    | true =>
      have := hM.down e.x (hM.op e he) (hM.listed e he) _ h
      rw [r1] at this
      cases this
  · rcases List.mem_cons.1 he with rfl | he
    · show c.m.testBit c.i = false
      cases h : c.m.testBit c.i with
      | false => rfl
      | true =>
        have := r2 _ h
        rw [r1] at this
        cases this
    · exact hM.self e he
  · by_cases e : id = nx
    · subst e
      rw [hhp]
      unfold DW.heap
      split
      · rename_i v ob hr'
        have := hlt ⟨v, some ob, hr'⟩
        omega
      · exact hM.top _ (Nat.le_refl _)
    · rw [hget id e]
      exact hM.top id (by omega)

theorem Mach.take (hR : Mach C ops sz l d W tm tmR hp hpR nx ρ p a w) {c : WS} {r : Option OpR} {tm1 : PT AV} {hp1 : Heap} {nx1 : Nat}
    (hr : readyAt l c = true) (hput : putTm tm sz c.o.dst (DW.v ⟨c, nx, r⟩) = some tm1) (hhp : hp1 = DW.heap ⟨c, nx, r⟩ hp) (hnx : nx ≤ nx1) :
    Mach C ops sz (Nat.lor l (2 ^ c.i)) d (⟨c, nx, r⟩ :: W) tm1 tmR hp1 hpR nx1 ρ p a w := by
  obtain ⟨r1, r2⟩ := readyAt_iff.1 hr
  have hlag : d.testBit c.i = false := by
    cases h : d.testBit c.i with
    | false => rfl
    | true => rw [hR.within _ h] at r1; cases r1
  have hgone : hpR.get nx = none := by
    cases h : hpR.get nx with
    | none => rfl
    | some o => exact absurd (hR.inv.sat nx o h).1 (hR.fresh nx (Nat.le_refl _))
  refine ⟨hR.inv, hR.tmv, fun id hid => hR.fresh id (by omega), fun j hj => lor_true.2 (.inl (hR.within j hj)), fun j hj => ?_, hR.down, fun t ht => ?_, fun id hid => ?_, fun e he hd hob => ?_, fun e he hd hm => ?_⟩
  · rcases lor_true.1 hj with h | h
    · rcases hR.rest j h with h | ⟨e, he, h⟩
      · exact .inl h
      · exact .inr ⟨e, List.mem_cons_of_mem _ he, h⟩
    · exact .inr ⟨_, List.mem_cons_self .., h⟩
  · rw [putTm_other hput (ht _ (List.mem_cons_self ..) hlag)]
    exact hR.slots t fun e he => ht e (List.mem_cons_of_mem _ he)
  · rw [hR.heap id fun e he => hid e (List.mem_cons_of_mem _ he), hhp]
    unfold DW.heap
    split
    · rename_i v ob hr'
      have : nx ≠ id := hid _ (List.mem_cons_self ..) hlag (by simp only at hr'; subst hr'; simp [DW.ob])
      rw [PT.get_set_ne _ _ fun e => this e.symm]
    · rfl
  · rcases List.mem_cons.1 he with rfl | he
    · exact hgone
    · exact hR.gone e he hd hob
  · rcases List.mem_cons.1 he with rfl | he
    · exact hR.fresh nx (Nat.le_refl _)
    · exact hR.names e he hd hm

/-- THE MACHINE DOES AN OUTSTANDING ONE. -/
theorem Mach.ent (hM : Mid C ops sz n0 l W tm hp nx) (hR : Mach C ops sz l d W tm tmR hp hpR nx ρ p a w) {e : DW} (he : e ∈ W) (hr : ∀ b, e.x.m.testBit b = true → d.testBit b = true)
    {ρ' : Env} {w' : World} (hs : Step C ρ p hpR w ρ' (e.names p) (e.heap hpR) w') (hv : e.v.ok ρ' (e.names p)) :
    ∃ tmR', Mach C ops sz l (Nat.lor d (2 ^ e.x.i)) W tm tmR' hp (e.heap hpR) nx ρ' (e.names p) (a.put e.x.o.dst (e.v.conc ρ')) w' := by
  obtain ⟨de, hde, hlt, hval⟩ := hM.slot e he
  have hput : putTm tmR sz e.x.o.dst e.v = some (tmR.set de (some e.v)) := by
    rw [hde]
    have hb : Nat.blt de sz = true := by rw [Nat.blt_eq]; exact hlt
    show (bif Nat.blt de sz then PT.setK tmR de (some e.v) some else none) = _
    rw [hb, cond_true, PT.setK_eq]
  have hnames : ∀ id, e.names p id → p id ∨ (e.made ∧ id = e.nn) := fun id hid => e.names_or hid
  have hheap : ∀ id, (e.ob ≠ none → id ≠ e.nn) → (e.heap hpR).get id = hpR.get id := by
    intro id hid
    unfold DW.heap
    split
    · rename_i v ob hr'
      rw [PT.get_set_ne _ _ (hid (by unfold DW.ob; rw [hr']; simp))]
    · rfl
  have other : ∀ e' ∈ W, (Nat.lor d (2 ^ e.x.i)).testBit e'.x.i = false → d.testBit e'.x.i = false ∧ e.x.i ≠ e'.x.i := fun e' _ h => lor_false.1 h
  refine ⟨tmR.set de (some e.v), hs.inv, (hR.tmv.mono hs.agree hs.mono).put hput hv, fun id hid hid' => ?_, fun j hj => ?_, fun j hj => ?_, fun x hx hxd b hb => ?_, fun t ht => ?_, fun id hid => ?_, fun e' he' hd hob => ?_, fun e' he' hd hm => ?_⟩
  · rcases hnames id hid' with h | ⟨h1, h2⟩
    · exact hR.fresh id hid h
    · have := hM.lt e he h1
      omega
  · rcases lor_true.1 hj with h | rfl
    · exact hR.within j h
    · exact hM.listed e he
  · rcases hR.rest j hj with h | h
    · exact .inl (lor_true.2 (.inl h))
    · exact .inr h
  · rcases lor_true.1 hxd with h | h
    · exact lor_true.2 (.inl (hR.down x hx h b hb))
    · have := allOps_uniq (hM.op e he) hx h
      subst this
      exact lor_true.2 (.inl (hr b hb))
  · rw [rdTmp_set]
    by_cases h : t = de
    · rw [if_pos h, h, hval]
    · rw [if_neg h]
      refine hR.slots t fun e' he' hd' hdst => ?_
      by_cases hi : e.x.i = e'.x.i
      · have := hM.uniq e he e' he' hi
        subst this
        rw [hde] at hdst
        exact h (Option.some.inj hdst).symm
      · exact ht e' he' (lor_false.2 ⟨hd', hi⟩) hdst
  · by_cases h : e.ob ≠ none ∧ id = e.nn
    · obtain ⟨h1, rfl⟩ := h
      cases hob : e.ob with
      | none => exact absurd hob h1
      | some ob =>
        rw [hM.block e he ob hob]
        unfold DW.heap
        unfold DW.ob at hob
        split at hob
        · rename_i v ob' hr'
          subst hob
          rw [hr']
          simp only
          rw [PT.get_set_same]
        · cases hob
    · rw [hheap id fun h1 h2 => h ⟨h1, h2⟩]
      refine hR.heap id fun e' he' hd' hob hnn => ?_
      by_cases hi : e.x.i = e'.x.i
      · have := hM.uniq e he e' he' hi
        subst this
        exact h ⟨hob, hnn.symm⟩
      · exact hid e' he' (lor_false.2 ⟨hd', hi⟩) hob hnn
  · obtain ⟨q1, q2⟩ := other e' he' hd
    rw [hheap e'.nn fun h1 h2 => hM.nns e he e' he' q2 (DW.made_of h1) (DW.made_of hob) h2.symm]
    exact hR.gone e' he' q1 hob
  · obtain ⟨q1, q2⟩ := other e' he' hd
    intro h
    rcases hnames _ h with h | ⟨h1, h2⟩
    · exact hR.names e' he' q1 hm h
    · exact hM.nns e he e' he' q2 h1 hm h2.symm

/-- One of those that are outstanding is ready. -/
theorem some_ready : ∀ {W : List DW} (lag : DW → Prop), (W.Pairwise fun c e => e.x.m.testBit c.x.i = false) → (∀ e ∈ W, e.x.m.testBit e.x.i = false) → (∃ e ∈ W, lag e) → ∃ e ∈ W, lag e ∧ ∀ e' ∈ W, lag e' → e.x.m.testBit e'.x.i = false
  | [], _, _, _, ⟨_, h, _⟩ => nomatch h
  | c :: W, lag, ho, hs, h => by
    obtain ⟨ho1, ho2⟩ := List.pairwise_cons.1 ho
    by_cases hW : ∃ e ∈ W, lag e
    · obtain ⟨e, h1, h2, h3⟩ := some_ready lag ho2 (fun e he => hs e (List.mem_cons_of_mem _ he)) hW
      refine ⟨e, List.mem_cons_of_mem _ h1, h2, fun e' he' hl => ?_⟩
      rcases List.mem_cons.1 he' with rfl | he'
      · exact ho1 e h1
      · exact h3 e' he' hl
    · obtain ⟨e, he, hl⟩ := h
      rcases List.mem_cons.1 he with rfl | he
      · refine ⟨e, List.mem_cons_self .., hl, fun e' he' hl' => ?_⟩
        rcases List.mem_cons.1 he' with rfl | he'
        · exact hs _ (List.mem_cons_self ..)
        · exact absurd ⟨e', he', hl'⟩ hW
      · exact absurd ⟨e, he, hl⟩ hW

/-- Where nothing is ready, nothing is outstanding. -/
theorem Mach.none_out (hM : Mid C ops sz n0 l W tm hp nx) (hR : Mach C ops sz l d W tm tmR hp hpR nx ρ p a w) (hno : ∀ x ∈ allOps ops.toList 0, readyAt d x = false) : ∀ e ∈ W, d.testBit e.x.i = true := by
  intro e he
  cases hd : d.testBit e.x.i with
  | true => rfl
  | false =>
    obtain ⟨e₀, h1, h2, h3⟩ := some_ready (fun e => d.testBit e.x.i = false) hM.ord hM.self ⟨e, he, hd⟩
    have hr : readyAt d e₀.x = true := by
      refine readyAt_iff.2 ⟨h2, fun b hb => ?_⟩
      rcases hR.rest b (hM.down e₀.x (hM.op e₀ h1) (hM.listed e₀ h1) b hb) with h | ⟨e', he', rfl⟩
      · exact h
      · cases hd' : d.testBit e'.x.i with
        | true => rfl
        | false =>
          have := h3 e' he' hd'
          rw [hb] at this
          cases this
    rw [hno e₀.x (hM.op e₀ h1)] at hr
    cases hr

end steps
end Go.Ev
