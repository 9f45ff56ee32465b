/- Drawn regions: an outstanding operation, done at last. -/
import Derived.Test.YtkdhkmcamojkiaaGreatDoorPlan
namespace Go.Ev

/-- An outstanding operation: its number, what it came to (none: it was not wanted). -/
structure DW where
  x : WS
  nn : Nat
  r : Option OpR

def DW.v (e : DW) : AV := match e.r with
  | some (.val v) => v
  | some (.new v _) => v
  | _ => .undef
def DW.ob (e : DW) : Option AObj := match e.r with
  | some (.new _ ob) => ob
  | _ => none
def DW.made (e : DW) : Prop := ∃ v ob, e.r = some (.new v ob)
def DW.names (e : DW) (p : Nat → Prop) : Nat → Prop := match e.r with
  | some (.new _ _) => more p e.nn (e.nn + 1)
  | _ => p
def DW.heap (e : DW) (hp : Heap) : Heap := match e.r with
  | some (.new _ (some o)) => hp.set e.nn (some o)
  | _ => hp

/-- What is known of an operation's result. -/
def resOk (T : Tabs) (ops : Array Oper) (tm : PT AV) (hp : Heap) (o : Oper) (nn : Nat) : Option OpR → Prop
  | none => wantedA ops tm o.guard = false
  | some r => wantedA ops tm o.guard = true ∧ aop T o.op tm hp nn = some r ∧ ∃ v, r = .val v ∨ ∃ ob, r = .new v ob

theorem evalO_congr {tm tm' : PT AV} {ops : Array Oper} {o : Oper} (h : ∀ t ∈ o.looksAt ops, rdTmp tm t = rdTmp tm' t) : ∀ x ∈ o.op.operands, evalO tm x = evalO tm' x := by
  intro x hx
  cases x with
  | tmp t =>
    simp only [evalO]
    rw [h t (List.mem_append_left _ (List.mem_filterMap.2 ⟨.tmp t, by simpa using hx, rfl⟩))]
  | const v => rfl
  | global g => rfl
  | func f => rfl

theorem wantedA_congr {tm tm' : PT AV} {ops : Array Oper} {o : Oper} (h : ∀ t ∈ o.looksAt ops, rdTmp tm t = rdTmp tm' t) : wantedA ops tm o.guard = wantedA ops tm' o.guard := by
  unfold wantedA
  cases hg : o.guard with
  | none => rfl
  | some g =>
    obtain ⟨j, want⟩ := g
    simp only
    cases hd : (ops[j]?).bind (·.dst) with
    | none => rfl
    | some t =>
      simp only
      rw [h t (List.mem_append_right _ (by rw [hg]; simp [hd]))]

/-- What the evaluator knows in the midst of a region: 'l': what it has taken; W: what may be outstanding in the machine, the newest first; n0: the next number as the region began. -/
structure Mid (C : Ctx) (ops : Array Oper) (sz n0 l : Nat) (W : List DW) (tm : PT AV) (hp : Heap) (nx : Nat) : Prop where
  bound : ∀ j, l.testBit j = true → j < ops.size
  down : ∀ x ∈ allOps ops.toList 0, l.testBit x.i = true → ∀ b, x.m.testBit b = true → l.testBit b = true
  op : ∀ e ∈ W, e.x ∈ allOps ops.toList 0
  kind : ∀ e ∈ W, kindOp C.T e.x.o.op ≠ .eff
  listed : ∀ e ∈ W, l.testBit e.x.i = true
  slot : ∀ e ∈ W, ∃ d, e.x.o.dst = some d ∧ d < sz ∧ rdTmp tm d = e.v
  res : ∀ e ∈ W, resOk C.T ops tm hp e.x.o e.nn e.r
  block : ∀ e ∈ W, ∀ ob, e.ob = some ob → hp.get e.nn = some ob
  lt : ∀ e ∈ W, e.made → e.nn < nx
  ge : ∀ e ∈ W, e.made → n0 ≤ e.nn
  uniq : ∀ e ∈ W, ∀ e' ∈ W, e.x.i = e'.x.i → e = e'
  nns : ∀ e ∈ W, ∀ e' ∈ W, e.x.i ≠ e'.x.i → e.made → e'.made → e.nn ≠ e'.nn
  dsts : ∀ e ∈ W, ∀ e' ∈ W, e.x.i ≠ e'.x.i → e.x.o.dst ≠ e'.x.o.dst
  looks : ∀ e ∈ W, ∀ e' ∈ W, ∀ d, e.x.o.dst = some d → d ∈ e'.x.o.looksAt ops → e'.x.m.testBit e.x.i = true
  ord : W.Pairwise fun c e => e.x.m.testBit c.x.i = false
  self : ∀ e ∈ W, e.x.m.testBit e.x.i = false
  top : ∀ id, nx ≤ id → hp.get id = none

/-- Where the machine stands: 'd': what it has done; an entry of W that d lacks is outstanding. -/
structure Mach (C : Ctx) (ops : Array Oper) (sz l d : Nat) (W : List DW) (tm tmR : PT AV) (hp hpR : Heap) (nx : Nat) (ρ : Env) (p : Nat → Prop) (a : Act) (w : World) : Prop where
  inv : Inv C ρ p hpR w
  tmv : Tm ρ p tmR sz a.tmps
  fresh : Fresh p nx
  within : ∀ j, d.testBit j = true → l.testBit j = true
  rest : ∀ j, l.testBit j = true → d.testBit j = true ∨ ∃ e ∈ W, e.x.i = j
  down : ∀ x ∈ allOps ops.toList 0, d.testBit x.i = true → ∀ b, x.m.testBit b = true → d.testBit b = true
  slots : ∀ t, (∀ e ∈ W, d.testBit e.x.i = false → e.x.o.dst ≠ some t) → rdTmp tmR t = rdTmp tm t
  heap : ∀ id, (∀ e ∈ W, d.testBit e.x.i = false → e.ob ≠ none → e.nn ≠ id) → hpR.get id = hp.get id
  gone : ∀ e ∈ W, d.testBit e.x.i = false → e.ob ≠ none → hpR.get e.nn = none
  names : ∀ e ∈ W, d.testBit e.x.i = false → e.made → ¬ p e.nn

theorem DW.made_of {e : DW} (h : e.ob ≠ none) : e.made := by
  unfold DW.ob at h
  split at h
  · rename_i v ob hr; exact ⟨v, ob, hr⟩
  · exact absurd rfl h

section drawn
variable {C : Ctx}

/-- AN OUTSTANDING OPERATION IS DONE. -/
theorem ent_run (hC : C.Ok) {ops : Array Oper} {sz n : Nat} {F : Fence} {ro : Option Nat} {ρ : Env} {p : Nat → Prop} {tm tmR : PT AV} {hp hpR : Heap} {w : World} {a : Act} {e : DW} {K : Act → World → Prop} {Q : Exit → Act → World → Prop}
    (hF : FOk F ρ p ro) (hi : Inv C ρ p hpR w) (htm : Tm ρ p tmR sz a.tmps) (ho : ops[e.x.i]? = some e.x.o) (hk : kindOp C.T e.x.o.op ≠ .eff)
    (hres : resOk C.T ops tm hp e.x.o e.nn e.r)
    (hlook : ∀ t ∈ e.x.o.looksAt ops, rdTmp tmR t = rdTmp tm t) (hheap : ∀ id o, p id → hp.get id = some o → hpR.get id = some o) (hnew : e.made → ¬ p e.nn) (hex : ∃ n₀, ¬ p n₀)
    (hK : ∀ ρ' w', Step C ρ p hpR w ρ' (e.names p) (e.heap hpR) w' → e.v.ok ρ' (e.names p) → K (a.put e.x.o.dst (e.v.conc ρ')) w') : wpOpIn F n C.P ops Q e.x.i K a w := by
  have hw := wantedA_sound hC hi htm ops e.x.o
  rw [wantedA_congr hlook] at hw
  unfold wpOpIn
  simp only [ho]
  obtain ⟨x, nn, r⟩ := e
  simp only at *
  cases r with
  | none =>
    have hres : wantedA ops tm x.o.guard = false := hres
    rw [hres] at hw
    rw [hw]
    simp only [Bool.false_eq_true, if_false]
    exact ⟨fun f _ => hF.fn f, hK ρ w (.refl hi rfl (.refl _) fun _ x => x) trivial⟩
  | some r =>
    obtain ⟨h1, h2, v, hv⟩ := hres
    rw [h1] at hw
    rw [hw, if_pos rfl]
    refine ⟨fun f _ => hF.fn f, ?_⟩
    have hc := evalO_congr hlook
    have h3 : aop C.T x.o.op tmR hpR nn = some r := by
      rw [← aop_congr hc] at h2
      cases hkk : kindOp C.T x.o.op with
      | pure => rw [aop_heap (hp' := hp) (.inl hkk)]; exact h2
      | make => rw [aop_heap (hp' := hp) (.inr hkk)]; exact h2
      | eff => exact absurd hkk hk
      | read =>
        refine aop_read hkk h2 fun y hy u b o hu hm hb => hheap b o ?_ hb
        obtain ⟨_, hok⟩ := evalO_some htm hu
        cases u <;> simp only [ment, reduceCtorEq, Option.some.injEq] at hm
        · subst hm; exact hok
        · subst hm; exact hok.1
        · subst hm; exact hok
    rw [Oper.semAt_eq _ _ _ (aop_nodefer h3)]
    rcases hv with rfl | ⟨ob, rfl⟩
    · obtain ⟨n₀, hn₀⟩ := hex
      have hpr : kindOp C.T x.o.op = .pure ∨ kindOp C.T x.o.op = .read := by
        cases hkk : kindOp C.T x.o.op with
        | pure => exact .inl rfl
        | read => exact .inr rfl
        | eff => exact absurd hkk hk
        | make =>
          obtain ⟨_, _, h0, _⟩ := aop_make hkk h3
          cases h0
      have hg := aop_sound hC (hi.fine hC.fine) hi htm hn₀ (aop_value (nx' := n₀) hpr h3).2 (fun f as e => nomatch e)
      obtain ⟨q1, q2⟩ := hg
      rw [q1]
      exact hK ρ w (.refl hi rfl (.refl _) fun _ x => x) q2
    · have hg := aop_sound hC (hi.fine hC.fine) hi htm (hnew ⟨v, ob, rfl⟩) h3 (fun f as e => nomatch e)
      cases ob with
      | none =>
        obtain ⟨ρ', w', q1, q2, q3⟩ := hg
        rw [q1]
        exact hK ρ' w' q3 q2
      | some ob =>
        obtain ⟨ρ', w', q1, q2, q3⟩ := hg
        rw [q1]
        exact hK ρ' w' q3 q2

/-- A ready entry sees the evaluator's slots. -/
theorem Mach.look {ops : Array Oper} {sz n0 l d nx : Nat} {W : List DW} {tm tmR : PT AV} {hp hpR : Heap} {ρ : Env} {p : Nat → Prop} {a : Act} {w : World} (hM : Mid C ops sz n0 l W tm hp nx) (hR : Mach C ops sz l d W tm tmR hp hpR nx ρ p a w)
    {e : DW} (he : e ∈ W) (hr : ∀ b, e.x.m.testBit b = true → d.testBit b = true) : ∀ t ∈ e.x.o.looksAt ops, rdTmp tmR t = rdTmp tm t := fun t ht =>
  hR.slots t fun e' he' hd' hdst => by
    have := hr _ (hM.looks e' he' e he t hdst ht)
    rw [this] at hd'
    cases hd'

/-- What the machine may name, it has as the evaluator has it. -/
theorem Mach.heaps {ops : Array Oper} {sz l d nx : Nat} {W : List DW} {tm tmR : PT AV} {hp hpR : Heap} {ρ : Env} {p : Nat → Prop} {a : Act} {w : World} (hR : Mach C ops sz l d W tm tmR hp hpR nx ρ p a w) :
    ∀ id o, p id → hp.get id = some o → hpR.get id = some o := fun id o hid ho => by
  rw [hR.heap id fun e he hd hob hnn => ?_]
  · exact ho
  · exact hR.names e he hd (DW.made_of hob) (hnn ▸ hid)

end drawn
end Go.Ev
