/- Rules of the walk: a loop round by round, a scope jump by jump, an allocation's mark. -/
import Derived.Test.YtkdhkmcamojkiaaGreatDoorAop
namespace Go.Ev

section rules
variable {F : Fence} {n : Nat} {P : Program} {Q : Exit → Act → World → Prop} {a : Act} {w : World}

/-- A loop whose body is about to begin. -/
def loopAt (F : Fence) (n : Nat) (P : Program) (c : Code) (Q : Exit → Act → World → Prop) (a : Act) (w : World) : Prop :=
  ∀ (b : Frame) (k : List Item) (cs : List Frame), b.roundOf = F.round → F.fn b.fn → F.room (cs.length + 1 + n) →
    ∃ e a' w', Q e a' w' ∧ ArrivesIn (Machine.fenced P F) P (lone (b.atR a (.code c :: .inLoop c :: k)) cs w) b k cs e a' w'

theorem wpIn_loopAt {c : Code} (h : loopAt F n P c Q a w) : (Code.loop c).wpIn F n P Q a w := fun b k cs hro hb hr =>
  let ⟨e, a', w', hq, harr⟩ := h b k cs hro hb hr
  ⟨e, a', w', hq, .of_steps (.one (fenced_calm hb hr rfl) stepR_loop) harr⟩

theorem loopAt_round {c : Code} (h : c.wpIn F n P (Exit.then (loopAt F n P c Q) Q) a w) : loopAt F n P c Q a w := by
  intro b k cs hro hb hr
  obtain ⟨e, a₁, w₁, hq, harr⟩ := h b (.inLoop c :: k) cs hro hb hr
  cases e with
  | normal =>
    obtain ⟨e₂, a₂, w₂, hq₂, harr₂⟩ := hq b k cs hro hb hr
    exact ⟨e₂, a₂, w₂, hq₂, .of_steps (StepsIn.trans harr (.one (fenced_calm hb hr rfl) stepR_inLoop)) harr₂⟩
  | exit id => exact ⟨_, a₁, w₁, hq, .pass (x := .inLoop c) rfl (fun _ _ => .inl (by simp)) harr⟩
  | goto l => exact ⟨_, a₁, w₁, hq, .pass (x := .inLoop c) rfl (fun _ _ => .inl (by simp)) harr⟩
  | ret => exact ⟨_, a₁, w₁, hq, .pass (x := .inLoop c) rfl (fun _ _ => .inl (by simp)) harr⟩
  | panic ch => exact ⟨_, a₁, w₁, hq, .pass (x := .inLoop c) rfl (fun _ _ => .inl (by simp)) harr⟩
  | outgrown => exact ⟨_, a₁, w₁, hq, .pass (x := .inLoop c) rfl (fun _ _ => .inl (by simp)) harr⟩

theorem stepR_scope {b : Frame} {k : List Item} {cs : List Frame} {c : Code} : step P (lone (b.atR a (.code (.scope c) :: k)) cs w) = .next (lone (b.atR a (.code c :: .inScope c :: k)) cs w) :=
  step_lone_go (by simp [stepG, stepG.exec, Frame.atR])
theorem stepR_inScope {b : Frame} {k : List Item} {cs : List Frame} {c : Code} : step P (lone (b.atR a (.inScope c :: k)) cs w) = .next (lone (b.atR a k) cs w) :=
  step_lone_go (by simp [stepG, stepG.exec, Frame.atR])

/-- A scope of which the piece 'cur' is about to be run. -/
def scopeAt (F : Fence) (n : Nat) (P : Program) (c cur : Code) (Q : Exit → Act → World → Prop) (a : Act) (w : World) : Prop :=
  ∀ (b : Frame) (k : List Item) (cs : List Frame), b.roundOf = F.round → F.fn b.fn → F.room (cs.length + 1 + n) →
    ∃ e a' w', Q e a' w' ∧ ArrivesIn (Machine.fenced P F) P (lone (b.atR a (.code cur :: .inScope c :: k)) cs w) b k cs e a' w'

theorem wpIn_scopeAt {c : Code} (h : scopeAt F n P c c Q a w) : (Code.scope c).wpIn F n P Q a w := fun b k cs hro hb hr =>
  let ⟨e, a', w', hq, harr⟩ := h b k cs hro hb hr
  ⟨e, a', w', hq, .of_steps (.one (fenced_calm hb hr rfl) stepR_scope) harr⟩

def Exit.inScope (c : Code) (J : Code → Act → World → Prop) (Q : Exit → Act → World → Prop) : Exit → Act → World → Prop
  | .goto l, a, w => match findLabel c l with
    | some rest => J rest a w
    | none => Q (.goto l) a w
  | e, a, w => Q e a w

theorem scopeAt_piece {c cur : Code} (h : cur.wpIn F n P (Exit.inScope c (fun rest => scopeAt F n P c rest Q) Q) a w) : scopeAt F n P c cur Q a w := by
  intro b k cs hro hb hr
  obtain ⟨e, a₁, w₁, hq, harr⟩ := h b (.inScope c :: k) cs hro hb hr
  cases e with
  | normal => exact ⟨.normal, a₁, w₁, hq, StepsIn.trans harr (.one (fenced_calm hb hr rfl) stepR_inScope)⟩
  | exit id =>
    have hx : exitTo id (.inScope c :: k) = exitTo id k := rfl
    exact ⟨.exit id, a₁, w₁, hq, fun k' hk => harr.1 k' (by rw [hx]; exact hk), fun h1 h2 => harr.2 h1 (by rw [hx]; exact h2)⟩
  | goto l =>
    simp only [Exit.inScope] at hq
    cases hf : findLabel c l with
    | some rest =>
      rw [hf] at hq
      have hg : gotoIn l (.inScope c :: k) = some (.code rest :: .inScope c :: k) := by simp [gotoIn, hf]
      obtain ⟨e₂, a₂, w₂, hq₂, harr₂⟩ := hq b k cs hro hb hr
      exact ⟨e₂, a₂, w₂, hq₂, .of_steps (harr.1 _ hg) harr₂⟩
    | none =>
      rw [hf] at hq
      have hg : gotoIn l (.inScope c :: k) = gotoIn l k := by simp [gotoIn, hf]
      exact ⟨.goto l, a₁, w₁, hq, fun k' hk => harr.1 k' (by rw [hg]; exact hk), fun h1 h2 => harr.2 h1 (by rw [hg]; exact h2)⟩
  | ret => exact ⟨_, a₁, w₁, hq, harr⟩
  | panic ch => exact ⟨_, a₁, w₁, hq, harr⟩
  | outgrown => exact ⟨_, a₁, w₁, hq, harr⟩

end rules

/-! ### The marks of ranges over functions -/
section marks
variable {C : Ctx} {ρ ρ' : Env} {p p' : Nat → Prop} {hp hp' : Heap} {w w' : World}

/-- A block that no number names, not older than 'lo', with an open list of no calls. -/
def MarkAt (ρ : Env) (hp : Heap) (w : World) (lo r : Nat) : Prop :=
  lo ≤ r ∧ r < w.heap.size ∧ (∀ id o, hp.get id = some o → ρ.blk id ≠ r) ∧ w.heap[r]? = some (.deferred (some []))

def markOf (r : Nat) : Deferred := { target := .collected r, args := #[] }

/-- A list of marks. -/
def Marks (ρ : Env) (hp : Heap) (w : World) (lo : Nat) (ds : List Deferred) : Prop := ∃ rs : List Nat, ds = rs.map markOf ∧ rs.Nodup ∧ ∀ r ∈ rs, MarkAt ρ hp w lo r

theorem Marks.nil (ρ : Env) (hp : Heap) (w : World) (lo : Nat) : Marks ρ hp w lo [] := ⟨[], rfl, .nil, fun _ h => nomatch h⟩

theorem MarkAt.step {lo r : Nat} (h : MarkAt ρ hp w lo r) (hs : Step C ρ p hp w ρ' p' hp' w') : MarkAt ρ' hp' w' lo r := by
  obtain ⟨h1, h2, h3, h4⟩ := h
  refine ⟨h1, Nat.lt_of_lt_of_le h2 hs.grow, fun id o ho e => ?_, by rw [hs.frame r h2 h3]; exact h4⟩
  rcases hs.orig id o ho with hge | ⟨id₀, o₀, q1, q2⟩
  · omega
  · exact h3 id₀ o₀ q1 (q2.trans e)

theorem Marks.step {lo : Nat} {ds : List Deferred} (h : Marks ρ hp w lo ds) (hs : Step C ρ p hp w ρ' p' hp' w') : Marks ρ' hp' w' lo ds := by
  obtain ⟨rs, h1, h2, h3⟩ := h
  exact ⟨rs, h1, h2, fun r hr => (h3 r hr).step hs⟩

/-- Marks, and later marks before them. -/
theorem Marks.append {lo lo' : Nat} {ds ds' : List Deferred} (h : Marks ρ hp w lo ds) (h' : Marks ρ hp w lo' ds') (hlt : ∀ r, MarkAt ρ hp w lo r → markOf r ∈ ds → r < lo') (hle : lo ≤ lo') : Marks ρ hp w lo (ds' ++ ds) := by
  obtain ⟨rs, rfl, h2, h3⟩ := h
  obtain ⟨rs', rfl, h2', h3'⟩ := h'
  refine ⟨rs' ++ rs, by simp, ?_, fun r hr => ?_⟩
  · rw [List.nodup_append]
    refine ⟨h2', h2, fun x hx y hy e => ?_⟩
    subst e
    have := hlt x (h3 x hy) (List.mem_map.2 ⟨x, hy, rfl⟩)
    have := (h3' x hx).1
    omega
  · rcases List.mem_append.1 hr with h | h
    · obtain ⟨q1, q2⟩ := h3' r h
      exact ⟨Nat.le_trans hle q1, q2⟩
    · exact h3 r h

/-- A block that no number names is turned. -/
theorem Step.touch (h : Step C ρ p hp w ρ' p' hp' w') {r : Nat} {o : Obj} (hr : w.heap.size ≤ r) (hno : ∀ id o, hp'.get id = some o → ρ'.blk id ≠ r) (hw0 : C.w0.heap.size ≤ w.heap.size) :
    Step C ρ p hp w ρ' p' hp' { w' with heap := w'.heap.setIfInBounds r o } := by
  have hget : ∀ b : Nat, b ≠ r → (w'.heap.setIfInBounds r o)[b]? = w'.heap[b]? := fun b hb => Array.getElem?_setIfInBounds_ne (fun x => hb x.symm)
  refine ⟨⟨fun id ob ho => ?_, h.inv.inj, h.inv.own, fun b hb => ?_, by simpa using h.inv.size, h.inv.atom⟩, h.agree, h.mono, by simpa using h.grow, fun b hb hn => ?_, h.orig, h.same⟩
  · obtain ⟨q1, q2, o', q3, q4⟩ := h.inv.sat id ob ho
    exact ⟨q1, q2, o', by show (w'.heap.setIfInBounds r o)[ρ'.blk id]? = _; rw [hget _ (hno id ob ho)]; exact q3, q4⟩
  · show (w'.heap.setIfInBounds r o)[b]? = _
    rw [hget b (by omega)]
    exact h.inv.old b hb
  · show (w'.heap.setIfInBounds r o)[b]? = _
    rw [hget b (by omega)]
    exact h.frame b hb hn

theorem run_takeDeferred {P : Program} {r : Nat} (h : w.heap[r]? = some (.deferred (some []))) : (Instr.takeDeferred r).run P w = .ok [] { w with heap := w.heap.setIfInBounds r (.deferred none) } := by
  simp only [Instr.takeDeferred, Sem.run_bind, run_getObj h (by simp), Result.andThen_ok, Go.setObj, Sem.run, h, Sem.run_pure]

end marks
end Go.Ev
