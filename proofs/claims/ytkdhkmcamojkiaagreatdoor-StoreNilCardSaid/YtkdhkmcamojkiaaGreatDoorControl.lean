/- THE WALK: what 'run' says of a task is what the machine does. Here: what is to be shown of a task; the pieces but drawn regions. -/
import Derived.Test.YtkdhkmcamojkiaaGreatDoorRules
import Derived.RangeFuncCalls
namespace Go.Ev

section control
variable {C : Ctx}

def Fresh (p : Nat → Prop) (nx : Nat) : Prop := ∀ id, nx ≤ id → ¬ p id

theorem Fresh.more {p : Nat → Prop} {nx nx' : Nat} (h : Fresh p nx) (hle : nx ≤ nx') : Fresh (more p nx nx') nx' := fun id hid hm => by
  rcases hm with h1 | ⟨_, h2⟩
  · exact h id (Nat.le_trans hle hid) h1
  · omega

theorem more_trans {p : Nat → Prop} {a b c : Nat} (h1 : a ≤ b) (h2 : b ≤ c) : more (more p a b) b c = more p a c := by
  funext id
  apply propext
  constructor
  · rintro ((h | ⟨x, y⟩) | ⟨x, y⟩)
    · exact .inl h
    · exact .inr ⟨x, by omega⟩
    · exact .inr ⟨by omega, y⟩
  · rintro (h | ⟨x, y⟩)
    · exact .inl (.inl h)
    · by_cases hb : id < b
      · exact .inl (.inr ⟨x, hb⟩)
      · exact .inr ⟨by omega, y⟩

theorem more_refl {p : Nat → Prop} {a : Nat} : more p a a = p := by
  funext id
  exact propext ⟨more_same, more_left⟩

/-- The fence of an activation: wide; in a round of l, that. -/
def FOk (F : Fence) (ρ : Env) (p : Nat → Prop) : Option Nat → Prop
  | none => F = Fence.wide
  | some l => p l ∧ F = Fence.wide.inRound (ρ.blk l)

theorem FOk.step {F : Fence} {ρ ρ' : Env} {p p' : Nat → Prop} {ro : Option Nat} (h : FOk F ρ p ro) (ha : Env.agree p ρ ρ') (hm : ∀ id, p id → p' id) : FOk F ρ' p' ro := by
  cases ro with
  | none => exact h
  | some l => exact ⟨hm l h.1, by rw [(ha.2 l h.1).1]; exact h.2⟩

theorem FOk.fn {F : Fence} {ρ : Env} {p : Nat → Prop} {ro : Option Nat} (h : FOk F ρ p ro) (f : FuncId) : F.fn f := by
  cases ro with
  | none => rw [show F = Fence.wide from h]; trivial
  | some l => rw [h.2]; trivial
theorem FOk.depth {F : Fence} {ρ : Env} {p : Nat → Prop} {ro : Option Nat} (h : FOk F ρ p ro) : F.depth = none := by
  cases ro with
  | none => rw [show F = Fence.wide from h]; rfl
  | some l => rw [h.2]; rfl
theorem FOk.nodepth {F : Fence} {ρ : Env} {p : Nat → Prop} {ro : Option Nat} (h : FOk F ρ p ro) {n : Nat} : F.depth.isSome = true → 1 ≤ n := by
  rw [h.depth]; intro x; cases x
theorem FOk.calls {F : Fence} {ρ : Env} {p : Nat → Prop} {ro : Option Nat} (h : FOk F ρ p ro) {n : Nat} {P : Program} {f : FuncId} {args : Array Value} {w : World} {R : Ending → World → Prop}
    (hc : CallsIn Fence.wide n P f args w R) : CallsIn F n P f args w R := by
  cases ro with
  | none => rw [show F = Fence.wide from h]; exact hc
  | some l => rw [h.2]; exact hc.inRound _

/-- Where a piece of code may leave the activation and the world. -/
structure Post (C : Ctx) (ρ : Env) (p : Nat → Prop) (hp : Heap) (w : World) (a : Act) (sz nx nx' : Nat) (tm' : PT AV) (hp' : Heap) (ρ' : Env) (a' : Act) (w' : World) : Prop where
  step : Step C ρ p hp w ρ' (more p nx nx') hp' w'
  tm : Tm ρ' (more p nx nx') tm' sz a'.tmps
  marks : ∃ ms, a'.defers = ms ++ a.defers ∧ Marks ρ' hp' w' w.heap.size ms

theorem Post.trans {ρ ρ' ρ'' : Env} {p : Nat → Prop} {hp hp' hp'' : Heap} {w w' w'' : World} {a a' a'' : Act} {sz nx n1 n2 : Nat} {tm' tm'' : PT AV} (h1 : nx ≤ n1) (h2 : n1 ≤ n2)
    (h : Post C ρ p hp w a sz nx n1 tm' hp' ρ' a' w') (h' : Post C ρ' (more p nx n1) hp' w' a' sz n1 n2 tm'' hp'' ρ'' a'' w'') : Post C ρ p hp w a sz nx n2 tm'' hp'' ρ'' a'' w'' := by
  have hs := h'.step
  have ht := h'.tm
  rw [more_trans h1 h2] at hs ht
  refine ⟨h.step.trans hs, ht, ?_⟩
  obtain ⟨ms, e1, m1⟩ := h.marks
  obtain ⟨ms', e2, m2⟩ := h'.marks
  refine ⟨ms' ++ ms, by rw [e2, e1, List.append_assoc], ?_⟩
  have m1' := m1.step hs
  obtain ⟨rs, rfl, nd, hrs⟩ := m1
  obtain ⟨rs', rfl, nd', hrs'⟩ := m2
  refine ⟨rs' ++ rs, by simp, ?_, fun r hr => ?_⟩
  · rw [List.nodup_append]
    refine ⟨nd', nd, fun x hx y hy e => ?_⟩
    subst e
    have q1 := (hrs x hy).2.1
    have q2 := (hrs' x hx).1
    omega
  · rcases List.mem_append.1 hr with h0 | h0
    · obtain ⟨q1, q2⟩ := hrs' r h0
      exact ⟨Nat.le_trans h.step.grow q1, q2⟩
    · exact (hrs r h0).step hs

theorem Post.refl {ρ : Env} {p : Nat → Prop} {hp : Heap} {w : World} {a : Act} {sz nx : Nat} {tm : PT AV} (hi : Inv C ρ p hp w) (htm : Tm ρ p tm sz a.tmps) : Post C ρ p hp w a sz nx nx tm hp ρ a w := by
  refine ⟨?_, ?_, [], rfl, .nil _ _ _ _⟩
  · rw [more_refl]; exact .refl hi rfl (.refl _) fun _ x => x
  · rw [more_refl]; exact htm

def X.conc : X → Exit
  | .normal => .normal
  | .exit id => .exit id
  | .goto l => .goto l
  | .ret => .ret

/-- A call's contract, as the evaluator tells it. -/
def CallOk (C : Ctx) (fn : Nat) (args : List AV) (hp : Heap) (nx : Nat) (v : AV) (hp' : Heap) (nx' : Nat) : Prop :=
  nx ≤ nx' ∧ (∃ i, C.P.funcs[fn]? = some i ∧ i.body.isSome = true) ∧ ∀ (n : Nat) (ρ : Env) (p : Nat → Prop) (w : World), Inv C ρ p hp w → Fresh p nx → oks ρ p args →
    CallsIn Fence.wide n C.P fn (concs ρ args).toArray w fun e w' => ∃ ρ', e = .returned (v.conc ρ') ∧ v.ok ρ' (more p nx nx') ∧ Step C ρ p hp w ρ' (more p nx nx') hp' w'

/-- A round's contract. -/
def RoundOk (C : Ctx) (l : Nat) (args : List AV) (hp : Heap) (nx : Nat) (v : AV) (hp' : Heap) (nx' : Nat) : Prop :=
  nx ≤ nx' ∧ ∀ (F : Fence) (ro : Option Nat) (n : Nat) (ρ : Env) (p : Nat → Prop) (w : World), FOk F ρ p ro → Inv C ρ p hp w → Fresh p nx → p l → oks ρ p args →
    ∃ f tmps assign body, (Instr.yield (ρ.blk l) (concs ρ args).toArray).run C.P w = .ok (.round (ρ.blk l) f tmps assign body) w ∧
      RoundIn F n C.P (ρ.blk l) f tmps assign body w fun e w' => ∃ ρ', e = .returned (v.conc ρ') ∧ v.ok ρ' (more p nx nx') ∧ Step C ρ p hp w ρ' (more p nx nx') hp' w'

/-- The common form: from the state before a piece, by the rule G, into Q. -/
def PieceOk (C : Ctx) (ro : Option Nat) (sz : Nat) (tm : PT AV) (hp : Heap) (nx : Nat) (tm' : PT AV) (hp' : Heap) (nx' : Nat)
    (G : Fence → Nat → (Exit → Act → World → Prop) → Act → World → Prop) (K : Fence → Nat → (Exit → Act → World → Prop) → Act → World → Prop) : Prop :=
  nx ≤ nx' ∧ ∀ (F : Fence) (n : Nat) (ρ : Env) (p : Nat → Prop) (w : World) (a : Act) (Q : Exit → Act → World → Prop), FOk F ρ p ro → Inv C ρ p hp w → Fresh p nx → Tm ρ p tm sz a.tmps →
    (∀ ρ' a' w', Post C ρ p hp w a sz nx nx' tm' hp' ρ' a' w' → K F n Q a' w') → G F n Q a w

/-- A region's operations from the list l on. -/
def opsWp (C : Ctx) (ops : Array Oper) (l : List Oper) (F : Fence) (n : Nat) (Q : Exit → Act → World → Prop) (a : Act) (w : World) : Prop :=
  ∀ is : List Nat, is.map (ops[·]?) = l.map some → wpOpsIn F n C.P ops Q is a w

/-- WHAT IS TO BE SHOWN OF A TASK AND ITS RESULT. -/
def Good (C : Ctx) : Task → Res → Prop
  | .code ro c sz tm hp nx, .out x tm' hp' nx' => PieceOk C ro sz tm hp nx tm' hp' nx' (fun F n Q => c.wpIn F n C.P Q) (fun _ _ Q => Q x.conc)
  | .loop ro b _ sz tm hp nx, .out x tm' hp' nx' => PieceOk C ro sz tm hp nx tm' hp' nx' (fun F n Q => loopAt F n C.P b Q) (fun F n Q => match x with | .normal => loopAt F n C.P b Q | x => Q x.conc)
  | .scope ro b cur _ sz tm hp nx, .out x tm' hp' nx' => PieceOk C ro sz tm hp nx tm' hp' nx' (fun F n Q => scopeAt F n C.P b cur Q)
      (fun F n Q => match x with | .goto l => (match findLabel b l with | some rest => scopeAt F n C.P b rest Q | none => Q (.goto l)) | x => Q x.conc)
  | .ops ops l sz tm hp nx, .out x tm' hp' nx' => x = .normal ∧ ∀ ro, PieceOk C ro sz tm hp nx tm' hp' nx' (opsWp C ops l) (fun _ _ Q => Q .normal)
  | .call fn args hp nx, .val v hp' nx' => CallOk C fn args hp nx v hp' nx'
  | .round l args hp nx, .val v hp' nx' => RoundOk C l args hp nx v hp' nx'
  | _, _ => False

end control
end Go.Ev
