/- The tables hold of the program: each type's row held against the program's own, by the kernel; the functions without a body; the world in which strconv.ErrSyntax is an error. -/
import Derived.Test.YtkdhkmcamojkiaaGreatDoorHooks
import Derived.Test.YtkdhkmcamojkiaaGreatDoorKnown
import Derived.KernelRfl
namespace Go.Ev

def PT.allAt {α : Type} (f : Nat → α → Bool) : PT α → (Nat → Nat) → Bool
  | .leaf, _ => true
  | .node v l r, g => (match v with | some x => f (g 0) x | none => true) && (PT.allAt f l (fun j => g (2 * j + 1)) && PT.allAt f r (fun j => g (2 * j + 2)))

theorem PT.allAt_get {α : Type} {f : Nat → α → Bool} : ∀ {t : PT α} {g : Nat → Nat} {k : Nat} {x : α}, PT.allAt f t g = true → t.get k = some x → f (g k) x = true
  | .leaf, _, _, _, _, h => nomatch h
  | .node v l r, g, k, x, ha, h => by
    simp only [PT.allAt, Bool.and_eq_true] at ha
    obtain ⟨h1, h2, h3⟩ := ha
    cases k with
    | zero =>
      have h : v = some x := h
      subst h
      exact h1
    | succ m =>
      have h : (bif Nat.beq (m % 2) 0 then l.get (m / 2) else r.get (m / 2)) = some x := h
      cases hb : Nat.beq (m % 2) 0 with
      | true =>
        rw [hb, cond_true] at h
        have := PT.allAt_get h2 h
        have hm := Nat.eq_of_beq_eq_true hb
        rw [show 2 * (m / 2) + 1 = m + 1 by omega] at this
        exact this
      | false =>
        rw [hb, cond_false] at h
        have := PT.allAt_get h3 h
        have hm := Nat.ne_of_beq_eq_false hb
        rw [show 2 * (m / 2) + 2 = m + 1 by omega] at this
        exact this

def constB (v : Value) (a : AV) : Bool := match ofConst v with
  | some x => eq1 x a
  | none => false
def zeroL : List Value → List AV → Bool
  | [], [] => true
  | v :: vs, a :: l => constB v a && zeroL vs l
  | _, _ => false
def zeroB (z : Value) (a : AV) : Bool := match z, a with
  | .agg cs, .agg l => zeroL cs.toList l
  | v, a => constB v a

theorem constB_spec {v : Value} {a : AV} (h : constB v a = true) (ρ : Env) : v = a.conc ρ := by
  unfold constB at h
  split at h
  · rename_i x hx
    rw [← eq1_eq h]
    exact (ofConst_conc hx ρ fun _ => True).1.symm
  · cases h
theorem zeroL_spec : ∀ {vs : List Value} {l : List AV}, zeroL vs l = true → ∀ ρ : Env, vs = concs ρ l
  | [], [], _, _ => rfl
  | [], _ :: _, h, _ => nomatch h
  | _ :: _, [], h, _ => nomatch h
  | v :: vs, a :: l, h, ρ => by
    simp only [zeroL, Bool.and_eq_true] at h
    simp only [concs]
    rw [← constB_spec h.1 ρ, ← zeroL_spec h.2 ρ]
theorem zeroB_spec {z : Value} {a : AV} (h : zeroB z a = true) (ρ : Env) : z = a.conc ρ := by
  unfold zeroB at h
  split at h
  · simp only [AV.conc]
    rw [← zeroL_spec h ρ]
  · exact constB_spec h ρ

def fieldsB (P : Program) : List (Nat × Nat × Bool) → List Field → Bool
  | [], [] => true
  | (off, size, agg) :: fs, f :: l => Nat.beq off f.offset && ((match P.info? f.type with | some inf => Nat.beq inf.size size | none => false) && (beqB (isAggB P f.type) agg && ((P.underlying f.type).isSome && fieldsB P fs l)))
  | _, _ => false

theorem fieldsB_spec {P : Program} : ∀ {fs : List (Nat × Nat × Bool)} {l : List Field}, fieldsB P fs l = true → fs.length = l.length ∧
    ∀ (i : Nat) f, l[i]? = some f → ∃ size agg, fs[i]? = some (f.offset, size, agg) ∧ (∃ inf, P.info? f.type = some inf ∧ inf.size = size) ∧ isAggB P f.type = agg ∧ ∃ d, P.underlying f.type = some d
  | [], [], _ => ⟨rfl, fun i f h => by simp at h⟩
  | [], _ :: _, h => nomatch h
  | _ :: _, [], h => nomatch h
  | (off, size, agg) :: fs, f :: l, h => by
    simp only [fieldsB, Bool.and_eq_true] at h
    obtain ⟨h1, h2, h3, h4, h5⟩ := h
    obtain ⟨q1, q2⟩ := fieldsB_spec h5
    refine ⟨by simp [q1], fun i f' hf => ?_⟩
    cases i with
    | succ i => exact q2 i f' (by simpa using hf)
    | zero =>
      have hf : f = f' := by simpa using hf
      subst hf
      have h1 := Nat.eq_of_beq_eq_true h1
      refine ⟨size, agg, by rw [h1]; rfl, ?_, by rw [beqB_eq, beq_iff_eq] at h3; exact h3, Option.isSome_iff_exists.1 h4⟩
      split at h2
      · rename_i inf hi
        exact ⟨inf, hi, Nat.eq_of_beq_eq_true h2⟩
      · cases h2

def descB (P : Program) (d : TyD) (t : TypeDesc) : Bool := match d, t with
  | .bool, .bool => true
  | .int k, .int k' => kindEq k k'
  | .string, .string => true
  | .slice e, .slice e' => Nat.beq e e'
  | .array n e, .array n' e' => Nat.beq n n' && Nat.beq e e'
  | .struct fs, .struct l => fieldsB P fs l.toList
  | .map k e, .map k' e' => Nat.beq k k' && Nat.beq e e'
  | .ptr e, .pointer e' => Nat.beq e e'
  | .func, .func .. => true
  | .iface, .interface _ => true
  | .uptr, .unsafePointer => true
  | .other, .interface _ => false
  | .other, _ => true
  | _, _ => false

theorem descB_spec {P : Program} {d : TyD} {t : TypeDesc} (h : descB P d t = true) : TyD.rel P d t := by
  unfold descB at h
  split at h
  · rfl
  · simp only [TyD.rel]; rw [kindEq_eq h]
  · rfl
  · simp only [TyD.rel]; rw [Nat.eq_of_beq_eq_true h]
  · rw [Bool.and_eq_true] at h
    simp only [TyD.rel]; rw [Nat.eq_of_beq_eq_true h.1, Nat.eq_of_beq_eq_true h.2]
  · rename_i fs l
    obtain ⟨q1, q2⟩ := fieldsB_spec h
    exact ⟨l, rfl, by simpa using q1, fun i f hf => q2 i f (by rw [Array.getElem?_toList]; exact hf)⟩
  · rw [Bool.and_eq_true] at h
    simp only [TyD.rel]; rw [Nat.eq_of_beq_eq_true h.1, Nat.eq_of_beq_eq_true h.2]
  · simp only [TyD.rel]; rw [Nat.eq_of_beq_eq_true h]
  · exact ⟨_, _, _, rfl⟩
  · exact ⟨_, rfl⟩
  · rfl
  · cases h
  · rename_i hno
    intro ms e
    exact hno ms e
  · cases h

def tyOkB (P : Program) (t : Nat) (i : TyI) : Bool :=
  (match P.info? t with
   | some inf => Nat.beq inf.size i.size && (Nat.beq inf.bytes i.bytes && (beqB inf.comparable i.cmp && (match inf.zero with | some z => zeroB z (zeroOf i) | none => false)))
   | none => false) &&
  (Nat.beq i.zero.length i.size && (grounds i.zero && ((bif i.agg then true else match i.zero with | [v] => oneCell v | _ => false) && (beqB (isAggB P t) i.agg &&
  (match P.underlying t with | some d => descB P i.desc d | none => false)))))

theorem tyOkB_spec {P : Program} {t : Nat} {i : TyI} (h : tyOkB P t i = true) : TyOk P t i := by
  unfold tyOkB at h
  simp only [Bool.and_eq_true] at h
  obtain ⟨h1, h2, h3, h4, h5, h6⟩ := h
  refine ⟨?_, Nat.eq_of_beq_eq_true h2, h3, ?_, by rw [beqB_eq, beq_iff_eq] at h5; exact h5, ?_⟩
  · split at h1
    · rename_i inf hi
      simp only [Bool.and_eq_true] at h1
      obtain ⟨k1, k2, k3, k4⟩ := h1
      refine ⟨inf, hi, Nat.eq_of_beq_eq_true k1, Nat.eq_of_beq_eq_true k2, by rw [beqB_eq, beq_iff_eq] at k3; exact k3, fun ρ => ?_⟩
      split at k4
      · rename_i z hz
        rw [hz, zeroB_spec k4 ρ]
      · cases k4
    · cases h1
  · cases ha : i.agg with
    | true => exact .inl ⟨rfl, by unfold zeroOf; rw [ha]; rfl⟩
    | false =>
      rw [ha, cond_false] at h4
      split at h4
      · rename_i v hv
        exact .inr ⟨rfl, v, hv, by unfold zeroOf; rw [ha, hv]; rfl, h4⟩
      · cases h4
  · split at h6
    · rename_i d hd
      exact ⟨d, hd, descB_spec h6⟩
    · cases h6

end Go.Ev

namespace Go.Proofs.YtkdhkmcamojkiaaGreatDoor
open Go.Ev

theorem types_ok : PT.allAt (tyOkB Tryz.prog) tyTree id = true := by kernel_rfl

theorem names_ok : Tryz.funcs.toList.all (fun f => bif f.body.isSome then !(f.name == "runtime.NumGoroutine") else true) = true := by kernel_rfl

def extB (P : Program) (f : Nat) (_ : Ext) : Bool := match P.funcs[f]? with
  | some fn => fn.body.isNone && (!(fn.name == "runtime.NumGoroutine") && (Extern.findNext fn).isNone)
  | none => false
theorem exts_ok : PT.allAt (extB Tryz.prog) extTree id = true := by kernel_rfl

/-- The context: the world at the beginning; the one atom: what strconv.ErrSyntax holds. -/
noncomputable def ctx (memo : PT AV) (hooks : List Hook) (W : World) : Ctx := { P := Tryz.prog, T := tabsWith memo hooks, w0 := W, atom := fun _ => match W.cell? ⟨3, 0, none⟩ with | some v => v | none => .nilIface }

theorem find_same : Extern.find Tryz.f391 = some (extOf .same) := by kernel_rfl
theorem find_cmp : Extern.find Tryz.f397 = some (extOf .cmp) := by kernel_rfl
theorem find_count : Extern.find Tryz.f430 = some (extOf .count) := by kernel_rfl
theorem exts_only : PT.allAt (fun f e => match e with | .same => Nat.beq f 391 | .cmp => Nat.beq f 397 | .count => Nat.beq f 430) extTree id = true := by kernel_rfl
theorem globs_only : PT.allAt (fun g cs => Nat.beq g 3 && (match cs with | [.atom 0] => true | _ => false)) globTree id = true := by kernel_rfl

theorem ctx_ty {memo : PT AV} {hooks : List Hook} {W : World} {t : Nat} : (ctx memo hooks W).T.ty t = PT.get tyTree t := by kernel_rfl
theorem ctx_ext {memo : PT AV} {hooks : List Hook} {W : World} {t : Nat} : (ctx memo hooks W).T.ext t = PT.get extTree t := by kernel_rfl
theorem ctx_glob {memo : PT AV} {hooks : List Hook} {W : World} {t : Nat} : (ctx memo hooks W).T.glob t = PT.get globTree t := by kernel_rfl

theorem ctx_ok {memo : PT AV} {hooks : List Hook} {W : World} {u : TypeId} {v : Value} {ty : TypeId} {fr : Nat × Nat} (hat : W.heap[3]? = some (.cells #[.iface u v] ty fr)) : (ctx memo hooks W).Ok := by
  have hcell : W.cell? ⟨3, 0, none⟩ = some (.iface u v) := by simp [World.cell?, hat]
  have hatom : ∀ k, (ctx memo hooks W).atom k = .iface u v := fun k => by
    show (match W.cell? ⟨3, 0, none⟩ with | some v => v | none => .nilIface) = _
    rw [hcell]
  refine ⟨fun t i h => ?_, by kernel_rfl, fun f e h => ?_, fun g cs h => ?_, fun f fn h hb => ?_, by show Tryz.prog.follows .mixedOrders = true; kernel_rfl, fun k => by rw [hatom]; rfl, fun k b h => by rw [hatom] at h; cases h⟩
  · rw [ctx_ty] at h
    exact tyOkB_spec (PT.allAt_get (t := tyTree) (g := id) types_ok h)
  · rw [ctx_ext] at h
    have h1 := PT.allAt_get (t := extTree) (g := id) exts_ok h
    have h2 := PT.allAt_get (t := extTree) (g := id) exts_only h
    simp only [id] at h1 h2
    show ∃ fn, Tryz.prog.funcs[f]? = some fn ∧ _
    unfold extB at h1
    split at h1
    · rename_i fn hfn
      simp only [Bool.and_eq_true, Option.isNone_iff_eq_none, Bool.not_eq_true', beq_eq_false_iff_ne] at h1
      obtain ⟨k1, k2, k3⟩ := h1
      refine ⟨fn, hfn, k1, k2, k3, ?_⟩
      cases e with
      | same =>
        have := Nat.eq_of_beq_eq_true h2
        subst this
        rw [Option.some.inj (hfn.symm.trans Tryz.func391)]
        exact find_same
      | cmp =>
        have := Nat.eq_of_beq_eq_true h2
        subst this
        rw [Option.some.inj (hfn.symm.trans Tryz.func397)]
        exact find_cmp
      | count =>
        have := Nat.eq_of_beq_eq_true h2
        subst this
        rw [Option.some.inj (hfn.symm.trans Tryz.func430)]
        exact find_count
    · cases h1
  · rw [ctx_glob] at h
    have h1 := PT.allAt_get (t := globTree) (g := id) globs_only h
    simp only [id, Bool.and_eq_true] at h1
    obtain ⟨k1, k2⟩ := h1
    have := Nat.eq_of_beq_eq_true k1
    subst this
    split at k2
    · refine ⟨(Array.getElem?_eq_some_iff.1 hat).1, fun v hv ρ p => ?_, _, _, _, hat, fun i v hv ρ hρ => ?_⟩
      · rw [List.mem_singleton] at hv
        subst hv
        trivial
      · cases i with
        | succ i => simp at hv
        | zero =>
          simp only [List.getElem?_cons_zero, Option.some.injEq] at hv
          subst hv
          show _ = some (ρ.atom 0)
          rw [hρ, hatom]
          rfl
    · cases k2
  · have hm : fn ∈ Tryz.funcs.toList := by
      have h : Tryz.funcs[f]? = some fn := h
      exact Array.mem_toList_iff.2 (Array.mem_of_getElem? h)
    have := List.all_eq_true.1 names_ok fn hm
    rw [hb, cond_true, Bool.not_eq_true', beq_eq_false_iff_ne] at this
    exact this

end Go.Proofs.YtkdhkmcamojkiaaGreatDoor
