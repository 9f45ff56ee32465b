/- What abstract values, slots and heaps stand for: a naming of the abstract blocks by the model's blocks. -/
import Derived.Test.YtkdhkmcamojkiaaGreatDoorBase
import Derived.OrdersIn
import Derived.RangeFuncLeaves
namespace Go.Ev

/-- A naming: of an abstract block its block, where in it it begins, how many elements an open one holds; of an atom its value. -/
structure Env where
  blk : Nat → Nat
  base : Nat → Nat
  cap : Nat → Nat
  atom : Nat → Value

def ACap.conc (ρ : Env) : ACap → Nat
  | .known n => n
  | .upto b j => ρ.cap b - j
def ACap.ok (ρ : Env) (p : Nat → Prop) (len : Nat) : ACap → Prop
  | .known n => len ≤ n
  | .upto b j => p b ∧ j + len ≤ ρ.cap b

def bytesOf (s : List Nat) : ByteArray := ⟨(s.map UInt8.ofNat).toArray⟩

mutual
def AV.conc (ρ : Env) : AV → Value
  | .bool b => .bool b
  | .int k n => .int k n
  | .str s => .string (bytesOf s)
  | .ptr b o => .pointer (some ⟨ρ.blk b, ρ.base b + o, none⟩)
  | .nilp => .pointer none
  | .gptr g => .pointer (some ⟨g, 0, none⟩)
  | .slc b o len cap => .slice (some ⟨ρ.blk b, ρ.base b + o, none⟩) len (cap.conc ρ)
  | .emp k => .slice (some ⟨ρ.blk k, ρ.base k, none⟩) 0 (ρ.cap k)
  | .nils => .slice none 0 0
  | .map b => .map (some (ρ.blk b))
  | .nilm => .map none
  | .func f caps => .func (.func f) #[] (concs ρ caps).toArray
  | .nilf => .nilFunc
  | .yld l => .func (.yield (ρ.blk l)) #[] #[]
  | .iface t v => .iface t (v.conc ρ)
  | .nili => .nilIface
  | .agg l => .agg (concs ρ l).toArray
  | .tup l => .tuple (concs ρ l).toArray
  | .atom k => ρ.atom k
def concs (ρ : Env) : List AV → List Value
  | [] => []
  | v :: vs => v.conc ρ :: concs ρ vs
end

mutual
/-- All numbers in it are such. -/
def AV.ok (ρ : Env) (p : Nat → Prop) : AV → Prop
  | .ptr b _ => p b
  | .slc b _ len cap => p b ∧ cap.ok ρ p len
  | .emp k => p k
  | .map b => p b
  | .func _ caps => oks ρ p caps
  | .yld l => p l
  | .iface _ v => v.ok ρ p
  | .agg l => oks ρ p l
  | .tup l => oks ρ p l
  | _ => True
def oks (ρ : Env) (p : Nat → Prop) : List AV → Prop
  | [] => True
  | v :: vs => v.ok ρ p ∧ oks ρ p vs
end

theorem concs_eq (ρ : Env) : ∀ l : List AV, concs ρ l = l.map (AV.conc ρ)
  | [] => rfl
  | v :: vs => by simp [concs, concs_eq ρ vs]
theorem oks_iff (ρ : Env) (p : Nat → Prop) : ∀ l : List AV, oks ρ p l ↔ ∀ v ∈ l, v.ok ρ p
  | [] => by simp [oks]
  | v :: vs => by simp [oks, oks_iff ρ p vs]

def Env.same (ρ ρ' : Env) (id : Nat) : Prop := ρ'.blk id = ρ.blk id ∧ ρ'.base id = ρ.base id ∧ ρ'.cap id = ρ.cap id
/-- One naming goes on from another on all numbers that are such. -/
def Env.agree (p : Nat → Prop) (ρ ρ' : Env) : Prop := ρ'.atom = ρ.atom ∧ ∀ id, p id → ρ.same ρ' id

theorem Env.agree.refl (p : Nat → Prop) (ρ : Env) : Env.agree p ρ ρ := ⟨rfl, fun _ _ => ⟨rfl, rfl, rfl⟩⟩
theorem Env.agree.trans {p p' : Nat → Prop} {ρ ρ' ρ'' : Env} (h : Env.agree p ρ ρ') (h' : Env.agree p' ρ' ρ'') (hp : ∀ id, p id → p' id) : Env.agree p ρ ρ'' :=
  ⟨h'.1.trans h.1, fun id hid => let a := h.2 id hid; let b := h'.2 id (hp id hid); ⟨b.1.trans a.1, b.2.1.trans a.2.1, b.2.2.trans a.2.2⟩⟩

section
variable {p : Nat → Prop} {ρ ρ' : Env}
theorem ACap.conc_congr (h : Env.agree p ρ ρ') : ∀ (n : Nat) (c : ACap), c.ok ρ p n → c.conc ρ' = c.conc ρ
  | _, .known _, _ => rfl
  | _, .upto b j, hc => by simp [ACap.conc, (h.2 b hc.1).2.2]

mutual
theorem AV.conc_congr (h : Env.agree p ρ ρ') : ∀ v : AV, v.ok ρ p → v.conc ρ' = v.conc ρ
  | .bool _, _ => rfl
  | .int _ _, _ => rfl
  | .str _, _ => rfl
  | .ptr b o, hv => by simp [AV.conc, (h.2 b hv).1, (h.2 b hv).2.1]
  | .nilp, _ => rfl
  | .gptr _, _ => rfl
  | .slc b o len cap, hv => by simp [AV.conc, (h.2 b hv.1).1, (h.2 b hv.1).2.1, ACap.conc_congr h _ cap hv.2]
  | .emp k, hv => by simp [AV.conc, (h.2 k hv).1, (h.2 k hv).2.1, (h.2 k hv).2.2]
  | .nils, _ => rfl
  | .map b, hv => by simp [AV.conc, (h.2 b hv).1]
  | .nilm, _ => rfl
  | .func f caps, hv => by simp [AV.conc, concs_congr h caps hv]
  | .nilf, _ => rfl
  | .yld l, hv => by simp [AV.conc, (h.2 l hv).1]
  | .iface t v, hv => by simp [AV.conc, AV.conc_congr h v hv]
  | .nili, _ => rfl
  | .agg l, hv => by simp [AV.conc, concs_congr h l hv]
  | .tup l, hv => by simp [AV.conc, concs_congr h l hv]
  | .atom k, _ => by simp [AV.conc, h.1]
theorem concs_congr (h : Env.agree p ρ ρ') : ∀ l : List AV, oks ρ p l → concs ρ' l = concs ρ l
  | [], _ => rfl
  | v :: vs, hl => by simp [concs, AV.conc_congr h v hl.1, concs_congr h vs hl.2]
end
end

mutual
theorem AV.ok_mono {p p' : Nat → Prop} {ρ ρ' : Env} (ha : Env.agree p ρ ρ') (hp : ∀ id, p id → p' id) : ∀ v : AV, v.ok ρ p → v.ok ρ' p'
  | .bool _, _ => trivial
  | .int _ _, _ => trivial
  | .str _, _ => trivial
  | .ptr b _, hv => hp b hv
  | .nilp, _ => trivial
  | .gptr _, _ => trivial
  | .slc b _ _ cap, hv => ⟨hp b hv.1, by cases cap with | known _ => exact hv.2 | upto b j => exact ⟨hp b hv.2.1, by rw [(ha.2 b hv.2.1).2.2]; exact hv.2.2⟩⟩
  | .emp k, hv => hp k hv
  | .nils, _ => trivial
  | .map b, hv => hp b hv
  | .nilm, _ => trivial
  | .func _ caps, hv => oks_mono ha hp caps hv
  | .nilf, _ => trivial
  | .yld l, hv => hp l hv
  | .iface _ v, hv => AV.ok_mono ha hp v hv
  | .nili, _ => trivial
  | .agg l, hv => oks_mono ha hp l hv
  | .tup l, hv => oks_mono ha hp l hv
  | .atom _, _ => trivial
theorem oks_mono {p p' : Nat → Prop} {ρ ρ' : Env} (ha : Env.agree p ρ ρ') (hp : ∀ id, p id → p' id) : ∀ l : List AV, oks ρ p l → oks ρ' p' l
  | [], _ => trivial
  | v :: vs, hl => ⟨AV.ok_mono ha hp v hl.1, oks_mono ha hp vs hl.2⟩
end

mutual
/-- No number in it. -/
def AV.ground : AV → Bool
  | .ptr _ _ | .slc .. | .emp _ | .map _ | .yld _ | .atom _ => false
  | .func _ caps => grounds caps
  | .iface _ v => v.ground
  | .agg l => grounds l
  | .tup l => grounds l
  | _ => true
def grounds : List AV → Bool
  | [] => true
  | v :: vs => v.ground && grounds vs
end

mutual
theorem AV.ground_ok (ρ : Env) (p : Nat → Prop) : ∀ v : AV, v.ground = true → v.ok ρ p
  | .bool _, _ => trivial
  | .int _ _, _ => trivial
  | .str _, _ => trivial
  | .ptr _ _, h => by simp [AV.ground] at h
  | .nilp, _ => trivial
  | .gptr _, _ => trivial
  | .slc _ _ _ _, h => by simp [AV.ground] at h
  | .emp _, h => by simp [AV.ground] at h
  | .nils, _ => trivial
  | .map _, h => by simp [AV.ground] at h
  | .nilm, _ => trivial
  | .func _ caps, h => grounds_ok ρ p caps (by simpa [AV.ground] using h)
  | .nilf, _ => trivial
  | .yld _, h => by simp [AV.ground] at h
  | .iface _ v, h => AV.ground_ok ρ p v (by simpa [AV.ground] using h)
  | .nili, _ => trivial
  | .agg l, h => grounds_ok ρ p l (by simpa [AV.ground] using h)
  | .tup l, h => grounds_ok ρ p l (by simpa [AV.ground] using h)
  | .atom _, _ => trivial
theorem grounds_ok (ρ : Env) (p : Nat → Prop) : ∀ l : List AV, grounds l = true → oks ρ p l
  | [], _ => trivial
  | v :: vs, h => by
    simp only [grounds, Bool.and_eq_true] at h
    exact ⟨AV.ground_ok ρ p v h.1, grounds_ok ρ p vs h.2⟩
end

theorem conc_one {ρ : Env} {v : AV} (hv : oneCell v = true) (ha : ∀ k, v ≠ .atom k) : (v.conc ρ).oneCell' = true := by
  cases v <;> first | rfl | (simp [oneCell] at hv; done) | exact absurd rfl (ha _)

/-! ### Slots -/
structure Tm (ρ : Env) (p : Nat → Prop) (tm : PT AV) (sz : Nat) (tmps : Array Value) : Prop where
  size : tmps.size = sz
  val : ∀ t : Nat, tmps.getD t undef = (rdTmp tm t).conc ρ
  ok : ∀ t, (rdTmp tm t).ok ρ p

theorem undef_conc (ρ : Env) : AV.undef.conc ρ = undef := rfl

theorem Tm.mono {ρ ρ' : Env} {p p' : Nat → Prop} {tm : PT AV} {sz : Nat} {tmps : Array Value} (h : Tm ρ p tm sz tmps) (ha : Env.agree p ρ ρ') (hp : ∀ id, p id → p' id) : Tm ρ' p' tm sz tmps :=
  ⟨h.size, fun t => by rw [h.val t, AV.conc_congr ha _ (h.ok t)], fun t => AV.ok_mono ha hp _ (h.ok t)⟩

theorem rdTmp_set (tm : PT AV) (d : Nat) (v : AV) (t : Nat) : rdTmp (tm.set d (some v)) t = if t = d then v else rdTmp tm t := by
  unfold rdTmp
  rw [PT.get_set]
  by_cases e : t = d
  · simp [e]
  · simp [e]

theorem Tm.set {ρ : Env} {p : Nat → Prop} {tm : PT AV} {sz : Nat} {tmps : Array Value} (h : Tm ρ p tm sz tmps) {d : Nat} {v : AV} (hd : d < sz) (hv : v.ok ρ p) :
    Tm ρ p (tm.set d (some v)) sz (tmps.setIfInBounds d (v.conc ρ)) := by
  have hds : d < tmps.size := h.size ▸ hd
  refine ⟨by simp [h.size], fun t => ?_, fun t => ?_⟩
  · rw [rdTmp_set]
    by_cases e : t = d
    · subst e; simp [hds]
    · rw [if_neg e, ← h.val t]
      have : d ≠ t := fun x => e x.symm
      simp [Array.getD_eq_getD_getElem?, Array.getElem?_setIfInBounds_ne this]
  · rw [rdTmp_set]
    split
    · exact hv
    · exact h.ok t

theorem putTm_some {tm tm' : PT AV} {sz : Nat} {d : Option Tmp} {v : AV} (h : putTm tm sz d v = some tm') :
    (d = none ∧ tm' = tm) ∨ ∃ t, d = some t ∧ t < sz ∧ tm' = tm.set t (some v) := by
  cases d with
  | none => simp only [putTm, Option.some.injEq] at h; exact .inl ⟨rfl, h.symm⟩
  | some t =>
    simp only [putTm, PT.setK_eq] at h
    cases hb : Nat.blt t sz with
    | false => rw [hb] at h; cases h
    | true =>
      rw [hb] at h
      simp only [cond_true, Option.some.injEq] at h
      exact .inr ⟨t, rfl, by simpa [Nat.blt_eq] using hb, h.symm⟩

theorem Tm.put {ρ : Env} {p : Nat → Prop} {tm tm' : PT AV} {sz : Nat} {a : Act} {d : Option Tmp} {v : AV} (h : Tm ρ p tm sz a.tmps) (hp : putTm tm sz d v = some tm') (hv : v.ok ρ p) :
    Tm ρ p tm' sz (a.put d (v.conc ρ)).tmps := by
  rcases putTm_some hp with ⟨rfl, rfl⟩ | ⟨t, rfl, ht, rfl⟩
  · exact h
  · exact h.set ht hv

/-! ### Operands -/
theorem ofConst_conc {v : Value} {x : AV} (h : ofConst v = some x) (ρ : Env) (p : Nat → Prop) : x.conc ρ = v ∧ x.ok ρ p := by
  unfold ofConst at h
  split at h
  all_goals try (simp only [Option.some.injEq] at h; subst h; exact ⟨rfl, trivial⟩)
  · rw [bytesK_eq] at h
    simp only [Option.some.injEq] at h
    subst h
    refine ⟨?_, trivial⟩
    simp only [AV.conc, bytesOf, List.map_map]
    congr 1
    rename_i s
    have : s.data.toList.map (UInt8.ofNat ∘ fun x => x.toNat) = s.data.toList := by
      conv => rhs; rw [← List.map_id s.data.toList]
      exact List.map_congr_left fun x _ => by simp
    rw [this]
  · rename_i vs
    split at h
    · rename_i hvs
      simp only [Option.some.injEq] at h
      subst h
      refine ⟨?_, trivial⟩
      have : vs = #[] := by rw [← Array.toList_inj]; exact hvs
      subst this
      rfl
    · cases h
  · cases h

theorem evalO_some {ρ : Env} {p : Nat → Prop} {tm : PT AV} {sz : Nat} {a : Act} (h : Tm ρ p tm sz a.tmps) {x : Operand} {v : AV} (hv : evalO tm x = some v) :
    a.eval x = v.conc ρ ∧ v.ok ρ p := by
  cases x with
  | tmp t =>
    simp only [evalO, Option.some.injEq] at hv
    subst hv
    exact ⟨h.val t, h.ok t⟩
  | const c =>
    obtain ⟨h1, h2⟩ := ofConst_conc hv ρ p
    exact ⟨h1.symm, h2⟩
  | global g => simp only [evalO, Option.some.injEq] at hv; subst hv; exact ⟨rfl, trivial⟩
  | func f => simp only [evalO, Option.some.injEq] at hv; subst hv; exact ⟨rfl, trivial⟩

theorem evalL_some {ρ : Env} {p : Nat → Prop} {tm : PT AV} {sz : Nat} {a : Act} (h : Tm ρ p tm sz a.tmps) : ∀ {l : List Operand} {vs : List AV}, evalL tm l = some vs →
    l.map a.eval = vs.map (AV.conc ρ) ∧ ∀ v ∈ vs, v.ok ρ p
  | [], vs, hv => by simp only [evalL, Option.some.injEq] at hv; subst hv; simp
  | x :: xs, vs, hv => by
    simp only [evalL] at hv
    cases hx : evalO tm x with
    | none => rw [hx] at hv; cases hv
    | some v =>
      rw [hx] at hv
      cases hxs : evalL tm xs with
      | none => rw [hxs] at hv; cases hv
      | some ws =>
        rw [hxs] at hv
        simp only [Option.some.injEq] at hv
        subst hv
        obtain ⟨h1, h2⟩ := evalO_some h hx
        obtain ⟨h3, h4⟩ := evalL_some h hxs
        refine ⟨by simp [h1, h3], fun v hv => ?_⟩
        rcases List.mem_cons.1 hv with rfl | hv
        · exact h2
        · exact h4 v hv

end Go.Ev
