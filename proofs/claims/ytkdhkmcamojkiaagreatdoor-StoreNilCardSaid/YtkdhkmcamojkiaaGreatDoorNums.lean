/- Operators: numbers, strings, comparisons. -/
import Derived.Test.YtkdhkmcamojkiaaGreatDoorOps
import Derived.Laws.Strings
namespace Go.Ev

section ops
variable {C : Ctx} {ρ : Env} {p : Nat → Prop} {tm : PT AV} {sz : Nat} {a : Act} {hp : Heap} {w : World}

/-- What an operation on two values comes to. -/
def Gives (P : Program) (s : Sem Value) (w : World) (ρ : Env) (p : Nat → Prop) (v : AV) : Prop := s.run P w = .ok (v.conc ρ) w ∧ v.ok ρ p

theorem toNat_land (k : IntKind) (a b : Int) : (BitVec.ofInt k.bits a &&& BitVec.ofInt k.bits b).toNat = Nat.land (natOf k a) (natOf k b) := by
  rw [BitVec.toNat_and, natOf_eq, natOf_eq]; rfl
theorem toNat_lor (k : IntKind) (a b : Int) : (BitVec.ofInt k.bits a ||| BitVec.ofInt k.bits b).toNat = Nat.lor (natOf k a) (natOf k b) := by
  rw [BitVec.toNat_or, natOf_eq, natOf_eq]; rfl
theorem toNat_xor (k : IntKind) (a b : Int) : (BitVec.ofInt k.bits a ^^^ BitVec.ofInt k.bits b).toNat = Nat.xor (natOf k a) (natOf k b) := by
  rw [BitVec.toNat_xor, natOf_eq, natOf_eq]; rfl

theorem binI_sound {op : BinOp} {k : IntKind} {x y : Int} {v : AV} {t : Nat} {P : Program} (h : binI op k x y = some v) (h1 : op ≠ .shl) (h2 : op ≠ .shr) :
    Gives P (binOp op t (.int k x) (.int k y)) w ρ p v := by
  unfold Gives
  cases op <;> simp only [binI, intK_eq, wrapF_eq, Option.some.injEq, reduceCtorEq] at h <;> first
    | exact absurd rfl h1
    | exact absurd rfl h2
    | skip
  case add => subst h; exact ⟨by simp [binOp, Op.intArith, AV.conc], trivial⟩
  case sub => subst h; exact ⟨by simp [binOp, Op.intArith, AV.conc], trivial⟩
  case mul => subst h; exact ⟨by simp [binOp, Op.intArith, AV.conc], trivial⟩
  case quo =>
    rw [eqI_eq] at h
    by_cases e : y = 0
    · simp [e] at h
    · simp only [e, decide_false, cond_false, Option.some.injEq] at h
      subst h
      exact ⟨by simp [binOp, Op.intDiv, AV.conc, e], trivial⟩
  case rem =>
    rw [eqI_eq] at h
    by_cases e : y = 0
    · simp [e] at h
    · simp only [e, decide_false, cond_false, Option.some.injEq] at h
      subst h
      exact ⟨by simp [binOp, Op.intDiv, AV.conc, e], trivial⟩
  case and => subst h; refine ⟨?_, trivial⟩; rw [← toNat_land]; simp [binOp, Op.intBits, AV.conc]
  case or => subst h; refine ⟨?_, trivial⟩; rw [← toNat_lor]; simp [binOp, Op.intBits, AV.conc]
  case xor => subst h; refine ⟨?_, trivial⟩; rw [← toNat_xor]; simp [binOp, Op.intBits, AV.conc]
  case eql => subst h; exact ⟨by simp [binOp, Op.intCmp, AV.conc, eqI_eq]; rfl, trivial⟩
  case neq => subst h; exact ⟨by simp [binOp, Op.intCmp, AV.conc, eqI_eq]; rfl, trivial⟩
  case lss => subst h; exact ⟨by simp [binOp, Op.intCmp, AV.conc, ltI_eq], trivial⟩
  case leq => subst h; exact ⟨by simp [binOp, Op.intCmp, AV.conc, ltI_eq, ← Int.not_lt], trivial⟩
  case gtr => subst h; exact ⟨by simp [binOp, Op.intCmp, AV.conc, ltI_eq], trivial⟩
  case geq => subst h; exact ⟨by simp [binOp, Op.intCmp, AV.conc, ltI_eq, ← Int.not_lt], trivial⟩

theorem shiftI_sound {op : BinOp} {k k' : IntKind} {x y : Int} {v : AV} {t : Nat} {P : Program} (h : shiftI op k x y = some v) :
    Gives P (binOp op t (.int k x) (.int k' y)) w ρ p v := by
  unfold Gives
  cases y with
  | negSucc m => simp [shiftI] at h
  | ofNat y =>
    have hn : (bif Nat.ble y k.bits then y else k.bits) = min y k.bits := by
      cases hb : Nat.ble y k.bits with
      | true => have := Nat.le_of_ble_eq_true hb; simp; omega
      | false => have : ¬ y ≤ k.bits := fun hle => by rw [Nat.ble_eq_true_of_le hle] at hb; cases hb
                 simp; omega
    simp only [shiftI, hn, intK_eq, wrapF_eq, natK_eq] at h
    have h0 : ¬ (Int.ofNat y < 0) := by simp only [Int.ofNat_eq_natCast]; omega
    cases op <;> simp only [Option.some.injEq, reduceCtorEq] at h
    case shl => subst h; exact ⟨by simp only [binOp, Op.shift, if_neg h0, AV.conc, Sem.run_pure, Int.toNat], trivial⟩
    case shr =>
      cases x with
      | negSucc m => simp at h
      | ofNat m =>
        simp only [Option.some.injEq] at h
        subst h
        refine ⟨?_, trivial⟩
        simp only [binOp, Op.shift, if_neg h0, AV.conc, Sem.run_pure, Int.toNat]
        congr 2
        have : ((2 : Int) ^ min y k.bits) = ((2 ^ min y k.bits : Nat) : Int) := by simp
        rw [this]
        exact (Int.ofNat_fdiv m _).symm

theorem bytesOf_toList (s : List Nat) : (bytesOf s).toList = s.map UInt8.ofNat := by
  rw [ByteArray.toList_eq]
  simp [bytesOf]

theorem eqL_eq : ∀ a b : List Nat, eqL a b = (a.map UInt8.ofNat == b.map UInt8.ofNat)
  | [], [] => rfl
  | [], _ :: _ => rfl
  | _ :: _, [] => rfl
  | x :: xs, y :: ys => by
    simp only [eqL, List.map_cons, eqL_eq xs ys]
    have : Nat.beq (x % 256) (y % 256) = (UInt8.ofNat x == UInt8.ofNat y) := by
      rw [Bool.eq_iff_iff, Nat.beq_eq, beq_iff_eq, ← UInt8.toNat_inj]
      simp
    rw [this]
    show _ = (UInt8.ofNat x == UInt8.ofNat y && (xs.map UInt8.ofNat == ys.map UInt8.ofNat))
    cases UInt8.ofNat x == UInt8.ofNat y <;> rfl

theorem ltL_eq : ∀ a b : List Nat, ltL a b = Op.bytesLess (a.map UInt8.ofNat) (b.map UInt8.ofNat)
  | _, [] => by simp [ltL, Op.bytesLess]
  | [], _ :: _ => by simp [ltL, Op.bytesLess]
  | x :: xs, y :: ys => by
    simp only [ltL, List.map_cons, Op.bytesLess, ltL_eq xs ys]
    have h1 : Nat.beq (x % 256) (y % 256) = (UInt8.ofNat x == UInt8.ofNat y) := by
      rw [Bool.eq_iff_iff, Nat.beq_eq, beq_iff_eq, ← UInt8.toNat_inj]
      simp
    have h2 : Nat.blt (x % 256) (y % 256) = decide (UInt8.ofNat x < UInt8.ofNat y) := by
      rw [Bool.eq_iff_iff, Nat.blt_eq, decide_eq_true_eq, UInt8.lt_iff_toNat_lt]
      simp
    rw [h1, h2]
    cases decide (UInt8.ofNat x < UInt8.ofNat y) <;> cases UInt8.ofNat x == UInt8.ofNat y <;> rfl

theorem bytesOf_append (a b : List Nat) : bytesOf a ++ bytesOf b = bytesOf (a ++ b) := by
  apply ByteArray.ext
  rw [ByteArray.data_append]
  simp [bytesOf]

theorem binS_sound {op : BinOp} {x y : List Nat} {v : AV} {t : Nat} {P : Program} (h : binS op x y = some v) :
    Gives P (binOp op t (.string (bytesOf x)) (.string (bytesOf y))) w ρ p v := by
  unfold Gives
  cases op <;> simp only [binS, appK_eq, Option.some.injEq, reduceCtorEq] at h
  case add =>
    cases hb : Nat.ble (x.length + y.length) 9223372036854775807 with
    | false => rw [hb] at h; cases h
    | true =>
      rw [hb] at h
      have hle := Nat.le_of_ble_eq_true hb
      simp only [cond_true, Option.some.injEq] at h
      subst h
      refine ⟨?_, trivial⟩
      have hn : ¬ (((bytesOf x).size + (bytesOf y).size : Nat) : Int) > IntKind.i64.max := by
        rw [bytesOf_size, bytesOf_size]
        have : IntKind.i64.max = 9223372036854775807 := by decide
        rw [this]
        omega
      simp only [binOp, Op.stringOp, if_neg hn, Sem.run_pure, bytesOf_append, AV.conc]
  all_goals
    subst h
    refine ⟨?_, trivial⟩
    simp only [binOp, Op.stringOp, Sem.run_pure, AV.conc, bytesOf_toList, eqL_eq, ltL_eq]

end ops
end Go.Ev
