/- The small laws of the evaluator's data: the tree, the lists handed on in full, numbers. -/
import Derived.Test.YtkdhkmcamojkiaaGreatDoorEv
namespace Go.Ev

/-! ### The tree -/
namespace PT
variable {α β : Type}

theorem get_leaf (k : Nat) : (PT.leaf : PT α).get k = none := rfl
theorem get_node_zero (v : Option α) (l r : PT α) : (PT.node v l r).get 0 = v := rfl
theorem get_node_succ (v : Option α) (l r : PT α) (m : Nat) : (PT.node v l r).get (m + 1) = bif Nat.beq (m % 2) 0 then l.get (m / 2) else r.get (m / 2) := rfl

theorem get_put : ∀ (f : Nat) (t : PT α) (k : Nat) (x : Option α) (k' : Nat), k < f → (put f t k x).get k' = if k' = k then x else t.get k' := by
  intro f
  induction f with
  | zero => intro t k x k' h; omega
  | succ f ih =>
    intro t k x k' h
    have key : ∀ (m m' : Nat), m < f → (m' = m ↔ (m' % 2 = m % 2 ∧ m' / 2 = m / 2)) := fun m m' _ => by omega
    cases t with
    | leaf =>
      cases k with
      | zero =>
        cases k' with
        | zero => rfl
        | succ m' =>
          simp only [put, get_node_succ, get_leaf]
          cases Nat.beq (m' % 2) 0 <;> simp
      | succ m =>
        have hm : m / 2 < f := by omega
        simp only [put]
        cases hb : Nat.beq (m % 2) 0 with
        | true =>
          have hb' := Nat.eq_of_beq_eq_true hb
          cases k' with
          | zero => simp [get_node_zero, get_leaf]
          | succ m' =>
            simp only [cond_true, get_node_succ, get_leaf, Nat.add_right_cancel_iff]
            cases hb2 : Nat.beq (m' % 2) 0 with
            | true =>
              have hb2' := Nat.eq_of_beq_eq_true hb2
              rw [cond_true, ih _ _ _ _ hm]
              by_cases e : m' / 2 = m / 2
              · rw [if_pos e, if_pos (by omega)]
              · rw [if_neg e, if_neg (by omega)]; rfl
            | false =>
              have hb2' := Nat.ne_of_beq_eq_false hb2
              rw [cond_false, if_neg (by omega)]
        | false =>
          have hb' := Nat.ne_of_beq_eq_false hb
          cases k' with
          | zero => simp [get_node_zero, get_leaf]
          | succ m' =>
            simp only [cond_false, get_node_succ, get_leaf, Nat.add_right_cancel_iff]
            cases hb2 : Nat.beq (m' % 2) 0 with
            | true =>
              have hb2' := Nat.eq_of_beq_eq_true hb2
              rw [cond_true, if_neg (by omega)]
            | false =>
              have hb2' := Nat.ne_of_beq_eq_false hb2
              rw [cond_false, ih _ _ _ _ hm]
              by_cases e : m' / 2 = m / 2
              · rw [if_pos e, if_pos (by omega)]
              · rw [if_neg e, if_neg (by omega)]; rfl
    | node v l r =>
      cases k with
      | zero =>
        cases k' with
        | zero => rfl
        | succ m' => simp [put, get_node_succ]
      | succ m =>
        have hm : m / 2 < f := by omega
        simp only [put]
        cases hb : Nat.beq (m % 2) 0 with
        | true =>
          have hb' := Nat.eq_of_beq_eq_true hb
          cases k' with
          | zero => simp [get_node_zero]
          | succ m' =>
            simp only [cond_true, get_node_succ, Nat.add_right_cancel_iff]
            cases hb2 : Nat.beq (m' % 2) 0 with
            | true =>
              have hb2' := Nat.eq_of_beq_eq_true hb2
              rw [cond_true, cond_true, ih _ _ _ _ hm]
              by_cases e : m' / 2 = m / 2
              · rw [if_pos e, if_pos (by omega)]
              · rw [if_neg e, if_neg (by omega)]
            | false =>
              have hb2' := Nat.ne_of_beq_eq_false hb2
              rw [cond_false, cond_false, if_neg (by omega)]
        | false =>
          have hb' := Nat.ne_of_beq_eq_false hb
          cases k' with
          | zero => simp [get_node_zero]
          | succ m' =>
            simp only [cond_false, get_node_succ, Nat.add_right_cancel_iff]
            cases hb2 : Nat.beq (m' % 2) 0 with
            | true =>
              have hb2' := Nat.eq_of_beq_eq_true hb2
              rw [cond_true, cond_true, if_neg (by omega)]
            | false =>
              have hb2' := Nat.ne_of_beq_eq_false hb2
              rw [cond_false, cond_false, ih _ _ _ _ hm]
              by_cases e : m' / 2 = m / 2
              · rw [if_pos e, if_pos (by omega)]
              · rw [if_neg e, if_neg (by omega)]

theorem get_set (t : PT α) (k : Nat) (x : Option α) (k' : Nat) : (t.set k x).get k' = if k' = k then x else t.get k' :=
  get_put _ _ _ _ _ (by omega)
theorem get_set_same (t : PT α) (k : Nat) (x : Option α) : (t.set k x).get k = x := by simp [get_set]
theorem get_set_ne (t : PT α) {k k' : Nat} (x : Option α) (h : k' ≠ k) : (t.set k x).get k' = t.get k' := by simp [get_set, h]

theorem putK_eq : ∀ (f : Nat) (t : PT α) (k : Nat) (x : Option α) (c : PT α → β), putK f t k x c = c (put f t k x) := by
  intro f
  induction f with
  | zero => intros; rfl
  | succ f ih =>
    intro t k x c
    cases t with
    | leaf =>
      cases k with
      | zero => rfl
      | succ m => simp only [putK, put]; cases Nat.beq (m % 2) 0 <;> simp [ih]
    | node v l r =>
      cases k with
      | zero => rfl
      | succ m => simp only [putK, put]; cases Nat.beq (m % 2) 0 <;> simp [ih]

theorem setK_eq (t : PT α) (k : Nat) (x : Option α) (c : PT α → β) : t.setK k x c = c (t.set k x) := putK_eq _ _ _ _ _
end PT

/-! ### Lists and numbers, handed on in full -/
section
variable {α β : Type}

theorem natK_eq (n : Nat) (c : Nat → β) : natK n c = c n := by cases n <;> rfl
theorem intK_eq (n : Int) (c : Int → β) : intK n c = c n := by cases n <;> simp [intK, natK_eq]

def setL : List α → Nat → α → Option (List α)
  | [], _, _ => none
  | x :: xs, 0, v => let _ := x; some (v :: xs)
  | x :: xs, i + 1, v => match setL xs i v with | none => none | some ys => some (x :: ys)

theorem setK_eq : ∀ (l : List α) (i : Nat) (v : α) (c : Option (List α) → β), setK l i v c = c (setL l i v) := by
  intro l
  induction l with
  | nil => intros; rfl
  | cons x xs ih =>
    intro i v c
    cases i with
    | zero => rfl
    | succ i => simp only [setK, setL, ih]; cases setL xs i v <;> rfl

theorem setL_some : ∀ {l l' : List α} {i : Nat} {v : α}, setL l i v = some l' → i < l.length ∧ l' = l.set i v := by
  intro l
  induction l with
  | nil => intro l' i v h; cases h
  | cons x xs ih =>
    intro l' i v h
    cases i with
    | zero => simp only [setL, Option.some.injEq] at h; subst h; exact ⟨by simp, rfl⟩
    | succ i =>
      simp only [setL] at h
      cases hs : setL xs i v with
      | none => rw [hs] at h; cases h
      | some ys =>
        rw [hs] at h
        simp only [Option.some.injEq] at h
        subst h
        obtain ⟨h1, rfl⟩ := ih hs
        exact ⟨by simpa using h1, rfl⟩

theorem appK_eq : ∀ (xs ys : List α) (c : List α → β), appK xs ys c = c (xs ++ ys) := by
  intro xs
  induction xs with
  | nil => intros; rfl
  | cons x xs ih => intro ys c; simp [appK, ih]

def takeL : List α → Nat → Option (List α)
  | _, 0 => some []
  | [], _ + 1 => none
  | x :: xs, n + 1 => match takeL xs n with | none => none | some ys => some (x :: ys)

theorem takeK_eq : ∀ (l : List α) (n : Nat) (c : Option (List α) → β), takeK l n c = c (takeL l n) := by
  intro l
  induction l with
  | nil => intro n c; cases n <;> rfl
  | cons x xs ih =>
    intro n c
    cases n with
    | zero => rfl
    | succ n => simp only [takeK, takeL, ih]; cases takeL xs n <;> rfl

theorem takeL_some : ∀ {l r : List α} {n : Nat}, takeL l n = some r → n ≤ l.length ∧ r = l.take n := by
  intro l
  induction l with
  | nil =>
    intro r n h
    cases n with
    | zero => simp only [takeL, Option.some.injEq] at h; subst h; simp
    | succ n => cases h
  | cons x xs ih =>
    intro r n h
    cases n with
    | zero => simp only [takeL, Option.some.injEq] at h; subst h; simp
    | succ n =>
      simp only [takeL] at h
      cases ht : takeL xs n with
      | none => rw [ht] at h; cases h
      | some ys =>
        rw [ht] at h
        simp only [Option.some.injEq] at h
        subst h
        obtain ⟨h1, rfl⟩ := ih ht
        exact ⟨by simpa using h1, by simp⟩

theorem dropN_eq : ∀ (l : List α) (n : Nat), dropN l n = l.drop n := by
  intro l
  induction l with
  | nil => intro n; cases n <;> rfl
  | cons x xs ih => intro n; cases n with
    | zero => rfl
    | succ n => simp [dropN, ih]

theorem nth_eq : ∀ (l : List α) (n : Nat), nth l n = l[n]? := by
  intro l
  induction l with
  | nil => intro n; rfl
  | cons x xs ih => intro n; cases n with
    | zero => rfl
    | succ n => simp [nth, ih]

def repL : Nat → List α → List α → List α
  | 0, _, acc => acc
  | n + 1, zs, acc => repL n zs (zs ++ acc)

theorem repK_eq : ∀ (n : Nat) (zs acc : List α) (c : List α → β), repK n zs acc c = c (repL n zs acc) := by
  intro n
  induction n with
  | zero => intros; rfl
  | succ n ih => intro zs acc c; simp [repK, repL, appK_eq, ih]

theorem lenL_eq : ∀ (l : List α) (n : Nat), lenL l n = l.length + n := by
  intro l
  induction l with
  | nil => intro n; simp [lenL]
  | cons x xs ih => intro n; cases n <;> simp [lenL, ih] <;> omega

theorem bytesK_eq : ∀ (l : List UInt8) (c : List Nat → β), bytesK l c = c (l.map (·.toNat)) := by
  intro l
  induction l with
  | nil => intros; rfl
  | cons x xs ih => intro c; simp [bytesK, natK_eq, ih]

theorem strCells_eq : ∀ (l : List (List Nat)) (c : List AV → β), strCells l c = c (l.map .str) := by
  intro l
  induction l with
  | nil => intros; rfl
  | cons x xs ih => intro c; simp [strCells, ih]
end

theorem eqI_eq (a b : Int) : eqI a b = decide (a = b) := by
  rw [Bool.eq_iff_iff]
  cases a <;> cases b <;> simp only [eqI, Nat.beq_eq, decide_eq_true_eq, Bool.false_eq_true, false_iff, Int.ofNat_eq_natCast, Int.negSucc_eq] <;> omega
theorem ltI_eq (a b : Int) : ltI a b = decide (a < b) := by
  rw [Bool.eq_iff_iff]
  cases a <;> cases b <;> simp only [ltI, Nat.blt_eq, decide_eq_true_eq, Bool.false_eq_true, false_iff, true_iff, Int.ofNat_eq_natCast, Int.negSucc_eq] <;> omega

theorem beqB_eq (a b : Bool) : beqB a b = (a == b) := by cases a <;> cases b <;> rfl

theorem kindEq_eq {a b : IntKind} (h : kindEq a b = true) : a = b := by cases a <;> cases b <;> first | rfl | cases h
theorem kindEq_ne {a b : IntKind} (h : kindEq a b = false) : a ≠ b := by
  intro e; subst e; cases a <;> cases h

theorem wrapF_eq (k : IntKind) (n : Int) : wrapF k n = k.wrap n := by
  cases n with
  | negSucc m => rfl
  | ofNat m =>
    simp only [wrapF]
    cases h : Nat.blt m (2 ^ (match k with | .i8 => 7 | .u8 => 8 | .i16 => 15 | .u16 => 16 | .i32 => 31 | .u32 => 32 | .i64 => 63 | .u64 => 64)) with
    | false => rfl
    | true =>
      rw [Nat.blt_eq] at h
      simp only [cond_true]
      cases k <;> simp [IntKind.wrap, IntKind.bits, IntKind.signed] at h ⊢ <;> omega

theorem natOf_eq (k : IntKind) (n : Int) : natOf k n = (BitVec.ofInt k.bits n).toNat := by
  cases n with
  | ofNat m => simp [natOf]
  | negSucc m =>
    simp only [natOf, BitVec.toNat_ofInt]
    cases k <;> simp [IntKind.wrap, IntKind.bits, IntKind.signed] <;> omega

end Go.Ev
